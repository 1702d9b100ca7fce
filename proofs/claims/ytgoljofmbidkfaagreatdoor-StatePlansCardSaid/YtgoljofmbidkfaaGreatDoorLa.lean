import Derived.Test.YtgoljofmbidkfaaGreatDoorSv
import Derived.Test.YtgoljofmbidkfaaGreatDoorEr
import Derived.Test.YtgoljofmbidkfaaGreatDoorCl
/- Turns of cells by their numbers; two turns at once; lists and seas in new memory. No condition. -/
namespace Go.Proofs.YtgoljofmbidkfaaGreatDoor
open Go Go.Eng
set_option maxRecDepth 100000
set_option linter.unusedSimpArgs false
set_option linter.unusedVariables false

/-- Axes that are compared. -/
def eq9 (a b : Nat → Int) : Bool := (a 0 == b 0 && (a 1 == b 1 && (a 2 == b 2 && true))) && ((a 3 == b 3 && (a 4 == b 4 && (a 5 == b 5 && true))) && ((a 6 == b 6 && (a 7 == b 7 && (a 8 == b 8 && true))) && true))
theorem eq9_no : ∀ k, k < 24 → ∀ r, r < 24 → k ≠ r → eq9 (tx k) (tx r) = false := by decide +kernel
theorem eq9_yes (a : Nat → Int) : eq9 a a = true := by simp [eq9]
theorem aft_tx : ∀ u, u < 24 → ∀ t, t < 24 → ∀ k, k < 3 → ∀ r, r < 3 → tx u r * tx t (3 * k) + tx u (3 + r) * tx t (3 * k + 1) + tx u (6 + r) * tx t (3 * k + 2) = tx (aft u t) (3 * k + r) := by decide +kernel
abbrev nineB (a : Nat → Int) : Blk := ⟨true, .cells [I (a 0), I (a 1), I (a 2), I (a 3), I (a 4), I (a 5), I (a 6), I (a 7), I (a 8)]⟩
set_option maxHeartbeats 0 in
theorem after_ok (u t : Nat) (hu : u < 24) (ht : t < 24) (x : List Blk) : COk Tryz.prog 3 34 [I u, I t] (GG x) (I (aft u t)) (GG x) := by
  refine lift ?_ rfl x
  have hr := aft_lt hu ht
  have hk := aft_tx u hu t ht
  have ub : ∀ k, k < 9 → -200 ≤ tx t k ∧ tx t k ≤ 200 := fun k hk => by
    rcases tx_unit t ht k hk with h | h | h <;> rw [h] <;> decide
  have hT0 := turned_ok u hu (ub 0 (by decide)) (ub 1 (by decide)) (ub 2 (by decide)) (hk 0 (by decide) 0 (by decide)) (hk 0 (by decide) 1 (by decide)) (hk 0 (by decide) 2 (by decide))
  have hT1 := turned_ok u hu (ub 3 (by decide)) (ub 4 (by decide)) (ub 5 (by decide)) (hk 1 (by decide) 0 (by decide)) (hk 1 (by decide) 1 (by decide)) (hk 1 (by decide) 2 (by decide))
  have hT2 := turned_ok u hu (ub 6 (by decide)) (ub 7 (by decide)) (ub 8 (by decide)) (hk 2 (by decide) 0 (by decide)) (hk 2 (by decide) 1 (by decide)) (hk 2 (by decide) 2 (by decide))
  have hno := fun k hk' hne => eq9_no k hk' (aft u t) hr hne
  clear hk ub
  generalize aft u t = r at *
  refine COk_quiet Tryz.f34 Tryz.func34 (by kernel_rfl) rfl ?_
  (conv => whnf); repeat ((first | refine ⟨_, _, axes_ok t ht _, ?_⟩ | refine ⟨_, axes_ok t ht _, ?_⟩ | refine ⟨_, _, axes_ok u hu _, ?_⟩ | refine ⟨_, axes_ok u hu _, ?_⟩ | refine ⟨_, _, hT0 _, ?_⟩ | refine ⟨_, hT0 _, ?_⟩ | refine ⟨_, _, hT1 _, ?_⟩ | refine ⟨_, hT1 _, ?_⟩ | refine ⟨_, _, hT2 _, ?_⟩ | refine ⟨_, hT2 _, ?_⟩ | refine br_d (by omega) ?_ | refine br_nd (by omega) ?_ | refine br_eq (by omega) ?_ | refine br_neq (by omega) ?_ | refine br_ne (by omega) ?_ | refine br_no (bo_eqn (by omega)) ?_ | refine Or.inl ?_ | refine okS_no (by kernel_rfl) ?_ | refine okS_yes (by kernel_rfl) ?_ | refine And_of (by (conv => whnf); (rw [getB_app0]); (conv => whnf)) ?_ | refine setB_app ?_ | refine setB_app0 ?_ | rw [getB_app] | rw [getB_app0] | refine addB_f13 ?_ | refine addB_f12 ?_ | refine addB_f11 ?_ | refine addB_f10 ?_ | refine addB_f9 ?_ | refine addB_f8 ?_ | refine addB_f7 ?_ | refine addB_f6 ?_ | refine addB_f5 ?_ | refine addB_f4 ?_ | refine addB_f3 ?_ | refine addB_f2 ?_ | refine addB_f1 ?_ | refine addB_f0 ?_); conv => whnf)
  refine loop_to (fun k => [.any, .any, .any, .any, .any, .any, .any, .ptr 5 0, .any, .any, .any, .any, .any, .any, .any, .any, .any, .any, .any, .any, .any, .any, .any, .any, .any, .any, .any, .any, .any, .any, .any, .any, .any, .any, .any, .any, .any, .any, .any, .any, I k, .any, .any, .any, .any, .any, .any, .any, .any]) (fun _ => GG [nineB (tx t), nineB (tx u), nineB (tx r)]) 0 r (Nat.zero_le _) ?_ ?_ ?_
  · refine Fg.of [] ?_ rfl (by simp) rfl rfl
    conv => whnf
    exact ⟨rfl, rfl, rfl⟩
  · intro k _ hk
    (conv => whnf); repeat ((first | refine ⟨_, _, axes_ok k (by omega) _, ?_⟩ | refine ⟨_, axes_ok k (by omega) _, ?_⟩ | refine br_no (hno k (by omega) (by omega)) ?_ | refine br_d (by omega) ?_ | refine br_nd (by omega) ?_ | refine br_eq (by omega) ?_ | refine br_neq (by omega) ?_ | refine br_ne (by omega) ?_ | refine br_no (bo_eqn (by omega)) ?_ | refine Or.inl ?_ | refine okS_no (by kernel_rfl) ?_ | refine okS_yes (by kernel_rfl) ?_ | refine And_of (by (conv => whnf); (rw [getB_app0]); (conv => whnf)) ?_ | refine setB_app ?_ | refine setB_app0 ?_ | rw [getB_app] | rw [getB_app0] | refine addB_f13 ?_ | refine addB_f12 ?_ | refine addB_f11 ?_ | refine addB_f10 ?_ | refine addB_f9 ?_ | refine addB_f8 ?_ | refine addB_f7 ?_ | refine addB_f6 ?_ | refine addB_f5 ?_ | refine addB_f4 ?_ | refine addB_f3 ?_ | refine addB_f2 ?_ | refine addB_f1 ?_ | refine addB_f0 ?_); conv => whnf)
    refine Fg.of [] ?_ rfl (by simp) rfl rfl
    conv => whnf
    exact ⟨rfl, wrapKL (by omega), rfl⟩
  · (conv => whnf); repeat ((first | refine ⟨_, _, axes_ok r hr _, ?_⟩ | refine ⟨_, axes_ok r hr _, ?_⟩ | refine br_yes (eq9_yes (tx r)) ?_ | refine br_d (by omega) ?_ | refine br_nd (by omega) ?_ | refine br_eq (by omega) ?_ | refine br_neq (by omega) ?_ | refine br_ne (by omega) ?_ | refine br_no (bo_eqn (by omega)) ?_ | refine Or.inl ?_ | refine okS_no (by kernel_rfl) ?_ | refine okS_yes (by kernel_rfl) ?_ | refine And_of (by (conv => whnf); (rw [getB_app0]); (conv => whnf)) ?_ | refine setB_app ?_ | refine setB_app0 ?_ | rw [getB_app] | rw [getB_app0] | refine addB_f13 ?_ | refine addB_f12 ?_ | refine addB_f11 ?_ | refine addB_f10 ?_ | refine addB_f9 ?_ | refine addB_f8 ?_ | refine addB_f7 ?_ | refine addB_f6 ?_ | refine addB_f5 ?_ | refine addB_f4 ?_ | refine addB_f3 ?_ | refine addB_f2 ?_ | refine addB_f1 ?_ | refine addB_f0 ?_); conv => whnf)
    exact ⟨rfl, _, rfl⟩
theorem after_c {M : List Blk} (hm : Top M) {t : Nat} (ht : t < 24) : COk Tryz.prog 3 34 [I t, I 0] M (I t) M := by
  obtain ⟨x, rfl⟩ := hm
  have := after_ok t 0 ht (by decide) x
  rwa [aft_0 t ht] at this
theorem turn_c {M : List Blk} (hm : Top M) {n t c : Nat} (hn : 1 ≤ n) (hn' : n ≤ 32) (ht : t < 24) (hc : c < 6 * (n * n)) : COk Tryz.prog 3 36 [I n, I t, I c] M (.tup [I (tC n t c), I (tQ n t c)]) M := by
  obtain ⟨x, rfl⟩ := hm
  obtain ⟨a1, a2, a3, a4⟩ := cell_parts hn hc
  have := turn_walk n (c / (n * n)) (c % n) (c / n % n) t hn hn' a2 a3 a4 ht x
  rw [← a1] at this
  exact this
/-! ### Lists in new memory -/
set_option maxHeartbeats 0 in
theorem cloneF_gs {M : List Blk} (hsc : scM M.length M = true) {j n : Nat} {w : Bool} {l : List Nat} (hj : getB M j = ⟨w, .flts l⟩) (hn : l.length = n) (h0 : 0 < n) (hs : n ≤ 17592186044416) : COk Tryz.prog 3 85 [.sl j 0 n] M (.gs (M.length + 1) 0 1 n) (M ++ [⟨true, .cells []⟩, ⟨true, .gflts 0 l⟩]) := by
  have hlt : j < M.length := getB_lt hj rfl
  have hb : ∀ x, getB (M ++ x) j = ⟨w, .flts l⟩ := fun x => getB_in hj rfl
  have hbl : Nat.blt 0 n = true := by simpa using h0
  have g1 : Nat.ble (0 + n * 1) l.length = true := by simp; omega
  have g2 : (l.drop 0).take (n * 1) = l := by rw [List.drop_zero, Nat.mul_one, List.take_of_length_le (by omega)]
  refine COk_of_ev Tryz.f85 Tryz.func85 (by kernel_rfl) (by simp) (by simp [V.sc, scL]) (.inr (scM_app (scM_mono (by simp) _ hsc) (by simp [scM, B.sc, scL, V.sc]))) ?_
  (conv => whnf); repeat ((first | refine br_yes hbl ?_ | rw [hb] | refine br_yes g1 ?_ | refine br_d (by omega) ?_ | refine br_nd (by omega) ?_ | refine br_eq (by omega) ?_ | refine br_neq (by omega) ?_ | refine br_ne (by omega) ?_ | refine br_no (bo_eqn (by omega)) ?_ | refine Or.inl ?_ | refine okS_no (by kernel_rfl) ?_ | refine okS_yes (by kernel_rfl) ?_ | refine And_of (by (conv => whnf); (rw [getB_app0]); (conv => whnf)) ?_ | refine setB_app ?_ | refine setB_app0 ?_ | rw [getB_app] | rw [getB_app0] | refine addB_f13 ?_ | refine addB_f12 ?_ | refine addB_f11 ?_ | refine addB_f10 ?_ | refine addB_f9 ?_ | refine addB_f8 ?_ | refine addB_f7 ?_ | refine addB_f6 ?_ | refine addB_f5 ?_ | refine addB_f4 ?_ | refine addB_f3 ?_ | refine addB_f2 ?_ | refine addB_f1 ?_ | refine addB_f0 ?_); conv => whnf)
  have c2 : Tryz.prog.cellsOf 51 = 1 := by kernel_rfl
  have hbe : Nat.ble (0 + n) 0 = false := by
    rw [Bool.eq_false_iff]; intro h
    have := Nat.le_of_ble_eq_true h
    omega
  refine ⟨(by show (0 + n) * 8 ≤ 140737488355328; omega), ?_⟩
  rw [c2, Nat.zero_mul, List.range_zero, List.map_nil, g2]
  (conv => whnf); repeat ((first | refine br_no hbe ?_ | refine br_d (by omega) ?_ | refine br_nd (by omega) ?_ | refine br_eq (by omega) ?_ | refine br_neq (by omega) ?_ | refine br_ne (by omega) ?_ | refine br_no (bo_eqn (by omega)) ?_ | refine Or.inl ?_ | refine okS_no (by kernel_rfl) ?_ | refine okS_yes (by kernel_rfl) ?_ | refine And_of (by (conv => whnf); (rw [getB_app0]); (conv => whnf)) ?_ | refine setB_app ?_ | refine setB_app0 ?_ | rw [getB_app] | rw [getB_app0] | refine addB_f13 ?_ | refine addB_f12 ?_ | refine addB_f11 ?_ | refine addB_f10 ?_ | refine addB_f9 ?_ | refine addB_f8 ?_ | refine addB_f7 ?_ | refine addB_f6 ?_ | refine addB_f5 ?_ | refine addB_f4 ?_ | refine addB_f3 ?_ | refine addB_f2 ?_ | refine addB_f1 ?_ | refine addB_f0 ?_); conv => whnf)
  rw [Nat.zero_add]
  exact ⟨rfl, [], by rw [List.append_nil]⟩
set_option maxHeartbeats 0 in
theorem cloneI_gs {M : List Blk} (hsc : scM M.length M = true) {j n : Nat} {w : Bool} {l : List Int} (hj : getB M j = ⟨w, .ints .i64 l⟩) (hn : l.length = n) (h0 : 0 < n) (hs : n ≤ 17592186044416) : COk Tryz.prog 3 86 [.sl j 0 n] M (.gs (M.length + 1) 0 1 n) (M ++ [⟨true, .cells []⟩, ⟨true, .gints 0 .i64 l⟩]) := by
  have hlt : j < M.length := getB_lt hj rfl
  have hb : ∀ x, getB (M ++ x) j = ⟨w, .ints .i64 l⟩ := fun x => getB_in hj rfl
  have hbl : Nat.blt 0 n = true := by simpa using h0
  have g1 : Nat.ble (0 + n * 1) l.length = true := by simp; omega
  have g2 : (l.drop 0).take (n * 1) = l := by rw [List.drop_zero, Nat.mul_one, List.take_of_length_le (by omega)]
  refine COk_of_ev Tryz.f86 Tryz.func86 (by kernel_rfl) (by simp) (by simp [V.sc, scL]) (.inr (scM_app (scM_mono (by simp) _ hsc) (by simp [scM, B.sc, scL, V.sc]))) ?_
  (conv => whnf); repeat ((first | refine br_yes hbl ?_ | rw [hb] | refine br_yes g1 ?_ | refine br_d (by omega) ?_ | refine br_nd (by omega) ?_ | refine br_eq (by omega) ?_ | refine br_neq (by omega) ?_ | refine br_ne (by omega) ?_ | refine br_no (bo_eqn (by omega)) ?_ | refine Or.inl ?_ | refine okS_no (by kernel_rfl) ?_ | refine okS_yes (by kernel_rfl) ?_ | refine And_of (by (conv => whnf); (rw [getB_app0]); (conv => whnf)) ?_ | refine setB_app ?_ | refine setB_app0 ?_ | rw [getB_app] | rw [getB_app0] | refine addB_f13 ?_ | refine addB_f12 ?_ | refine addB_f11 ?_ | refine addB_f10 ?_ | refine addB_f9 ?_ | refine addB_f8 ?_ | refine addB_f7 ?_ | refine addB_f6 ?_ | refine addB_f5 ?_ | refine addB_f4 ?_ | refine addB_f3 ?_ | refine addB_f2 ?_ | refine addB_f1 ?_ | refine addB_f0 ?_); conv => whnf)
  have c2 : Tryz.prog.cellsOf 2 = 1 := by kernel_rfl
  have hbe : Nat.ble (0 + n) 0 = false := by
    rw [Bool.eq_false_iff]; intro h
    have := Nat.le_of_ble_eq_true h
    omega
  refine ⟨(by show (0 + n) * 8 ≤ 140737488355328; omega), ?_⟩
  rw [c2, Nat.zero_mul, List.range_zero, List.map_nil, g2]
  (conv => whnf); repeat ((first | refine br_no hbe ?_ | refine br_d (by omega) ?_ | refine br_nd (by omega) ?_ | refine br_eq (by omega) ?_ | refine br_neq (by omega) ?_ | refine br_ne (by omega) ?_ | refine br_no (bo_eqn (by omega)) ?_ | refine Or.inl ?_ | refine okS_no (by kernel_rfl) ?_ | refine okS_yes (by kernel_rfl) ?_ | refine And_of (by (conv => whnf); (rw [getB_app0]); (conv => whnf)) ?_ | refine setB_app ?_ | refine setB_app0 ?_ | rw [getB_app] | rw [getB_app0] | refine addB_f13 ?_ | refine addB_f12 ?_ | refine addB_f11 ?_ | refine addB_f10 ?_ | refine addB_f9 ?_ | refine addB_f8 ?_ | refine addB_f7 ?_ | refine addB_f6 ?_ | refine addB_f5 ?_ | refine addB_f4 ?_ | refine addB_f3 ?_ | refine addB_f2 ?_ | refine addB_f1 ?_ | refine addB_f0 ?_); conv => whnf)
  rw [Nat.zero_add]
  exact ⟨rfl, [], by rw [List.append_nil]⟩
def cl1 (L i : Nat) : Option Nat := if i = L + 1 then some 0 else none
theorem cloneF_pl {M : List Blk} (hsc : scM M.length M = true) {j n : Nat} {w : Bool} {l : List Nat} (hj : getB M j = ⟨w, .flts l⟩) (hn : l.length = n) (h0 : 0 < n) (hs : n ≤ 17592186044416) : COk Tryz.prog 3 85 [.sl j 0 n] M (.sl M.length 0 n) (M ++ [⟨true, .flts l⟩]) := by
  have h := cloneF_gs hsc hj hn h0 hs
  have at1 : cl1 M.length (M.length + 1) = some 0 := if_pos rfl
  have ne : ∀ k, k ≠ M.length + 1 → cl1 M.length k = none := fun k hk => if_neg hk
  have h9 := COk.settle (N' := [⟨false, .dead⟩, ⟨true, .flts l⟩]) (cl1 M.length) h (fun i hi => ne i (by omega)) (fun i hi => ne i (by simp at hi; omega)) (fun u hu => Option.some.inj (hu.symm.trans at1)) ⟨.gone (.inl (ne _ (by omega))) (.inl rfl), .flts at1 (fun h => h), trivial⟩
  have e : (V.gs (M.length + 1) 0 1 n).stl (cl1 M.length) = .sl (M.length + 1) 0 n := by
    simp only [V.stl, at1]
  rw [e] at h9
  exact COk.drop1 h9 rfl
theorem cloneI_pl {M : List Blk} (hsc : scM M.length M = true) {j n : Nat} {w : Bool} {l : List Int} (hj : getB M j = ⟨w, .ints .i64 l⟩) (hn : l.length = n) (h0 : 0 < n) (hs : n ≤ 17592186044416) : COk Tryz.prog 3 86 [.sl j 0 n] M (.sl M.length 0 n) (M ++ [⟨true, .ints .i64 l⟩]) := by
  have h := cloneI_gs hsc hj hn h0 hs
  have at1 : cl1 M.length (M.length + 1) = some 0 := if_pos rfl
  have ne : ∀ k, k ≠ M.length + 1 → cl1 M.length k = none := fun k hk => if_neg hk
  have h9 := COk.settle (N' := [⟨false, .dead⟩, ⟨true, .ints .i64 l⟩]) (cl1 M.length) h (fun i hi => ne i (by omega)) (fun i hi => ne i (by simp at hi; omega)) (fun u hu => Option.some.inj (hu.symm.trans at1)) ⟨.gone (.inl (ne _ (by omega))) (.inl rfl), .ints at1 (fun h => h), trivial⟩
  have e : (V.gs (M.length + 1) 0 1 n).stl (cl1 M.length) = .sl (M.length + 1) 0 n := by
    simp only [V.stl, at1]
  rw [e] at h9
  exact COk.drop1 h9 rfl
/-- The box of a sea. -/
abbrev sBx (v0 v1 v2 v3 : V) (sky step : Int) : Blk := ⟨true, .cells [v0, v1, v2, v3, .int .i64 sky, I step]⟩
/-- A sea in new memory. -/
def copL (M : List Blk) (j0 j1 j2 j3 : Nat) (Be : List Nat) (Wt Tr : List Int) (Sp : List Nat) (sky step : Int) : List Blk :=
  [⟨true, .cells [.sl (M.length + 2) 0 Be.length, .sl (M.length + 3) 0 Wt.length, .sl (M.length + 4) 0 Tr.length, .sl (M.length + 5) 0 Sp.length, .int .i64 sky, I step]⟩, ⟨true, .cells [.sl (M.length + 2) 0 Be.length, .sl (M.length + 3) 0 Wt.length, .sl (M.length + 4) 0 Tr.length, .sl (M.length + 5) 0 Sp.length, .int .i64 sky, I step]⟩,
    ⟨true, .flts Be⟩, ⟨true, .ints .i64 Wt⟩, ⟨true, .ints .i64 Tr⟩, ⟨true, .flts Sp⟩]
set_option maxHeartbeats 0 in
theorem Copy_pl {M : List Blk} (hsc : scM M.length M = true) {j0 j1 j2 j3 : Nat} {w : Bool} {Be : List Nat} {Wt Tr : List Int} {Sp : List Nat} (S : SeaB M w j0 j1 j2 j3 Be Wt Tr Sp) (h0 : 0 < Be.length) (h1 : 0 < Wt.length) (h2 : 0 < Tr.length) (h3 : 0 < Sp.length) (sky step : Int) :
    COk Tryz.prog 3 30 [seaV j0 j1 j2 j3 Be.length Wt.length Tr.length Sp.length sky step] M (seaV (M.length + 2) (M.length + 3) (M.length + 4) (M.length + 5) Be.length Wt.length Tr.length Sp.length sky step) (M ++ copL M j0 j1 j2 j3 Be Wt Tr Sp sky step) := by
  have l0 := S.read.s0.lt
  have l1 := S.read.s1.lt
  have l2 := S.read.s2.lt
  have l3 := S.read.s3.lt
  have hscm : ∀ x : List Blk, scM (M ++ x).length x = true → scM (M ++ x).length (M ++ x) = true := fun x hx => scM_app (scM_mono (by simp) _ hsc) hx
  have c0 : COk Tryz.prog 3 85 [.sl j0 0 Be.length] (M ++ [sBx (.sl j0 0 Be.length) (.sl j1 0 Wt.length) (.sl j2 0 Tr.length) (.sl j3 0 Sp.length) sky step, sBx nilS' nilS' nilS' nilS' 0 0]) (.sl (M.length + 2) 0 Be.length)
      (M ++ [sBx (.sl j0 0 Be.length) (.sl j1 0 Wt.length) (.sl j2 0 Tr.length) (.sl j3 0 Sp.length) sky step, sBx nilS' nilS' nilS' nilS' 0 0, ⟨true, .flts Be⟩]) := by
    have := cloneF_pl (hscm [sBx (.sl j0 0 Be.length) (.sl j1 0 Wt.length) (.sl j2 0 Tr.length) (.sl j3 0 Sp.length) sky step, sBx nilS' nilS' nilS' nilS' 0 0] (by simp [scM, B.sc, scL, V.sc]; omega)) (S.app _).b0 rfl h0 S.l0
    simpa using this
  have c1 : COk Tryz.prog 3 86 [.sl j1 0 Wt.length] (M ++ [sBx (.sl (M.length + 2) 0 Be.length) (.sl j1 0 Wt.length) (.sl j2 0 Tr.length) (.sl j3 0 Sp.length) sky step, sBx nilS' nilS' nilS' nilS' 0 0, ⟨true, .flts Be⟩]) (.sl (M.length + 3) 0 Wt.length)
      (M ++ [sBx (.sl (M.length + 2) 0 Be.length) (.sl j1 0 Wt.length) (.sl j2 0 Tr.length) (.sl j3 0 Sp.length) sky step, sBx nilS' nilS' nilS' nilS' 0 0, ⟨true, .flts Be⟩, ⟨true, .ints .i64 Wt⟩]) := by
    have := cloneI_pl (hscm [sBx (.sl (M.length + 2) 0 Be.length) (.sl j1 0 Wt.length) (.sl j2 0 Tr.length) (.sl j3 0 Sp.length) sky step, sBx nilS' nilS' nilS' nilS' 0 0, ⟨true, .flts Be⟩] (by simp [scM, B.sc, scL, V.sc]; omega)) (S.app _).b1 rfl h1 S.l1
    simpa using this
  have c2 : COk Tryz.prog 3 86 [.sl j2 0 Tr.length] (M ++ [sBx (.sl (M.length + 2) 0 Be.length) (.sl (M.length + 3) 0 Wt.length) (.sl j2 0 Tr.length) (.sl j3 0 Sp.length) sky step, sBx nilS' nilS' nilS' nilS' 0 0, ⟨true, .flts Be⟩, ⟨true, .ints .i64 Wt⟩]) (.sl (M.length + 4) 0 Tr.length)
      (M ++ [sBx (.sl (M.length + 2) 0 Be.length) (.sl (M.length + 3) 0 Wt.length) (.sl j2 0 Tr.length) (.sl j3 0 Sp.length) sky step, sBx nilS' nilS' nilS' nilS' 0 0, ⟨true, .flts Be⟩, ⟨true, .ints .i64 Wt⟩, ⟨true, .ints .i64 Tr⟩]) := by
    have := cloneI_pl (hscm [sBx (.sl (M.length + 2) 0 Be.length) (.sl (M.length + 3) 0 Wt.length) (.sl j2 0 Tr.length) (.sl j3 0 Sp.length) sky step, sBx nilS' nilS' nilS' nilS' 0 0, ⟨true, .flts Be⟩, ⟨true, .ints .i64 Wt⟩] (by simp [scM, B.sc, scL, V.sc]; omega)) (S.app _).b2 rfl h2 S.l2
    simpa using this
  have c3 : COk Tryz.prog 3 85 [.sl j3 0 Sp.length] (M ++ [sBx (.sl (M.length + 2) 0 Be.length) (.sl (M.length + 3) 0 Wt.length) (.sl (M.length + 4) 0 Tr.length) (.sl j3 0 Sp.length) sky step, sBx nilS' nilS' nilS' nilS' 0 0, ⟨true, .flts Be⟩, ⟨true, .ints .i64 Wt⟩, ⟨true, .ints .i64 Tr⟩]) (.sl (M.length + 5) 0 Sp.length)
      (M ++ [sBx (.sl (M.length + 2) 0 Be.length) (.sl (M.length + 3) 0 Wt.length) (.sl (M.length + 4) 0 Tr.length) (.sl j3 0 Sp.length) sky step, sBx nilS' nilS' nilS' nilS' 0 0, ⟨true, .flts Be⟩, ⟨true, .ints .i64 Wt⟩, ⟨true, .ints .i64 Tr⟩, ⟨true, .flts Sp⟩]) := by
    have := cloneF_pl (hscm [sBx (.sl (M.length + 2) 0 Be.length) (.sl (M.length + 3) 0 Wt.length) (.sl (M.length + 4) 0 Tr.length) (.sl j3 0 Sp.length) sky step, sBx nilS' nilS' nilS' nilS' 0 0, ⟨true, .flts Be⟩, ⟨true, .ints .i64 Wt⟩, ⟨true, .ints .i64 Tr⟩] (by simp [scM, B.sc, scL, V.sc]; omega)) (S.app _).b3 rfl h3 S.l3
    simpa using this
  refine COk_of_ev Tryz.f30 Tryz.func30 (by kernel_rfl) (by simp) (by simp [V.sc, scL, copL]) (.inr (scM_app (scM_mono (by simp) _ hsc) (by simp [scM, B.sc, scL, V.sc, copL]))) ?_
  (conv => whnf); repeat ((first | refine ⟨_, _, c0, ?_⟩ | refine ⟨_, c0, ?_⟩ | refine ⟨_, _, c1, ?_⟩ | refine ⟨_, c1, ?_⟩ | refine ⟨_, _, c2, ?_⟩ | refine ⟨_, c2, ?_⟩ | refine ⟨_, _, c3, ?_⟩ | refine ⟨_, c3, ?_⟩ | refine br_d (by omega) ?_ | refine br_nd (by omega) ?_ | refine br_eq (by omega) ?_ | refine br_neq (by omega) ?_ | refine br_ne (by omega) ?_ | refine br_no (bo_eqn (by omega)) ?_ | refine Or.inl ?_ | refine okS_no (by kernel_rfl) ?_ | refine okS_yes (by kernel_rfl) ?_ | refine And_of (by (conv => whnf); (rw [getB_app0]); (conv => whnf)) ?_ | refine setB_app ?_ | refine setB_app0 ?_ | rw [getB_app] | rw [getB_app0] | refine addB_f13 ?_ | refine addB_f12 ?_ | refine addB_f11 ?_ | refine addB_f10 ?_ | refine addB_f9 ?_ | refine addB_f8 ?_ | refine addB_f7 ?_ | refine addB_f6 ?_ | refine addB_f5 ?_ | refine addB_f4 ?_ | refine addB_f3 ?_ | refine addB_f2 ?_ | refine addB_f1 ?_ | refine addB_f0 ?_); conv => whnf)
  exact ⟨rfl, [], by rw [List.append_nil]; rfl⟩
end Go.Proofs.YtgoljofmbidkfaaGreatDoor
/- A lake. No condition. -/
namespace Go.Proofs.YtgoljofmbidkfaaGreatDoor
open Go Go.Eng
set_option maxRecDepth 100000
set_option linter.unusedSimpArgs false
set_option linter.unusedVariables false

/-- The water with which a cell comes nearest to a level. -/
def fillF (b : Nat) (a : Int) (h : Nat) : Int := if fgt (some h) (some b) = true ∧ 1 ≤ a then clampF (fmul (fsub (some h) (some b)) (some (nI a))) else 0
theorem fill_ok (b : Nat) (a : Int) (h : Nat) (m : List Blk) : COk Tryz.prog 3 42 [F b, .int .i64 a, F h] m (.int .i64 (fillF b a h)) m := by
  unfold fillF
  cases hg : fgt (some h) (some b) with
  | false =>
    rw [if_neg (fun k => by cases k.1)]
    refine COk_quiet Tryz.f42 Tryz.func42 (by kernel_rfl) rfl ?_
    (conv => whnf); repeat ((first | refine br_no hg ?_ | refine br_yes (congrArg not hg) ?_ | refine br_d (by omega) ?_ | refine br_nd (by omega) ?_ | refine br_eq (by omega) ?_ | refine br_neq (by omega) ?_ | refine br_ne (by omega) ?_ | refine br_no (bo_eqn (by omega)) ?_ | refine Or.inl ?_ | refine okS_no (by kernel_rfl) ?_ | refine okS_yes (by kernel_rfl) ?_ | refine And_of (by (conv => whnf); (rw [getB_app0]); (conv => whnf)) ?_ | refine setB_app ?_ | refine setB_app0 ?_ | rw [getB_app] | rw [getB_app0] | refine addB_f13 ?_ | refine addB_f12 ?_ | refine addB_f11 ?_ | refine addB_f10 ?_ | refine addB_f9 ?_ | refine addB_f8 ?_ | refine addB_f7 ?_ | refine addB_f6 ?_ | refine addB_f5 ?_ | refine addB_f4 ?_ | refine addB_f3 ?_ | refine addB_f2 ?_ | refine addB_f1 ?_ | refine addB_f0 ?_); conv => whnf)
    exact ⟨rfl, [], by simp⟩
  | true =>
    by_cases ha : 1 ≤ a
    · rw [if_pos ⟨rfl, ha⟩]
      have hc := fun m => clampO_ok (fmul (fsub (some h) (some b)) (some (nI a))) (fun b hb => fmul_lt hb) m
      refine COk_quiet Tryz.f42 Tryz.func42 (by kernel_rfl) rfl ?_
      (conv => whnf); repeat ((first | refine br_no (congrArg not hg) ?_ | refine ⟨_, _, fromint_ok _ _, ?_⟩ | refine ⟨_, fromint_ok _ _, ?_⟩ | refine ⟨_, _, hc _, ?_⟩ | refine ⟨_, hc _, ?_⟩ | refine br_d (by omega) ?_ | refine br_nd (by omega) ?_ | refine br_eq (by omega) ?_ | refine br_neq (by omega) ?_ | refine br_ne (by omega) ?_ | refine br_no (bo_eqn (by omega)) ?_ | refine Or.inl ?_ | refine okS_no (by kernel_rfl) ?_ | refine okS_yes (by kernel_rfl) ?_ | refine And_of (by (conv => whnf); (rw [getB_app0]); (conv => whnf)) ?_ | refine setB_app ?_ | refine setB_app0 ?_ | rw [getB_app] | rw [getB_app0] | refine addB_f13 ?_ | refine addB_f12 ?_ | refine addB_f11 ?_ | refine addB_f10 ?_ | refine addB_f9 ?_ | refine addB_f8 ?_ | refine addB_f7 ?_ | refine addB_f6 ?_ | refine addB_f5 ?_ | refine addB_f4 ?_ | refine addB_f3 ?_ | refine addB_f2 ?_ | refine addB_f1 ?_ | refine addB_f0 ?_); conv => whnf)
      exact ⟨rfl, [], by simp⟩
    · rw [if_neg (fun k => ha k.2)]
      refine COk_quiet Tryz.f42 Tryz.func42 (by kernel_rfl) rfl ?_
      (conv => whnf); repeat ((first | refine br_no (congrArg not hg) ?_ | refine br_d (by omega) ?_ | refine br_nd (by omega) ?_ | refine br_eq (by omega) ?_ | refine br_neq (by omega) ?_ | refine br_ne (by omega) ?_ | refine br_no (bo_eqn (by omega)) ?_ | refine Or.inl ?_ | refine okS_no (by kernel_rfl) ?_ | refine okS_yes (by kernel_rfl) ?_ | refine And_of (by (conv => whnf); (rw [getB_app0]); (conv => whnf)) ?_ | refine setB_app ?_ | refine setB_app0 ?_ | rw [getB_app] | rw [getB_app0] | refine addB_f13 ?_ | refine addB_f12 ?_ | refine addB_f11 ?_ | refine addB_f10 ?_ | refine addB_f9 ?_ | refine addB_f8 ?_ | refine addB_f7 ?_ | refine addB_f6 ?_ | refine addB_f5 ?_ | refine addB_f4 ?_ | refine addB_f3 ?_ | refine addB_f2 ?_ | refine addB_f1 ?_ | refine addB_f0 ?_); conv => whnf)
      exact ⟨rfl, [], by simp⟩
theorem wrap_in (z : Int) : in64 (IntKind.i64.wrap z) := by
  rw [wrapI_mod]
  unfold in64
  split <;> omega
theorem size_in (a : Nat) : in64 (sizeI a) := by
  unfold sizeI
  split
  · split
    · exact wrap_in _
    · unfold in64 q52; omega
  · unfold in64 q52; omega
theorem clampF_in (o : Option Nat) : in64 (clampF o) := by
  unfold clampF
  split
  · unfold in64; omega
  · split
    · unfold in64; omega
    · split
      · exact wrap_in _
      · exact size_in _
theorem fillF_in (b : Nat) (a : Int) (h : Nat) : in64 (fillF b a h) := by
  unfold fillF
  split
  · exact clampF_in _
  · unfold in64; omega
def mnH : Nat := 13920626448202203136
/-- May a lake stand so high? -/
def highB (h : Nat) : Bool := fge (some h) (some mnH) && fle (some h) (some mxH)
def lakW (n : Nat) (Be : List Nat) (h : Nat) (c : Nat) : Int := fillF (Be.getD c 0) (areaC n c) h
theorem getB_shut {M : List Blk} {j : Nat} {w : Bool} {b : B} (h : getB M j = ⟨w, b⟩) (hj : j < M.length) : getB (shutM M) j = ⟨false, b⟩ := by
  rw [getB_eq, List.getD_eq_getElem?_getD, shutM_get]
  rw [getB_eq, List.getD_eq_getElem?_getD, List.getElem?_eq_getElem hj] at h
  rw [List.getElem?_eq_getElem hj]
  have h : M[j] = ⟨w, b⟩ := h
  rw [h]; rfl
theorem clone_made {M : List Blk} (hsc : scM M.length M = true) {j n : Nat} {w : Bool} {l : List Nat} (hj : getB M j = ⟨w, .flts l⟩) (hn : l.length = n) (h0 : 0 < n) (hs : n ≤ 17592186044416) :
    (Sh2.sl n n).ok ∧ (B.flts l).nums = true ∧ COk Tryz.prog 3 85 [.sl j 0 n] (shutM M) (mkV2 (.sl n n) M.length) (shutM M ++ [⟨true, .flts l⟩]) := by
  have h := cloneF_pl (M := shutM M) (by rw [shutM_len]; exact shutM_sc _ _ hsc) (getB_shut hj (getB_lt hj rfl)) hn h0 hs
  rw [shutM_len] at h
  exact ⟨Nat.le_refl _, rfl, h⟩
/-- What lies behind the net, the first k cells filled. -/
def lakR (M1 : List Blk) (n : Nat) (Be : List Nat) (h : Nat) (k : Nat) (W : List Int) : List Blk :=
  [⟨true, .flts Be⟩, ⟨true, .ints .i64 (List.replicate (Be.length * 1) 0)⟩, ⟨true, .flts (List.replicate ((edges n).length * 1) 0)⟩, sBx (.sl M1.length 0 Be.length) (.gs (M1.length + 5) (k - 1) 1 k) (.sl (M1.length + 1) 0 Be.length) (.sl (M1.length + 2) 0 (edges n).length) 0 0,
    ⟨true, .cells [.int .i64 (lakW n Be h 0)]⟩, ⟨true, .gints (k - 1) .i64 W⟩]
/-- The lake that is answered, and what lies behind the net. -/
abbrev lakV (M1 : List Blk) (N E : Nat) : V := .agg [.sl M1.length 0 N, .gs (M1.length + 5) (N - 1) 1 N, .sl (M1.length + 1) 0 N, .sl (M1.length + 2) 0 E, .int .i64 0, I 0]
def lakL (M1 : List Blk) (n : Nat) (Be : List Nat) (h : Nat) : List Blk :=
  [⟨true, .flts Be⟩, ⟨true, .ints .i64 (List.replicate (Be.length * 1) 0)⟩, ⟨true, .flts (List.replicate ((edges n).length * 1) 0)⟩, sBx (.sl M1.length 0 Be.length) (.gs (M1.length + 5) (Be.length - 1) 1 Be.length) (.sl (M1.length + 1) 0 Be.length) (.sl (M1.length + 2) 0 (edges n).length) 0 0,
    ⟨true, .cells [.int .i64 (lakW n Be h 0)]⟩, ⟨true, .gints (Be.length - 1) .i64 (tab Be.length (lakW n Be h))⟩]
/-- The quanta of a row that has grown. -/
def frzL (i v : Nat) (k : Nat) : Option Nat := if k = i then some v else none
theorem quanta_gs {M : List Blk} {n : Nat} {Be : List Nat} {h : Nat} (hsc : scM M.length M = true) (hng : 3 ≤ M.length) (h0 : 0 < Be.length) (hs : Be.length ≤ 17592186044416) :
    COk Tryz.prog 3 77 [.gs (M.length + 5) (Be.length - 1) 1 Be.length, .int .i64 0] (M ++ lakR M n Be h Be.length (tab Be.length (lakW n Be h))) (I (quI (tab Be.length (lakW n Be h)) 0)) (M ++ lakR M n Be h Be.length (tab Be.length (lakW n Be h))) := by
  have at5 : frzL (M.length + 5) (Be.length - 1) (M.length + 5) = some (Be.length - 1) := if_pos rfl
  have ne : ∀ k, k ≠ M.length + 5 → frzL (M.length + 5) (Be.length - 1) k = none := fun k hk => if_neg hk
  let R : List Blk := [⟨false, .flts Be⟩, ⟨false, .ints .i64 (List.replicate (Be.length * 1) 0)⟩, ⟨false, .flts (List.replicate ((edges n).length * 1) 0)⟩, ⟨false, .cells [.sl M.length 0 Be.length, .sl (M.length + 5) 0 Be.length, .sl (M.length + 1) 0 Be.length, .sl (M.length + 2) 0 (edges n).length, .int .i64 0, I 0]⟩,
    ⟨false, .cells [.int .i64 (lakW n Be h 0)]⟩, ⟨false, .ints .i64 (tab Be.length (lakW n Be h))⟩]
  have hget : getB (shutM M ++ R) (M.length + 5) = ⟨false, .ints .i64 (tab Be.length (lakW n Be h))⟩ := by
    have := getB_app (M := shutM M) (l := R) 5
    rw [shutM_len] at this
    exact this
  have S : SlI (shutM M ++ R) (M.length + 5) 0 (tab Be.length (lakW n Be h)) := SlI.tab hget (fun i _ => fillF_in _ _ _) (by omega)
  have hscR : scM (shutM M ++ R).length (shutM M ++ R) = true := scM_app (scM_mono (by simp [shutM_len]) _ (shutM_sc _ _ hsc)) (by simp [R, scM, B.sc, scL, V.sc, shutM_len])
  have h1 := quanta_ok' hscR (by simp [shutM_len]; omega) S (n := Be.length) (by rw [tab_len]) (z := 0) ⟨Int.le_refl _, by decide⟩
  refine COk.ro (m' := shutM M ++ R) (frzL (M.length + 5) (Be.length - 1)) ?_ ?_ ?_ (fun i hi => ne i (by simp [lakR] at hi; omega)) (fun i hi => ne i (by omega)) ?_ rfl
  · have e : stlL (frzL (M.length + 5) (Be.length - 1)) [.gs (M.length + 5) (Be.length - 1) 1 Be.length, .int .i64 0] = [.sl (M.length + 5) 0 Be.length, .int .i64 0] := by
      simp only [stlL, V.stl, at5]
    rw [e]
    exact h1
  · exact ⟨fun u hu => Option.some.inj (hu.symm.trans at5), trivial, trivial⟩
  · refine AllStl.app (AllStl.shut (n := M.length) (fun i hi => ne i (by omega)) M 0 (by omega) (fun i b hb j v hv => B.sc_get (scM_get hsc hb) hv)) ?_
    rw [Nat.zero_add]
    have e : ∀ k, k ≠ 5 → frzL (M.length + 5) (Be.length - 1) (M.length + k) = none := fun k hk => ne _ (by omega)
    refine ⟨.same (e 0 (by decide)) (fun h => nomatch h) ?_, .same (e 1 (by decide)) (fun h => nomatch h) ?_, .same (e 2 (by decide)) (fun h => nomatch h) ?_, .row (e 3 (by decide)) (fun h => nomatch h) ?_ ?_, .row (e 4 (by decide)) (fun h => nomatch h) ?_ ?_, .ints at5 (fun h => nomatch h), trivial⟩
    · intro i v hv
      simp only [B.get, Option.map_eq_some_iff] at hv
      obtain ⟨_, _, rfl⟩ := hv
      exact ⟨rfl, trivial⟩
    · intro i v hv
      simp only [B.get, Option.map_eq_some_iff] at hv
      obtain ⟨_, _, rfl⟩ := hv
      exact ⟨rfl, trivial⟩
    · intro i v hv
      simp only [B.get, Option.map_eq_some_iff] at hv
      obtain ⟨_, _, rfl⟩ := hv
      exact ⟨rfl, trivial⟩
    · exact ⟨trivial, fun u hu => Option.some.inj (hu.symm.trans at5), trivial, trivial, trivial, trivial, trivial⟩
    · simp only [stlL, V.stl, at5]
    · exact ⟨trivial, trivial⟩
    · rfl
  · have : ∀ a b : List Blk, roM a = true → roM b = true → roM (a ++ b) = true := fun a b ha hb => by
      induction a with
      | nil => exact hb
      | cons x a ih =>
        simp only [roM, List.cons_append, Bool.and_eq_true] at *
        exact ⟨ha.1, ih ha.2⟩
    exact this _ _ (shutM_ro M) rfl
section
variable {M : List Blk} (hm : Top M) (hsc : scM M.length M = true) {j : Nat} {w : Bool} {Be : List Nat} (hj : getB M j = ⟨w, .flts Be⟩) (hw : ∀ i, i < Be.length → inF (Be.getD i 0)) (hs : Be.length ≤ 17592186044416) {n : Nat} (hn : 1 ≤ n) (hn' : n ≤ 32) (hB : Be.length = 6 * (n * n)) (hb : ¬ 0 ≤ flI Be mxH) {h : Nat} (hh : highB h = true)
include hm hsc hj hw hs hn hn' hB hb hh
set_option maxHeartbeats 0 in
theorem Lake_raw {b : Nat} {M1 x : List Blk} (hM1 : M1 = M ++ [sBx nilS' nilS' nilS' nilS' 0 0] ++ x) (hnew : COk Tryz.prog 3 15 [I n] (M ++ [sBx nilS' nilS' nilS' nilS' 0 0]) (.tup [.ptr (b + 1) 0, I 0]) M1) (N : Net M1 b n) (u1 : Up (M ++ [sBx nilS' nilS' nilS' nilS' 0 0]) M1)
    (hq : quI (tab Be.length (lakW n Be h)) 0 = -1) : COk Tryz.prog 3 40 [I n, .sl j 0 Be.length, F h] M (.tup [lakV M1 Be.length (edges n).length, I 0])
      (M ++ [sBx (.sl M1.length 0 Be.length) (.gs (M1.length + 5) (Be.length - 1) 1 Be.length) (.sl (M1.length + 1) 0 Be.length) (.sl (M1.length + 2) 0 (edges n).length) 0 0] ++ x ++ lakL M1 n Be h) := by
  have hlt : j < M.length := getB_lt hj rfl
  have hlen := edges_len hn
  have hsq : n * n ≤ 1024 := Nat.mul_le_mul hn' hn'
  have hsq1 : 1 ≤ n * n := Nat.mul_le_mul hn hn
  have u0 : Up M (M ++ ([sBx nilS' nilS' nilS' nilS' 0 0] : List Blk)) := Up.of hsc (by simp [scM, B.sc, scL, V.sc])
  have ux := u0.trans u1
  have hj1 : getB M1 j = ⟨w, .flts Be⟩ := by obtain ⟨x, rfl⟩ := ux.ex; exact getB_in hj rfl
  have hng := (hm.up ux).ng
  have S1 := SlF.whole hj1 hw hs
  have hfl := floats_ok u1.sc hng S1 rfl mxH
  have hgc := gcells_ok (N.more [])
  have hge := fun z => gedges_ok (N.more z)
  have hge0 := hge []
  simp only [List.append_nil] at hgc hge0
  have hcl := clone_made u1.sc hj1 rfl (by omega) hs
  unfold highB at hh
  rw [Bool.and_eq_true] at hh
  have hnl := N.lt
  have hl1 : M.length + 1 ≤ M1.length := by have := u1.len; simpa using this
  have hx : scM M1.length x = true := by
    have := u1.sc
    rw [hM1] at this ⊢
    exact (scM_of_app this).2
  have hscL : scM (M ++ [sBx (.sl M1.length 0 Be.length) (.gs (M1.length + 5) (Be.length - 1) 1 Be.length) (.sl (M1.length + 1) 0 Be.length) (.sl (M1.length + 2) 0 (edges n).length) 0 0] ++ x ++ lakL M1 n Be h).length
      (M ++ [sBx (.sl M1.length 0 Be.length) (.gs (M1.length + 5) (Be.length - 1) 1 Be.length) (.sl (M1.length + 1) 0 Be.length) (.sl (M1.length + 2) 0 (edges n).length) 0 0] ++ x ++ lakL M1 n Be h) = true := by
    have hl : (M ++ [sBx (.sl M1.length 0 Be.length) (.gs (M1.length + 5) (Be.length - 1) 1 Be.length) (.sl (M1.length + 1) 0 Be.length) (.sl (M1.length + 2) 0 (edges n).length) 0 0] ++ x ++ lakL M1 n Be h).length = M1.length + 6 := by
      rw [hM1]; simp [lakL]; omega
    rw [hl]
    refine scM_app (scM_app (scM_app (scM_mono (by omega) _ hsc) ?_) (scM_mono (by omega) _ hx)) ?_
    · simp [scM, B.sc, scL, V.sc]
    · simp [lakL, scM, B.sc, scL, V.sc]
  refine COk_of_ev Tryz.f40 Tryz.func40 (by kernel_rfl) (by simp [lakL]) (by simp [V.sc, scL, lakL, hM1]; omega) (.inr hscL) ?_
  (conv => whnf); repeat ((first | refine ⟨_, _, hnew, ?_⟩ | refine ⟨_, hnew, ?_⟩ | refine ⟨_, _, hgc, ?_⟩ | refine ⟨_, hgc, ?_⟩ | refine ⟨_, _, hfl, ?_⟩ | refine ⟨_, hfl, ?_⟩ | refine br_no (bo_eqn (by omega)) ?_ | refine br_yes hh.1 ?_ | refine br_no (congrArg not hh.2) ?_ | refine ⟨.sl Be.length Be.length, .flts Be, hcl, ?_⟩ | refine ⟨_, _, hge0, ?_⟩ | refine ⟨_, hge0, ?_⟩ | refine ⟨_, _, hge _, ?_⟩ | refine ⟨_, hge _, ?_⟩ | refine And_of (by (conv => whnf); first | exact ⟨_, hge0, rfl⟩ | exact ⟨_, hge _, rfl⟩) ?_ | refine br_d ⟨by omega, by omega, by omega, (by show (8 : Int) * _ ≤ 2 ^ 48; omega)⟩ ?_ | refine br_d (by omega) ?_ | refine br_nd (by omega) ?_ | refine br_eq (by omega) ?_ | refine br_neq (by omega) ?_ | refine br_ne (by omega) ?_ | refine br_no (bo_eqn (by omega)) ?_ | refine Or.inl ?_ | refine okS_no (by kernel_rfl) ?_ | refine okS_yes (by kernel_rfl) ?_ | refine And_of (by (conv => whnf); (rw [getB_app0]); (conv => whnf)) ?_ | refine setB_app ?_ | refine setB_app0 ?_ | rw [getB_app] | rw [getB_app0] | refine addB_f13 ?_ | refine addB_f12 ?_ | refine addB_f11 ?_ | refine addB_f10 ?_ | refine addB_f9 ?_ | refine addB_f8 ?_ | refine addB_f7 ?_ | refine addB_f6 ?_ | refine addB_f5 ?_ | refine addB_f4 ?_ | refine addB_f3 ?_ | refine addB_f2 ?_ | refine addB_f1 ?_ | refine addB_f0 ?_); conv => whnf)
  refine lr ?_
  have ha := fun z c hc => area_ok (N.more z) c hc
  (conv => whnf); repeat ((first | refine SlF.at (S1.app _) (i := 0) (by omega) rfl ?_ | refine ⟨_, _, ha _ 0 (by omega), ?_⟩ | refine ⟨_, ha _ 0 (by omega), ?_⟩ | refine ⟨_, _, fill_ok _ _ _ _, ?_⟩ | refine ⟨_, fill_ok _ _ _ _, ?_⟩ | refine ⟨⟨by decide, (by show 1 * 8 ≤ 140737488355328; decide)⟩, ?_⟩ | refine br_d (by omega) ?_ | refine br_nd (by omega) ?_ | refine br_eq (by omega) ?_ | refine br_neq (by omega) ?_ | refine br_ne (by omega) ?_ | refine br_no (bo_eqn (by omega)) ?_ | refine Or.inl ?_ | refine okS_no (by kernel_rfl) ?_ | refine okS_yes (by kernel_rfl) ?_ | refine And_of (by (conv => whnf); (rw [getB_app0]); (conv => whnf)) ?_ | refine setB_app ?_ | refine setB_app0 ?_ | rw [getB_app] | rw [getB_app0] | refine addB_f13 ?_ | refine addB_f12 ?_ | refine addB_f11 ?_ | refine addB_f10 ?_ | refine addB_f9 ?_ | refine addB_f8 ?_ | refine addB_f7 ?_ | refine addB_f6 ?_ | refine addB_f5 ?_ | refine addB_f4 ?_ | refine addB_f3 ?_ | refine addB_f2 ?_ | refine addB_f1 ?_ | refine addB_f0 ?_); conv => whnf)
  have hscm : ∀ (k : Nat) (W : List Int), scM (M1 ++ lakR M1 n Be h k W).length (M1 ++ lakR M1 n Be h k W) = true := fun k W => scM_app (scM_mono (by simp) _ u1.sc) (by simp [lakR, scM, B.sc, scL, V.sc])
  refine loop_to (fun k => [I n, .sl j 0 Be.length, F h, .any, .any, .any, .ptr M.length 0, .any, .ptr (b + 1) 0, .any, .ptr (M1.length + 3) 0, .any, .any, .any, .any, .any, .any, .any, .any, .any, .any, .any, .any, .any, .any, .any, .any, .any, .any, .any, .any, .any, .any, .any, .any, .any, .any, .any, .any, .any, .any, .any, .any, .any, .any, .any, .any, .any, .any, .any, .any, .any, .any, .sl j 0 Be.length, I Be.length, I k, .any, .any, .any, .any, .any, .any, .any, .any, .any, .any, .any, .any, .any, .any, .any, .any, .any, .any, .any, .any, .any, .any]) (fun k => M1 ++ lakR M1 n Be h k (tab k (lakW n Be h))) 1 Be.length (by omega) ?_ ?_ ?_
  · refine Fg.of [] ?_ (by rw [List.append_nil]; rfl) (by simp [lakR]) (by first | (simp [scL, V.sc, lakR]; done) | (simp [scL, V.sc, lakR]; omega)) (hscm _ _)
    conv => whnf
    exact ⟨rfl, rfl, rfl, rfl, rfl, rfl, rfl, rfl, wrapKV (k := 0) (by decide), rfl⟩
  · intro c hc1 hc2
    obtain ⟨v, rfl⟩ : ∃ v, c = v + 1 := ⟨c - 1, by omega⟩
    unfold lakR
    have hlw : fillF (Be.getD (v + 1) 0) (areaC n (v + 1)) h = lakW n Be h (v + 1) := rfl
    (conv => whnf); repeat ((first | refine SlF.at (S1.app _) (i := v + 1) (by omega) rfl ?_ | refine ⟨_, _, ha _ (v + 1) (by omega), ?_⟩ | refine ⟨_, ha _ (v + 1) (by omega), ?_⟩ | refine ⟨_, _, fill_ok _ _ _ _, ?_⟩ | refine ⟨_, fill_ok _ _ _ _, ?_⟩ | refine br_d (by omega) ?_ | refine br_nd (by omega) ?_ | refine br_eq (by omega) ?_ | refine br_neq (by omega) ?_ | refine br_ne (by omega) ?_ | refine br_no (bo_eqn (by omega)) ?_ | refine Or.inl ?_ | refine okS_no (by kernel_rfl) ?_ | refine okS_yes (by kernel_rfl) ?_ | refine And_of (by (conv => whnf); (rw [getB_app0]); (conv => whnf)) ?_ | refine setB_app ?_ | refine setB_app0 ?_ | rw [getB_app] | rw [getB_app0] | refine addB_f13 ?_ | refine addB_f12 ?_ | refine addB_f11 ?_ | refine addB_f10 ?_ | refine addB_f9 ?_ | refine addB_f8 ?_ | refine addB_f7 ?_ | refine addB_f6 ?_ | refine addB_f5 ?_ | refine addB_f4 ?_ | refine addB_f3 ?_ | refine addB_f2 ?_ | refine addB_f1 ?_ | refine addB_f0 ?_); conv => whnf)
    refine ⟨⟨rfl, rfl, (by show (tab (v + 1) (lakW n Be h)).length = (v + 1) * 1; rw [tab_len]; omega), (by show (v + 1 + 1) * 8 ≤ _; omega)⟩, ?_⟩
    (conv => whnf); repeat ((first | refine br_d (by omega) ?_ | refine br_nd (by omega) ?_ | refine br_eq (by omega) ?_ | refine br_neq (by omega) ?_ | refine br_ne (by omega) ?_ | refine br_no (bo_eqn (by omega)) ?_ | refine Or.inl ?_ | refine okS_no (by kernel_rfl) ?_ | refine okS_yes (by kernel_rfl) ?_ | refine And_of (by (conv => whnf); (rw [getB_app0]); (conv => whnf)) ?_ | refine setB_app ?_ | refine setB_app0 ?_ | rw [getB_app] | rw [getB_app0] | refine addB_f13 ?_ | refine addB_f12 ?_ | refine addB_f11 ?_ | refine addB_f10 ?_ | refine addB_f9 ?_ | refine addB_f8 ?_ | refine addB_f7 ?_ | refine addB_f6 ?_ | refine addB_f5 ?_ | refine addB_f4 ?_ | refine addB_f3 ?_ | refine addB_f2 ?_ | refine addB_f1 ?_ | refine addB_f0 ?_); conv => whnf)
    refine Fg.of [_] ?_ (by rw [List.append_assoc, show v + 1 + 1 - 1 = v + 1 from rfl, tab_succ (v + 1)]; rfl) (by simp [lakR]) (by first | (simp [scL, V.sc, lakR]; done) | (simp [scL, V.sc, lakR]; omega)) (hscm _ _)
    conv => whnf
    exact ⟨rfl, rfl, rfl, rfl, rfl, rfl, rfl, rfl, wrapKL (by omega), rfl⟩
  · have hqu := quanta_gs (M := M1) (n := n) (Be := Be) (h := h) u1.sc hng (by omega) hs
    rw [hq] at hqu
    have e0 : Be.length - 1 + 1 = Be.length := by omega
    unfold lakR at hqu ⊢
    have e0 : M1.length = (M ++ [sBx nilS' nilS' nilS' nilS' 0 0] ++ x).length := by rw [hM1]
    have hset : ∀ (l : List Blk) (c : Blk) (K : List Blk → Prop), K (M ++ [c] ++ x ++ l) → setB (M1 ++ l) M.length c K := fun l c K hk => by
      rw [hM1, List.append_assoc, List.append_assoc]
      refine setB_app0 ?_
      simpa using hk
    have hgl : ∀ l : List Blk, getB (M1 ++ l) M.length = sBx nilS' nilS' nilS' nilS' 0 0 := fun l => by
      rw [hM1, List.append_assoc, List.append_assoc]
      exact getB_app0
    have hgr : ∀ (c : Blk) (l : List Blk), getB (M ++ [c] ++ x ++ l) M.length = c := fun c l => by
      rw [List.append_assoc, List.append_assoc]
      exact getB_app0
    (conv => whnf); repeat ((first | refine ⟨_, _, hqu, ?_⟩ | refine ⟨_, hqu, ?_⟩ | rw [hgl] | refine hset _ _ _ ?_ | rw [hgr] | refine br_d (by omega) ?_ | refine br_nd (by omega) ?_ | refine br_eq (by omega) ?_ | refine br_neq (by omega) ?_ | refine br_ne (by omega) ?_ | refine br_no (bo_eqn (by omega)) ?_ | refine Or.inl ?_ | refine okS_no (by kernel_rfl) ?_ | refine okS_yes (by kernel_rfl) ?_ | refine And_of (by (conv => whnf); (rw [getB_app0]); (conv => whnf)) ?_ | refine setB_app ?_ | refine setB_app0 ?_ | rw [getB_app] | rw [getB_app0] | refine addB_f13 ?_ | refine addB_f12 ?_ | refine addB_f11 ?_ | refine addB_f10 ?_ | refine addB_f9 ?_ | refine addB_f8 ?_ | refine addB_f7 ?_ | refine addB_f6 ?_ | refine addB_f5 ?_ | refine addB_f4 ?_ | refine addB_f3 ?_ | refine addB_f2 ?_ | refine addB_f1 ?_ | refine addB_f0 ?_); conv => whnf)
    refine ⟨rfl, [], ?_⟩
    rw [List.append_nil]
    rfl
end
section
variable {M : List Blk} (hm : Top M) (hsc : scM M.length M = true) {j : Nat} {w : Bool} {Be : List Nat} (hj : getB M j = ⟨w, .flts Be⟩) (hw : ∀ i, i < Be.length → inF (Be.getD i 0)) (hs : Be.length ≤ 17592186044416) {n : Nat} (hn : 1 ≤ n) (hn' : n ≤ 32) (hB : Be.length = 6 * (n * n)) (hb : ¬ 0 ≤ flI Be mxH) {h : Nat} (hh : highB h = true)
include hm hsc hj hw hs hn hn' hB hb hh
theorem Lake_up (hq : quI (tab Be.length (lakW n Be h)) 0 = -1) : ∃ M' k0 k1 k2 k3, COk Tryz.prog 3 40 [I n, .sl j 0 Be.length, F h] M (.tup [seaV k0 k1 k2 k3 Be.length Be.length Be.length (edges n).length 0 0, I 0]) M' ∧ Up M M' ∧
    SeaB M' true k0 k1 k2 k3 Be (tab Be.length (lakW n Be h)) (List.replicate Be.length 0) (List.replicate (edges n).length 0) := by
  have hlen := edges_len hn
  have hsq : n * n ≤ 1024 := Nat.mul_le_mul hn' hn'
  have hsq1 : 1 ≤ n * n := Nat.mul_le_mul hn hn
  have u0 : Up M (M ++ ([sBx nilS' nilS' nilS' nilS' 0 0] : List Blk)) := Up.of hsc (by simp [scM, B.sc, scL, V.sc])
  obtain ⟨b, M1, hnew, N, u1⟩ := new_up (hm.up u0) u0.sc n hn hn'
  obtain ⟨x, hM1⟩ := u1.ex
  have hr := Lake_raw hm hsc hj hw hs hn hn' hB hb hh hM1 hnew N u1 hq
  have hx : scM M1.length x = true := by
    have := u1.sc
    rw [hM1] at this ⊢
    exact (scM_of_app this).2
  have hl1 : M1.length = M.length + 1 + x.length := by rw [hM1]; simp; omega
  rw [List.append_assoc, List.append_assoc] at hr
  have at5 : frzL (M1.length + 5) (Be.length - 1) (M1.length + 5) = some (Be.length - 1) := if_pos rfl
  have ne : ∀ k, k ≠ M1.length + 5 → frzL (M1.length + 5) (Be.length - 1) k = none := fun k hk => if_neg hk
  have h9 := COk.settle (N' := [⟨false, .dead⟩] ++ (x ++ [⟨true, .flts Be⟩, ⟨true, .ints .i64 (List.replicate (Be.length * 1) 0)⟩, ⟨true, .flts (List.replicate ((edges n).length * 1) 0)⟩, ⟨false, .dead⟩, ⟨false, .dead⟩, ⟨true, .ints .i64 (tab Be.length (lakW n Be h))⟩])) (frzL (M1.length + 5) (Be.length - 1)) hr ?_ ?_ ?_ ?_
  · have e : (V.tup [lakV M1 Be.length (edges n).length, I 0]).stl (frzL (M1.length + 5) (Be.length - 1)) = .tup [seaV M1.length (M1.length + 5) (M1.length + 1) (M1.length + 2) Be.length Be.length Be.length (edges n).length 0 0, I 0] := by
      simp only [V.stl, stlL, at5]
    rw [e] at h9
    refine ⟨_, M1.length, M1.length + 5, M1.length + 1, M1.length + 2, h9, Up.mk ⟨_, rfl⟩ ?_, ?_⟩
    · refine scM_app (scM_mono (by simp) _ hsc) (scM_app rfl (scM_app (scM_mono (by simp; omega) _ hx) rfl))
    · have eL : M1.length = (M ++ ([(⟨false, .dead⟩ : Blk)] ++ x)).length := by rw [hl1]; simp; omega
      have eM : ∀ l : List Blk, M ++ ([(⟨false, .dead⟩ : Blk)] ++ (x ++ l)) = (M ++ ([(⟨false, .dead⟩ : Blk)] ++ x)) ++ l := fun l => by simp
      rw [eM, eL]
      rw [Nat.mul_one, Nat.mul_one]
      refine ⟨getB_app0, getB_app 5, getB_app 1, getB_app 2, hw, fun i hi => ?_, fun i hi => ?_, fun i hi => ?_, hs, by rw [tab_len]; exact hs, by simp; exact hs, by simp; omega⟩
      · rw [tab_len] at hi
        rw [tab_get hi]
        exact fillF_in _ _ _
      · rw [List.getD_eq_getElem?_getD, List.getElem?_replicate]
        split <;> (unfold in64; simp)
      · rw [List.getD_eq_getElem?_getD, List.getElem?_replicate]
        split <;> (unfold inF; simp)
  · intro i hi
    exact ne i (by omega)
  · intro i hi
    simp [lakL] at hi
    exact ne i (by omega)
  · refine ⟨⟨trivial, ?_, trivial, trivial, trivial, trivial, trivial⟩, trivial, trivial⟩
    intro u hu
    exact Option.some.inj (hu.symm.trans at5)
  · refine ⟨.gone (.inl (ne _ (by omega))) (.inl rfl), AllStl.app (m := x) (m' := x) (k := M.length + 1) (AllStl.keep (n := M1.length) (fun i hi => ne i (by omega)) x _ (fun i h1 h2 => ne i (by omega)) hx) ?_⟩
    rw [← hl1]
    have e : ∀ k, k ≠ 5 → frzL (M1.length + 5) (Be.length - 1) (M1.length + k) = none := fun k hk => ne _ (by omega)
    refine ⟨.same (e 0 (by decide)) (fun h => h) ?_, .same (e 1 (by decide)) (fun h => h) ?_, .same (e 2 (by decide)) (fun h => h) ?_, .gone (.inl (e 3 (by decide))) (.inl rfl), .gone (.inl (e 4 (by decide))) (.inl rfl), .ints at5 (fun h => h), trivial⟩
    all_goals
      intro i v hv
      simp only [B.get, Option.map_eq_some_iff] at hv
      obtain ⟨_, _, rfl⟩ := hv
      exact ⟨rfl, trivial⟩
end
end Go.Proofs.YtgoljofmbidkfaaGreatDoor
