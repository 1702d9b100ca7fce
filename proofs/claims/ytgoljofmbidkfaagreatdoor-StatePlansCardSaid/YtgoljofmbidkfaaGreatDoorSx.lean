import Derived.Test.YtgoljofmbidkfaaGreatDoorSv
import Derived.Test.YtgoljofmbidkfaaGreatDoorR6
/- Lists and seas that are compared. No condition. -/
namespace Go.Proofs.YtgoljofmbidkfaaGreatDoor
open Go Go.Eng
set_option maxRecDepth 100000
set_option linter.unusedSimpArgs false
set_option linter.unusedVariables false

theorem list_neD {α : Type} (d : α) {a b : List α} (h : a.length = b.length) (hne : a ≠ b) : ∃ k, k < a.length ∧ (∀ i, i < k → a.getD i d = b.getD i d) ∧ a.getD k d ≠ b.getD k d := by
  induction a generalizing b with
  | nil => cases b with
    | nil => exact absurd rfl hne
    | cons y b => simp at h
  | cons x a ih => cases b with
    | nil => simp at h
    | cons y b =>
      by_cases hxy : x = y
      · subst hxy
        obtain ⟨k, h1, h2, h3⟩ := ih (by simpa using h) (fun e => hne (by rw [e]))
        refine ⟨k + 1, by simpa using h1, fun i hi => ?_, by simpa using h3⟩
        cases i with
        | zero => simp
        | succ i => simpa using h2 i (by omega)
      · exact ⟨0, by simp, fun i hi => by omega, by simpa using hxy⟩
/-- The closure of a comparison, and what lies in its box. -/
theorem sameF1_ok {M : List Blk} {jc : Nat} (hj : getB M jc = ⟨true, .cells [.clo (.func 81) [] []]⟩) (x y : Nat) : COk Tryz.prog 3 129 [F x, F y, .ptr jc 0] M (Bo (decide (x = y))) M := by
  have e : ((x : Int) == (y : Int)) = decide (x = y) := by
    by_cases h : x = y
    · subst h; simp
    · rw [decide_eq_false h]; exact beq_eq_false_iff_ne.2 (by omega)
  refine COk_quiet Tryz.f129 Tryz.func129 (by kernel_rfl) rfl ?_
  (conv => whnf); repeat ((first | rw [hj] | refine ⟨_, _, f64bits_ok _ _, ?_⟩ | refine ⟨_, f64bits_ok _ _, ?_⟩ | refine br_d (by omega) ?_ | refine br_nd (by omega) ?_ | refine br_eq (by omega) ?_ | refine br_neq (by omega) ?_ | refine br_ne (by omega) ?_ | refine br_no (bo_eqn (by omega)) ?_ | refine Or.inl ?_ | refine okS_no (by kernel_rfl) ?_ | refine okS_yes (by kernel_rfl) ?_ | refine And_of (by (conv => whnf); (rw [getB_app0]); (conv => whnf)) ?_ | refine setB_app ?_ | refine setB_app0 ?_ | rw [getB_app] | rw [getB_app0] | refine addB_f13 ?_ | refine addB_f12 ?_ | refine addB_f11 ?_ | refine addB_f10 ?_ | refine addB_f9 ?_ | refine addB_f8 ?_ | refine addB_f7 ?_ | refine addB_f6 ?_ | refine addB_f5 ?_ | refine addB_f4 ?_ | refine addB_f3 ?_ | refine addB_f2 ?_ | refine addB_f1 ?_ | refine addB_f0 ?_); conv => whnf)
  exact ⟨congrArg V.bool e, [], by simp⟩
theorem itself_ok (x : Int) (m : List Blk) : COk Tryz.prog 3 83 [.int .i64 x] m (.int .i64 x) m := by
  refine COk_quiet Tryz.f83 Tryz.func83 (by kernel_rfl) rfl ?_
  (conv => whnf); repeat ((first | refine br_d (by omega) ?_ | refine br_nd (by omega) ?_ | refine br_eq (by omega) ?_ | refine br_neq (by omega) ?_ | refine br_ne (by omega) ?_ | refine br_no (bo_eqn (by omega)) ?_ | refine Or.inl ?_ | refine okS_no (by kernel_rfl) ?_ | refine okS_yes (by kernel_rfl) ?_ | refine And_of (by (conv => whnf); (rw [getB_app0]); (conv => whnf)) ?_ | refine setB_app ?_ | refine setB_app0 ?_ | rw [getB_app] | rw [getB_app0] | refine addB_f13 ?_ | refine addB_f12 ?_ | refine addB_f11 ?_ | refine addB_f10 ?_ | refine addB_f9 ?_ | refine addB_f8 ?_ | refine addB_f7 ?_ | refine addB_f6 ?_ | refine addB_f5 ?_ | refine addB_f4 ?_ | refine addB_f3 ?_ | refine addB_f2 ?_ | refine addB_f1 ?_ | refine addB_f0 ?_); conv => whnf)
  exact ⟨rfl, [], by simp⟩
theorem sameI1_ok {M : List Blk} {jc : Nat} (hj : getB M jc = ⟨true, .cells [.clo (.func 83) [] []]⟩) (x y : Int) : COk Tryz.prog 3 131 [.int .i64 x, .int .i64 y, .ptr jc 0] M (Bo (decide (x = y))) M := by
  have e : (x == y) = decide (x = y) := by
    by_cases h : x = y
    · subst h; simp
    · rw [decide_eq_false h]; exact beq_eq_false_iff_ne.2 h
  refine COk_quiet Tryz.f131 Tryz.func131 (by kernel_rfl) rfl ?_
  (conv => whnf); repeat ((first | rw [hj] | refine ⟨_, _, itself_ok _ _, ?_⟩ | refine ⟨_, itself_ok _ _, ?_⟩ | refine br_d (by omega) ?_ | refine br_nd (by omega) ?_ | refine br_eq (by omega) ?_ | refine br_neq (by omega) ?_ | refine br_ne (by omega) ?_ | refine br_no (bo_eqn (by omega)) ?_ | refine Or.inl ?_ | refine okS_no (by kernel_rfl) ?_ | refine okS_yes (by kernel_rfl) ?_ | refine And_of (by (conv => whnf); (rw [getB_app0]); (conv => whnf)) ?_ | refine setB_app ?_ | refine setB_app0 ?_ | rw [getB_app] | rw [getB_app0] | refine addB_f13 ?_ | refine addB_f12 ?_ | refine addB_f11 ?_ | refine addB_f10 ?_ | refine addB_f9 ?_ | refine addB_f8 ?_ | refine addB_f7 ?_ | refine addB_f6 ?_ | refine addB_f5 ?_ | refine addB_f4 ?_ | refine addB_f3 ?_ | refine addB_f2 ?_ | refine addB_f1 ?_ | refine addB_f0 ?_); conv => whnf)
  exact ⟨congrArg V.bool e, [], by simp⟩
set_option maxHeartbeats 0 in
theorem eqF_ok {fn : FuncId} {M : List Blk} (hsc : scM M.length M = true) (hng : 3 ≤ M.length) {j1 o1 j2 o2 n1 n2 jc : Nat} {a b : List Nat} (S1 : SlF M j1 o1 a) (S2 : SlF M j2 o2 b) (h1 : a.length = n1) (h2 : b.length = n2) (hjc : jc < M.length)
    (hc : ∀ x y, COk Tryz.prog 3 fn [F x, F y, .ptr jc 0] M (Bo (decide (x = y))) M) : COk Tryz.prog 3 128 [.sl j1 o1 n1, .sl j2 o2 n2, .clo (.func fn) [] [.ptr jc 0]] M (Bo (decide (a = b))) M := by
  have wl := S1.short
  have wl2 := S2.short
  have hj1 := S1.lt
  have hj2 := S2.lt
  subst h1
  subst h2
  refine COk_quiet Tryz.f128 Tryz.func128 (by kernel_rfl) rfl ?_
  by_cases hl : a.length = b.length
  · by_cases he : a = b
    · rw [decide_eq_true he]
      subst he
      have hc : ∀ x, COk Tryz.prog 3 fn [F x, F x, .ptr jc 0] M (Bo true) M := fun x => by
        have := hc x x
        rwa [decide_eq_true rfl] at this
      (conv => whnf); repeat ((first | refine br_no (bo_eqn rfl) ?_ | refine br_d (by omega) ?_ | refine br_nd (by omega) ?_ | refine br_eq (by omega) ?_ | refine br_neq (by omega) ?_ | refine br_ne (by omega) ?_ | refine br_no (bo_eqn (by omega)) ?_ | refine Or.inl ?_ | refine okS_no (by kernel_rfl) ?_ | refine okS_yes (by kernel_rfl) ?_ | refine And_of (by (conv => whnf); (rw [getB_app0]); (conv => whnf)) ?_ | refine setB_app ?_ | refine setB_app0 ?_ | rw [getB_app] | rw [getB_app0] | refine addB_f13 ?_ | refine addB_f12 ?_ | refine addB_f11 ?_ | refine addB_f10 ?_ | refine addB_f9 ?_ | refine addB_f8 ?_ | refine addB_f7 ?_ | refine addB_f6 ?_ | refine addB_f5 ?_ | refine addB_f4 ?_ | refine addB_f3 ?_ | refine addB_f2 ?_ | refine addB_f1 ?_ | refine addB_f0 ?_); conv => whnf)
      refine loop_to (fun i => [.sl j1 o1 a.length, .sl j2 o2 a.length, .clo (.func fn) [] [.ptr jc 0], .any, .any, .any, .any, .any, .any, .any, .any, .any, .any, .any, .any, .sl j1 o1 a.length, I a.length, I i, .any, .any, .any, .any, .any, .any, .any, .any, .any, .any, .any, .any, .any, .any]) (fun i => M) 0 a.length (Nat.zero_le _) ?_ ?_ ?_
      · refine Fg.of [] ?_ (by rw [List.append_nil]) (by first | (simp; done) | (simp; omega)) (by first | (simp [scL, V.sc]; done) | (simp [scL, V.sc]; omega)) hsc
        conv => whnf
        exact ⟨rfl, rfl, rfl, rfl, rfl, rfl, rfl⟩
      · intro i _ hi
        (conv => whnf); repeat ((first | refine SlF.at S1 (i := i) hi rfl ?_ | refine SlF.at S2 (i := i) hi rfl ?_ | refine ⟨_, _, hc _, ?_⟩ | refine ⟨_, hc _, ?_⟩ | refine br_d (by omega) ?_ | refine br_nd (by omega) ?_ | refine br_eq (by omega) ?_ | refine br_neq (by omega) ?_ | refine br_ne (by omega) ?_ | refine br_no (bo_eqn (by omega)) ?_ | refine Or.inl ?_ | refine okS_no (by kernel_rfl) ?_ | refine okS_yes (by kernel_rfl) ?_ | refine And_of (by (conv => whnf); (rw [getB_app0]); (conv => whnf)) ?_ | refine setB_app ?_ | refine setB_app0 ?_ | rw [getB_app] | rw [getB_app0] | refine addB_f13 ?_ | refine addB_f12 ?_ | refine addB_f11 ?_ | refine addB_f10 ?_ | refine addB_f9 ?_ | refine addB_f8 ?_ | refine addB_f7 ?_ | refine addB_f6 ?_ | refine addB_f5 ?_ | refine addB_f4 ?_ | refine addB_f3 ?_ | refine addB_f2 ?_ | refine addB_f1 ?_ | refine addB_f0 ?_); conv => whnf)
        refine Fg.of [] ?_ (by rw [List.append_nil]) (by first | (simp; done) | (simp; omega)) (by first | (simp [scL, V.sc]; done) | (simp [scL, V.sc]; omega)) hsc
        conv => whnf
        exact ⟨rfl, rfl, rfl, rfl, rfl, wrapKL (by omega), rfl⟩
      · (conv => whnf); repeat ((first | refine br_d (by omega) ?_ | refine br_nd (by omega) ?_ | refine br_eq (by omega) ?_ | refine br_neq (by omega) ?_ | refine br_ne (by omega) ?_ | refine br_no (bo_eqn (by omega)) ?_ | refine Or.inl ?_ | refine okS_no (by kernel_rfl) ?_ | refine okS_yes (by kernel_rfl) ?_ | refine And_of (by (conv => whnf); (rw [getB_app0]); (conv => whnf)) ?_ | refine setB_app ?_ | refine setB_app0 ?_ | rw [getB_app] | rw [getB_app0] | refine addB_f13 ?_ | refine addB_f12 ?_ | refine addB_f11 ?_ | refine addB_f10 ?_ | refine addB_f9 ?_ | refine addB_f8 ?_ | refine addB_f7 ?_ | refine addB_f6 ?_ | refine addB_f5 ?_ | refine addB_f4 ?_ | refine addB_f3 ?_ | refine addB_f2 ?_ | refine addB_f1 ?_ | refine addB_f0 ?_); conv => whnf)
        exact ⟨rfl, [], by simp⟩
    · rw [decide_eq_false he]
      obtain ⟨k, hk, hlow, hne⟩ := list_neD 0 hl he
      (conv => whnf); repeat ((first | refine br_no (bne_eq_false_iff_eq.2 (by omega)) ?_ | refine br_d (by omega) ?_ | refine br_nd (by omega) ?_ | refine br_eq (by omega) ?_ | refine br_neq (by omega) ?_ | refine br_ne (by omega) ?_ | refine br_no (bo_eqn (by omega)) ?_ | refine Or.inl ?_ | refine okS_no (by kernel_rfl) ?_ | refine okS_yes (by kernel_rfl) ?_ | refine And_of (by (conv => whnf); (rw [getB_app0]); (conv => whnf)) ?_ | refine setB_app ?_ | refine setB_app0 ?_ | rw [getB_app] | rw [getB_app0] | refine addB_f13 ?_ | refine addB_f12 ?_ | refine addB_f11 ?_ | refine addB_f10 ?_ | refine addB_f9 ?_ | refine addB_f8 ?_ | refine addB_f7 ?_ | refine addB_f6 ?_ | refine addB_f5 ?_ | refine addB_f4 ?_ | refine addB_f3 ?_ | refine addB_f2 ?_ | refine addB_f1 ?_ | refine addB_f0 ?_); conv => whnf)
      refine loop_to (fun i => [.sl j1 o1 a.length, .sl j2 o2 b.length, .clo (.func fn) [] [.ptr jc 0], .any, .any, .any, .any, .any, .any, .any, .any, .any, .any, .any, .any, .sl j1 o1 a.length, I a.length, I i, .any, .any, .any, .any, .any, .any, .any, .any, .any, .any, .any, .any, .any, .any]) (fun i => M) 0 k (Nat.zero_le _) ?_ ?_ ?_
      · refine Fg.of [] ?_ (by rw [List.append_nil]) (by first | (simp; done) | (simp; omega)) (by first | (simp [scL, V.sc]; done) | (simp [scL, V.sc]; omega)) hsc
        conv => whnf
        exact ⟨rfl, rfl, rfl, rfl, rfl, rfl, rfl⟩
      · intro i _ hi
        have hci := hc (a.getD i 0) (b.getD i 0)
        rw [decide_eq_true (hlow i hi)] at hci
        (conv => whnf); repeat ((first | refine SlF.at S1 (i := i) (by omega) rfl ?_ | refine SlF.at S2 (i := i) (by omega) rfl ?_ | refine ⟨_, _, hci, ?_⟩ | refine ⟨_, hci, ?_⟩ | refine br_d (by omega) ?_ | refine br_nd (by omega) ?_ | refine br_eq (by omega) ?_ | refine br_neq (by omega) ?_ | refine br_ne (by omega) ?_ | refine br_no (bo_eqn (by omega)) ?_ | refine Or.inl ?_ | refine okS_no (by kernel_rfl) ?_ | refine okS_yes (by kernel_rfl) ?_ | refine And_of (by (conv => whnf); (rw [getB_app0]); (conv => whnf)) ?_ | refine setB_app ?_ | refine setB_app0 ?_ | rw [getB_app] | rw [getB_app0] | refine addB_f13 ?_ | refine addB_f12 ?_ | refine addB_f11 ?_ | refine addB_f10 ?_ | refine addB_f9 ?_ | refine addB_f8 ?_ | refine addB_f7 ?_ | refine addB_f6 ?_ | refine addB_f5 ?_ | refine addB_f4 ?_ | refine addB_f3 ?_ | refine addB_f2 ?_ | refine addB_f1 ?_ | refine addB_f0 ?_); conv => whnf)
        refine Fg.of [] ?_ (by rw [List.append_nil]) (by first | (simp; done) | (simp; omega)) (by first | (simp [scL, V.sc]; done) | (simp [scL, V.sc]; omega)) hsc
        conv => whnf
        exact ⟨rfl, rfl, rfl, rfl, rfl, wrapKL (by omega), rfl⟩
      · have hck := hc (a.getD k 0) (b.getD k 0)
        rw [decide_eq_false hne] at hck
        (conv => whnf); repeat ((first | refine SlF.at S1 (i := k) (by omega) rfl ?_ | refine SlF.at S2 (i := k) (by omega) rfl ?_ | refine ⟨_, _, hck, ?_⟩ | refine ⟨_, hck, ?_⟩ | refine br_d (by omega) ?_ | refine br_nd (by omega) ?_ | refine br_eq (by omega) ?_ | refine br_neq (by omega) ?_ | refine br_ne (by omega) ?_ | refine br_no (bo_eqn (by omega)) ?_ | refine Or.inl ?_ | refine okS_no (by kernel_rfl) ?_ | refine okS_yes (by kernel_rfl) ?_ | refine And_of (by (conv => whnf); (rw [getB_app0]); (conv => whnf)) ?_ | refine setB_app ?_ | refine setB_app0 ?_ | rw [getB_app] | rw [getB_app0] | refine addB_f13 ?_ | refine addB_f12 ?_ | refine addB_f11 ?_ | refine addB_f10 ?_ | refine addB_f9 ?_ | refine addB_f8 ?_ | refine addB_f7 ?_ | refine addB_f6 ?_ | refine addB_f5 ?_ | refine addB_f4 ?_ | refine addB_f3 ?_ | refine addB_f2 ?_ | refine addB_f1 ?_ | refine addB_f0 ?_); conv => whnf)
        exact ⟨rfl, [], by simp⟩
  · rw [decide_eq_false (fun e => hl (by rw [e]))]
    (conv => whnf); repeat ((first | refine br_yes (bne_iff_ne.2 (by omega)) ?_ | refine br_d (by omega) ?_ | refine br_nd (by omega) ?_ | refine br_eq (by omega) ?_ | refine br_neq (by omega) ?_ | refine br_ne (by omega) ?_ | refine br_no (bo_eqn (by omega)) ?_ | refine Or.inl ?_ | refine okS_no (by kernel_rfl) ?_ | refine okS_yes (by kernel_rfl) ?_ | refine And_of (by (conv => whnf); (rw [getB_app0]); (conv => whnf)) ?_ | refine setB_app ?_ | refine setB_app0 ?_ | rw [getB_app] | rw [getB_app0] | refine addB_f13 ?_ | refine addB_f12 ?_ | refine addB_f11 ?_ | refine addB_f10 ?_ | refine addB_f9 ?_ | refine addB_f8 ?_ | refine addB_f7 ?_ | refine addB_f6 ?_ | refine addB_f5 ?_ | refine addB_f4 ?_ | refine addB_f3 ?_ | refine addB_f2 ?_ | refine addB_f1 ?_ | refine addB_f0 ?_); conv => whnf)
    exact ⟨rfl, [], by simp⟩
abbrev Q6 (n : Int) : V := .int .i64 n
set_option maxHeartbeats 0 in
theorem eqI_ok {fn : FuncId} {M : List Blk} (hsc : scM M.length M = true) (hng : 3 ≤ M.length) {j1 o1 j2 o2 n1 n2 jc : Nat} {a b : List Int} (S1 : SlI M j1 o1 a) (S2 : SlI M j2 o2 b) (h1 : a.length = n1) (h2 : b.length = n2) (hjc : jc < M.length)
    (hc : ∀ x y, COk Tryz.prog 3 fn [Q6 x, Q6 y, .ptr jc 0] M (Bo (decide (x = y))) M) : COk Tryz.prog 3 130 [.sl j1 o1 n1, .sl j2 o2 n2, .clo (.func fn) [] [.ptr jc 0]] M (Bo (decide (a = b))) M := by
  have wl := S1.short
  have wl2 := S2.short
  have hj1 := S1.lt
  have hj2 := S2.lt
  subst h1
  subst h2
  refine COk_quiet Tryz.f130 Tryz.func130 (by kernel_rfl) rfl ?_
  by_cases hl : a.length = b.length
  · by_cases he : a = b
    · rw [decide_eq_true he]
      subst he
      have hc : ∀ x, COk Tryz.prog 3 fn [Q6 x, Q6 x, .ptr jc 0] M (Bo true) M := fun x => by
        have := hc x x
        rwa [decide_eq_true rfl] at this
      (conv => whnf); repeat ((first | refine br_no (bo_eqn rfl) ?_ | refine br_d (by omega) ?_ | refine br_nd (by omega) ?_ | refine br_eq (by omega) ?_ | refine br_neq (by omega) ?_ | refine br_ne (by omega) ?_ | refine br_no (bo_eqn (by omega)) ?_ | refine Or.inl ?_ | refine okS_no (by kernel_rfl) ?_ | refine okS_yes (by kernel_rfl) ?_ | refine And_of (by (conv => whnf); (rw [getB_app0]); (conv => whnf)) ?_ | refine setB_app ?_ | refine setB_app0 ?_ | rw [getB_app] | rw [getB_app0] | refine addB_f13 ?_ | refine addB_f12 ?_ | refine addB_f11 ?_ | refine addB_f10 ?_ | refine addB_f9 ?_ | refine addB_f8 ?_ | refine addB_f7 ?_ | refine addB_f6 ?_ | refine addB_f5 ?_ | refine addB_f4 ?_ | refine addB_f3 ?_ | refine addB_f2 ?_ | refine addB_f1 ?_ | refine addB_f0 ?_); conv => whnf)
      refine loop_to (fun i => [.sl j1 o1 a.length, .sl j2 o2 a.length, .clo (.func fn) [] [.ptr jc 0], .any, .any, .any, .any, .any, .any, .any, .any, .any, .any, .any, .any, .sl j1 o1 a.length, I a.length, I i, .any, .any, .any, .any, .any, .any, .any, .any, .any, .any, .any, .any, .any, .any]) (fun i => M) 0 a.length (Nat.zero_le _) ?_ ?_ ?_
      · refine Fg.of [] ?_ (by rw [List.append_nil]) (by first | (simp; done) | (simp; omega)) (by first | (simp [scL, V.sc]; done) | (simp [scL, V.sc]; omega)) hsc
        conv => whnf
        exact ⟨rfl, rfl, rfl, rfl, rfl, rfl, rfl⟩
      · intro i _ hi
        (conv => whnf); repeat ((first | refine SlI.at S1 (i := i) hi rfl ?_ | refine SlI.at S2 (i := i) hi rfl ?_ | refine ⟨_, _, hc _, ?_⟩ | refine ⟨_, hc _, ?_⟩ | refine br_d (by omega) ?_ | refine br_nd (by omega) ?_ | refine br_eq (by omega) ?_ | refine br_neq (by omega) ?_ | refine br_ne (by omega) ?_ | refine br_no (bo_eqn (by omega)) ?_ | refine Or.inl ?_ | refine okS_no (by kernel_rfl) ?_ | refine okS_yes (by kernel_rfl) ?_ | refine And_of (by (conv => whnf); (rw [getB_app0]); (conv => whnf)) ?_ | refine setB_app ?_ | refine setB_app0 ?_ | rw [getB_app] | rw [getB_app0] | refine addB_f13 ?_ | refine addB_f12 ?_ | refine addB_f11 ?_ | refine addB_f10 ?_ | refine addB_f9 ?_ | refine addB_f8 ?_ | refine addB_f7 ?_ | refine addB_f6 ?_ | refine addB_f5 ?_ | refine addB_f4 ?_ | refine addB_f3 ?_ | refine addB_f2 ?_ | refine addB_f1 ?_ | refine addB_f0 ?_); conv => whnf)
        refine Fg.of [] ?_ (by rw [List.append_nil]) (by first | (simp; done) | (simp; omega)) (by first | (simp [scL, V.sc]; done) | (simp [scL, V.sc]; omega)) hsc
        conv => whnf
        exact ⟨rfl, rfl, rfl, rfl, rfl, wrapKL (by omega), rfl⟩
      · (conv => whnf); repeat ((first | refine br_d (by omega) ?_ | refine br_nd (by omega) ?_ | refine br_eq (by omega) ?_ | refine br_neq (by omega) ?_ | refine br_ne (by omega) ?_ | refine br_no (bo_eqn (by omega)) ?_ | refine Or.inl ?_ | refine okS_no (by kernel_rfl) ?_ | refine okS_yes (by kernel_rfl) ?_ | refine And_of (by (conv => whnf); (rw [getB_app0]); (conv => whnf)) ?_ | refine setB_app ?_ | refine setB_app0 ?_ | rw [getB_app] | rw [getB_app0] | refine addB_f13 ?_ | refine addB_f12 ?_ | refine addB_f11 ?_ | refine addB_f10 ?_ | refine addB_f9 ?_ | refine addB_f8 ?_ | refine addB_f7 ?_ | refine addB_f6 ?_ | refine addB_f5 ?_ | refine addB_f4 ?_ | refine addB_f3 ?_ | refine addB_f2 ?_ | refine addB_f1 ?_ | refine addB_f0 ?_); conv => whnf)
        exact ⟨rfl, [], by simp⟩
    · rw [decide_eq_false he]
      obtain ⟨k, hk, hlow, hne⟩ := list_neD 0 hl he
      (conv => whnf); repeat ((first | refine br_no (bne_eq_false_iff_eq.2 (by omega)) ?_ | refine br_d (by omega) ?_ | refine br_nd (by omega) ?_ | refine br_eq (by omega) ?_ | refine br_neq (by omega) ?_ | refine br_ne (by omega) ?_ | refine br_no (bo_eqn (by omega)) ?_ | refine Or.inl ?_ | refine okS_no (by kernel_rfl) ?_ | refine okS_yes (by kernel_rfl) ?_ | refine And_of (by (conv => whnf); (rw [getB_app0]); (conv => whnf)) ?_ | refine setB_app ?_ | refine setB_app0 ?_ | rw [getB_app] | rw [getB_app0] | refine addB_f13 ?_ | refine addB_f12 ?_ | refine addB_f11 ?_ | refine addB_f10 ?_ | refine addB_f9 ?_ | refine addB_f8 ?_ | refine addB_f7 ?_ | refine addB_f6 ?_ | refine addB_f5 ?_ | refine addB_f4 ?_ | refine addB_f3 ?_ | refine addB_f2 ?_ | refine addB_f1 ?_ | refine addB_f0 ?_); conv => whnf)
      refine loop_to (fun i => [.sl j1 o1 a.length, .sl j2 o2 b.length, .clo (.func fn) [] [.ptr jc 0], .any, .any, .any, .any, .any, .any, .any, .any, .any, .any, .any, .any, .sl j1 o1 a.length, I a.length, I i, .any, .any, .any, .any, .any, .any, .any, .any, .any, .any, .any, .any, .any, .any]) (fun i => M) 0 k (Nat.zero_le _) ?_ ?_ ?_
      · refine Fg.of [] ?_ (by rw [List.append_nil]) (by first | (simp; done) | (simp; omega)) (by first | (simp [scL, V.sc]; done) | (simp [scL, V.sc]; omega)) hsc
        conv => whnf
        exact ⟨rfl, rfl, rfl, rfl, rfl, rfl, rfl⟩
      · intro i _ hi
        have hci := hc (a.getD i 0) (b.getD i 0)
        rw [decide_eq_true (hlow i hi)] at hci
        (conv => whnf); repeat ((first | refine SlI.at S1 (i := i) (by omega) rfl ?_ | refine SlI.at S2 (i := i) (by omega) rfl ?_ | refine ⟨_, _, hci, ?_⟩ | refine ⟨_, hci, ?_⟩ | refine br_d (by omega) ?_ | refine br_nd (by omega) ?_ | refine br_eq (by omega) ?_ | refine br_neq (by omega) ?_ | refine br_ne (by omega) ?_ | refine br_no (bo_eqn (by omega)) ?_ | refine Or.inl ?_ | refine okS_no (by kernel_rfl) ?_ | refine okS_yes (by kernel_rfl) ?_ | refine And_of (by (conv => whnf); (rw [getB_app0]); (conv => whnf)) ?_ | refine setB_app ?_ | refine setB_app0 ?_ | rw [getB_app] | rw [getB_app0] | refine addB_f13 ?_ | refine addB_f12 ?_ | refine addB_f11 ?_ | refine addB_f10 ?_ | refine addB_f9 ?_ | refine addB_f8 ?_ | refine addB_f7 ?_ | refine addB_f6 ?_ | refine addB_f5 ?_ | refine addB_f4 ?_ | refine addB_f3 ?_ | refine addB_f2 ?_ | refine addB_f1 ?_ | refine addB_f0 ?_); conv => whnf)
        refine Fg.of [] ?_ (by rw [List.append_nil]) (by first | (simp; done) | (simp; omega)) (by first | (simp [scL, V.sc]; done) | (simp [scL, V.sc]; omega)) hsc
        conv => whnf
        exact ⟨rfl, rfl, rfl, rfl, rfl, wrapKL (by omega), rfl⟩
      · have hck := hc (a.getD k 0) (b.getD k 0)
        rw [decide_eq_false hne] at hck
        (conv => whnf); repeat ((first | refine SlI.at S1 (i := k) (by omega) rfl ?_ | refine SlI.at S2 (i := k) (by omega) rfl ?_ | refine ⟨_, _, hck, ?_⟩ | refine ⟨_, hck, ?_⟩ | refine br_d (by omega) ?_ | refine br_nd (by omega) ?_ | refine br_eq (by omega) ?_ | refine br_neq (by omega) ?_ | refine br_ne (by omega) ?_ | refine br_no (bo_eqn (by omega)) ?_ | refine Or.inl ?_ | refine okS_no (by kernel_rfl) ?_ | refine okS_yes (by kernel_rfl) ?_ | refine And_of (by (conv => whnf); (rw [getB_app0]); (conv => whnf)) ?_ | refine setB_app ?_ | refine setB_app0 ?_ | rw [getB_app] | rw [getB_app0] | refine addB_f13 ?_ | refine addB_f12 ?_ | refine addB_f11 ?_ | refine addB_f10 ?_ | refine addB_f9 ?_ | refine addB_f8 ?_ | refine addB_f7 ?_ | refine addB_f6 ?_ | refine addB_f5 ?_ | refine addB_f4 ?_ | refine addB_f3 ?_ | refine addB_f2 ?_ | refine addB_f1 ?_ | refine addB_f0 ?_); conv => whnf)
        exact ⟨rfl, [], by simp⟩
  · rw [decide_eq_false (fun e => hl (by rw [e]))]
    (conv => whnf); repeat ((first | refine br_yes (bne_iff_ne.2 (by omega)) ?_ | refine br_d (by omega) ?_ | refine br_nd (by omega) ?_ | refine br_eq (by omega) ?_ | refine br_neq (by omega) ?_ | refine br_ne (by omega) ?_ | refine br_no (bo_eqn (by omega)) ?_ | refine Or.inl ?_ | refine okS_no (by kernel_rfl) ?_ | refine okS_yes (by kernel_rfl) ?_ | refine And_of (by (conv => whnf); (rw [getB_app0]); (conv => whnf)) ?_ | refine setB_app ?_ | refine setB_app0 ?_ | rw [getB_app] | rw [getB_app0] | refine addB_f13 ?_ | refine addB_f12 ?_ | refine addB_f11 ?_ | refine addB_f10 ?_ | refine addB_f9 ?_ | refine addB_f8 ?_ | refine addB_f7 ?_ | refine addB_f6 ?_ | refine addB_f5 ?_ | refine addB_f4 ?_ | refine addB_f3 ?_ | refine addB_f2 ?_ | refine addB_f1 ?_ | refine addB_f0 ?_); conv => whnf)
    exact ⟨rfl, [], by simp⟩
section
variable {M : List Blk} (hsc : scM M.length M = true) (hng : 3 ≤ M.length)
include hsc hng
theorem sameF_ok {j1 o1 j2 o2 n1 n2 : Nat} {a b : List Nat} (S1 : SlF M j1 o1 a) (S2 : SlF M j2 o2 b) (h1 : a.length = n1) (h2 : b.length = n2) : COk Tryz.prog 3 80 [.sl j1 o1 n1, .sl j2 o2 n2, .clo (.func 81) [] []] M (Bo (decide (a = b))) M := by
  have h := eqF_ok (M := M ++ [⟨true, .cells [.clo (.func 81) [] []]⟩]) (jc := M.length) (scM_app (scM_mono (by simp) _ hsc) (by simp [scM, B.sc, scL, V.sc])) (by simp; omega) (S1.app _) (S2.app _) h1 h2 (by simp) (fun x y => sameF1_ok getB_app0 x y)
  refine COk_quiet Tryz.f80 Tryz.func80 (by kernel_rfl) rfl ?_
  (conv => whnf); repeat ((first | refine ⟨_, _, h, ?_⟩ | refine ⟨_, h, ?_⟩ | refine br_d (by omega) ?_ | refine br_nd (by omega) ?_ | refine br_eq (by omega) ?_ | refine br_neq (by omega) ?_ | refine br_ne (by omega) ?_ | refine br_no (bo_eqn (by omega)) ?_ | refine Or.inl ?_ | refine okS_no (by kernel_rfl) ?_ | refine okS_yes (by kernel_rfl) ?_ | refine And_of (by (conv => whnf); (rw [getB_app0]); (conv => whnf)) ?_ | refine setB_app ?_ | refine setB_app0 ?_ | rw [getB_app] | rw [getB_app0] | refine addB_f13 ?_ | refine addB_f12 ?_ | refine addB_f11 ?_ | refine addB_f10 ?_ | refine addB_f9 ?_ | refine addB_f8 ?_ | refine addB_f7 ?_ | refine addB_f6 ?_ | refine addB_f5 ?_ | refine addB_f4 ?_ | refine addB_f3 ?_ | refine addB_f2 ?_ | refine addB_f1 ?_ | refine addB_f0 ?_); conv => whnf)
  exact ⟨rfl, _, rfl⟩
theorem sameI_ok {j1 o1 j2 o2 n1 n2 : Nat} {a b : List Int} (S1 : SlI M j1 o1 a) (S2 : SlI M j2 o2 b) (h1 : a.length = n1) (h2 : b.length = n2) : COk Tryz.prog 3 82 [.sl j1 o1 n1, .sl j2 o2 n2, .clo (.func 83) [] []] M (Bo (decide (a = b))) M := by
  have h := eqI_ok (M := M ++ [⟨true, .cells [.clo (.func 83) [] []]⟩]) (jc := M.length) (scM_app (scM_mono (by simp) _ hsc) (by simp [scM, B.sc, scL, V.sc])) (by simp; omega) (S1.app _) (S2.app _) h1 h2 (by simp) (fun x y => sameI1_ok getB_app0 x y)
  refine COk_quiet Tryz.f82 Tryz.func82 (by kernel_rfl) rfl ?_
  (conv => whnf); repeat ((first | refine ⟨_, _, h, ?_⟩ | refine ⟨_, h, ?_⟩ | refine br_d (by omega) ?_ | refine br_nd (by omega) ?_ | refine br_eq (by omega) ?_ | refine br_neq (by omega) ?_ | refine br_ne (by omega) ?_ | refine br_no (bo_eqn (by omega)) ?_ | refine Or.inl ?_ | refine okS_no (by kernel_rfl) ?_ | refine okS_yes (by kernel_rfl) ?_ | refine And_of (by (conv => whnf); (rw [getB_app0]); (conv => whnf)) ?_ | refine setB_app ?_ | refine setB_app0 ?_ | rw [getB_app] | rw [getB_app0] | refine addB_f13 ?_ | refine addB_f12 ?_ | refine addB_f11 ?_ | refine addB_f10 ?_ | refine addB_f9 ?_ | refine addB_f8 ?_ | refine addB_f7 ?_ | refine addB_f6 ?_ | refine addB_f5 ?_ | refine addB_f4 ?_ | refine addB_f3 ?_ | refine addB_f2 ?_ | refine addB_f1 ?_ | refine addB_f0 ?_); conv => whnf)
  exact ⟨rfl, _, rfl⟩
end
/-! ### The reference's -/
/-- Two seas are the same. -/
def sameB (a : List Nat × List Int × List Int × List Nat × Int × Int) (b : List Nat × List Int × List Int × List Nat × Int × Int) : Bool :=
  decide (a.1 = b.1) && (decide (a.2.1 = b.2.1) && (decide (a.2.2.1 = b.2.2.1) && (decide (a.2.2.2.1 = b.2.2.2.1) && ((a.2.2.2.2.1 == b.2.2.2.2.1) && (a.2.2.2.2.2 == b.2.2.2.2.2)))))
theorem sameB_self (a : List Nat × List Int × List Int × List Nat × Int × Int) : sameB a a = true := by simp [sameB]
section
variable {M : List Blk} (hsc : scM M.length M = true) (hng : 3 ≤ M.length) {j0 j1 j2 j3 k0 k1 k2 k3 : Nat} {a0 b0 : List Nat} {a1 b1 : List Int} {a2 b2 : List Int} {a3 b3 : List Nat} (HA : SeaR M j0 j1 j2 j3 a0 a1 a2 a3) (HB : SeaR M k0 k1 k2 k3 b0 b1 b2 b3) (ka sa kb sb : Int)
include hsc hng HA HB
set_option maxHeartbeats 0 in
theorem Same_ok : COk Tryz.prog 3 28 [seaV j0 j1 j2 j3 a0.length a1.length a2.length a3.length ka sa, seaV k0 k1 k2 k3 b0.length b1.length b2.length b3.length kb sb] M (Bo (sameB (a0, a1, a2, a3, ka, sa) (b0, b1, b2, b3, kb, sb))) M := by
  have l0 := HA.s0.lt
  have l1 := HA.s1.lt
  have l2 := HA.s2.lt
  have l3 := HA.s3.lt
  have m0 := HB.s0.lt
  have m1 := HB.s1.lt
  have m2 := HB.s2.lt
  have m3 := HB.s3.lt
  have hu : Up M (M ++ ([⟨true, .cells [.sl j0 0 a0.length, .sl j1 0 a1.length, .sl j2 0 a2.length, .sl j3 0 a3.length, .int .i64 ka, I sa]⟩, ⟨true, .cells [.sl k0 0 b0.length, .sl k1 0 b1.length, .sl k2 0 b2.length, .sl k3 0 b3.length, .int .i64 kb, I sb]⟩] : List Blk)) := Up.of hsc (by simp [scM, B.sc, scL, V.sc]; omega)
  have hsc2 := hu.sc
  have hng2 : 3 ≤ (M ++ ([⟨true, .cells [.sl j0 0 a0.length, .sl j1 0 a1.length, .sl j2 0 a2.length, .sl j3 0 a3.length, .int .i64 ka, I sa]⟩, ⟨true, .cells [.sl k0 0 b0.length, .sl k1 0 b1.length, .sl k2 0 b2.length, .sl k3 0 b3.length, .int .i64 kb, I sb]⟩] : List Blk)).length := by simp; omega
  have c0 := sameF_ok hsc2 hng2 (HA.s0.up hu) (HB.s0.up hu) rfl rfl
  have c1 := sameI_ok hsc2 hng2 (HA.s1.up hu) (HB.s1.up hu) rfl rfl
  have c2 := sameI_ok hsc2 hng2 (HA.s2.up hu) (HB.s2.up hu) rfl rfl
  have c3 := sameF_ok hsc2 hng2 (HA.s3.up hu) (HB.s3.up hu) rfl rfl
  refine COk_quiet Tryz.f28 Tryz.func28 (by kernel_rfl) rfl ?_
  unfold sameB
  simp only
  generalize decide (a0 = b0) = q0 at *
  generalize decide (a1 = b1) = q1 at *
  generalize decide (a2 = b2) = q2 at *
  generalize decide (a3 = b3) = q3 at *
  cases q0 <;> cases q1 <;> cases q2 <;> cases q3
  all_goals
    (conv => whnf); repeat ((first | refine ⟨_, _, c0, ?_⟩ | refine ⟨_, c0, ?_⟩ | refine ⟨_, _, c1, ?_⟩ | refine ⟨_, c1, ?_⟩ | refine ⟨_, _, c2, ?_⟩ | refine ⟨_, c2, ?_⟩ | refine ⟨_, _, c3, ?_⟩ | refine ⟨_, c3, ?_⟩ | refine br_d (by omega) ?_ | refine br_nd (by omega) ?_ | refine br_eq (by omega) ?_ | refine br_neq (by omega) ?_ | refine br_ne (by omega) ?_ | refine br_no (bo_eqn (by omega)) ?_ | refine Or.inl ?_ | refine okS_no (by kernel_rfl) ?_ | refine okS_yes (by kernel_rfl) ?_ | refine And_of (by (conv => whnf); (rw [getB_app0]); (conv => whnf)) ?_ | refine setB_app ?_ | refine setB_app0 ?_ | rw [getB_app] | rw [getB_app0] | refine addB_f13 ?_ | refine addB_f12 ?_ | refine addB_f11 ?_ | refine addB_f10 ?_ | refine addB_f9 ?_ | refine addB_f8 ?_ | refine addB_f7 ?_ | refine addB_f6 ?_ | refine addB_f5 ?_ | refine addB_f4 ?_ | refine addB_f3 ?_ | refine addB_f2 ?_ | refine addB_f1 ?_ | refine addB_f0 ?_); conv => whnf)
    first
      | (exact ⟨rfl, _, rfl⟩)
      | (refine br_intro (fun h => ?_) (fun h => ?_)
         · (conv => whnf); repeat ((first | refine br_d (by omega) ?_ | refine br_nd (by omega) ?_ | refine br_eq (by omega) ?_ | refine br_neq (by omega) ?_ | refine br_ne (by omega) ?_ | refine br_no (bo_eqn (by omega)) ?_ | refine Or.inl ?_ | refine okS_no (by kernel_rfl) ?_ | refine okS_yes (by kernel_rfl) ?_ | refine And_of (by (conv => whnf); (rw [getB_app0]); (conv => whnf)) ?_ | refine setB_app ?_ | refine setB_app0 ?_ | rw [getB_app] | rw [getB_app0] | refine addB_f13 ?_ | refine addB_f12 ?_ | refine addB_f11 ?_ | refine addB_f10 ?_ | refine addB_f9 ?_ | refine addB_f8 ?_ | refine addB_f7 ?_ | refine addB_f6 ?_ | refine addB_f5 ?_ | refine addB_f4 ?_ | refine addB_f3 ?_ | refine addB_f2 ?_ | refine addB_f1 ?_ | refine addB_f0 ?_); conv => whnf)
           refine ⟨?_, _, rfl⟩
           rw [h]; rfl
         · (conv => whnf); repeat ((first | refine br_d (by omega) ?_ | refine br_nd (by omega) ?_ | refine br_eq (by omega) ?_ | refine br_neq (by omega) ?_ | refine br_ne (by omega) ?_ | refine br_no (bo_eqn (by omega)) ?_ | refine Or.inl ?_ | refine okS_no (by kernel_rfl) ?_ | refine okS_yes (by kernel_rfl) ?_ | refine And_of (by (conv => whnf); (rw [getB_app0]); (conv => whnf)) ?_ | refine setB_app ?_ | refine setB_app0 ?_ | rw [getB_app] | rw [getB_app0] | refine addB_f13 ?_ | refine addB_f12 ?_ | refine addB_f11 ?_ | refine addB_f10 ?_ | refine addB_f9 ?_ | refine addB_f8 ?_ | refine addB_f7 ?_ | refine addB_f6 ?_ | refine addB_f5 ?_ | refine addB_f4 ?_ | refine addB_f3 ?_ | refine addB_f2 ?_ | refine addB_f1 ?_ | refine addB_f0 ?_); conv => whnf)
           refine ⟨?_, _, rfl⟩
           rw [h]; rfl)
end
end Go.Proofs.YtgoljofmbidkfaaGreatDoor
/- A sea is checked: the program and the reference. No condition. -/
namespace Go.Proofs.YtgoljofmbidkfaaGreatDoor
open Go Go.Eng
set_option maxRecDepth 100000
set_option linter.unusedSimpArgs false
set_option linter.unusedVariables false

section
variable {M : List Blk} (hsc : scM M.length M = true) (hng : 3 ≤ M.length) {j0 j1 j2 j3 : Nat} {Be : List Nat} {Wt Tr : List Int} {Sp : List Nat} (R : SeaR M j0 j1 j2 j3 Be Wt Tr Sp) (x sky step : Int)
include hsc hng R
set_option maxHeartbeats 0 in
theorem Check_ok : COk Tryz.prog 3 26 [I x, seaV j0 j1 j2 j3 Be.length Wt.length Tr.length Sp.length sky step] M (.tup [I (chkF x Be Wt Tr Sp sky step).1, I (chkF x Be Wt Tr Sp sky step).2]) M := by
  have l0 := R.s0.lt
  have l1 := R.s1.lt
  have l2 := R.s2.lt
  have l3 := R.s3.lt
  have w0 := R.s0.short
  have w1 := R.s1.short
  have w2 := R.s2.short
  have w3 := R.s3.short
  by_cases hs : 1 ≤ x ∧ x ≤ 32
  · obtain ⟨n, rfl⟩ : ∃ n : Nat, x = n := ⟨x.toNat, by omega⟩
    have n1 : 1 ≤ n := by omega
    have n2 : n ≤ 32 := by omega
    have hc := cellsI_n n1 n2
    have hsq : n * n ≤ 1024 := Nat.mul_le_mul n2 n2
    have hsq1 : 1 ≤ n * n := Nat.mul_le_mul n1 n1
    have hce := fun m => cells_ok n m
    rw [hc] at hce
    have hsix : IntKind.i64.wrap (IntKind.i64.wrap (6 * (n : Int)) * n) = ((6 * (n * n) : Nat) : Int) := by
      have q1 := sq_bound (n := (n : Int)) (by omega) (by omega)
      rw [wrap_id (n := 6 * (n : Int)) (by omega) (by omega), Int.mul_assoc, wrap_id (by omega) (by omega)]
      push_cast
      rfl
    have hu : Up M (M ++ ([⟨true, .cells [.sl j0 0 Be.length, .sl j1 0 Wt.length, .sl j2 0 Tr.length, .sl j3 0 Sp.length, .int .i64 sky, I step]⟩] : List Blk)) := Up.of hsc (by simp [scM, B.sc, scL, V.sc]; omega)
    have hsc2 := hu.sc
    have hng2 : 3 ≤ (M ++ ([⟨true, .cells [.sl j0 0 Be.length, .sl j1 0 Wt.length, .sl j2 0 Tr.length, .sl j3 0 Sp.length, .int .i64 sky, I step]⟩] : List Blk)).length := by simp; omega
    have hub : ∀ a b c d : Int, Up M (M ++ ([⟨true, .cells [.sl j0 0 Be.length, .sl j1 0 Wt.length, .sl j2 0 Tr.length, .sl j3 0 Sp.length, .int .i64 sky, I step]⟩, ⟨true, .cells [I a, I b, I c, I d]⟩] : List Blk)) := fun a b c d => Up.of hsc (by simp [scM, B.sc, scL, V.sc]; omega)
    have hng3 : ∀ a b c d : Int, 3 ≤ (M ++ ([⟨true, .cells [.sl j0 0 Be.length, .sl j1 0 Wt.length, .sl j2 0 Tr.length, .sl j3 0 Sp.length, .int .i64 sky, I step]⟩, ⟨true, .cells [I a, I b, I c, I d]⟩] : List Blk)).length := fun a b c d => by simp; omega
    have f0 := floats_ok hsc2 hng2 (R.s0.up hu) rfl mxH
    have f3 := floats_ok hsc2 hng2 (R.s3.up hu) rfl mxS
    have q2 := quanta_ok' hsc2 hng2 (R.s2.up hu) rfl (z := 0) ⟨Int.le_refl _, by decide⟩
    have q1 := fun hz => quanta_ok' hsc2 hng2 (R.s1.up hu) rfl (z := sky) hz
    have g0 := fun a b c d => floats_ok (hub a b c d).sc (hng3 a b c d) (R.s0.up (hub a b c d)) rfl mxH
    have g3 := fun a b c d => floats_ok (hub a b c d).sc (hng3 a b c d) (R.s3.up (hub a b c d)) rfl mxS
    have g2 := fun a b c d => quanta_ok' (hub a b c d).sc (hng3 a b c d) (R.s2.up (hub a b c d)) rfl (z := 0) ⟨Int.le_refl _, by decide⟩
    have g1 := fun hz a b c d => quanta_ok' (hub a b c d).sc (hng3 a b c d) (R.s1.up (hub a b c d)) rfl (z := sky) hz
    have hq : IntKind.i64.wrap ((Sp.length : Int).tdiv 2) = ((Sp.length / 2 : Nat) : Int) := by
      rw [Int.tdiv_eq_ediv_of_nonneg (by omega), wrap_id (by omega) (by omega)]; omega
    have hm : IntKind.i64.wrap (2 * ((6 * (n * n) : Nat) : Int)) = ((2 * (6 * (n * n)) : Nat) : Int) := by rw [wrap_id (by omega) (by omega)]; push_cast; rfl
    have hd : IntKind.i64.wrap ((Sp.length : Int) - ((6 * (n * n) : Nat) : Int)) = (Sp.length : Int) - ((6 * (n * n) : Nat) : Int) := wrap_id (by omega) (by omega)
    skip
    by_cases h0 : Be.length = 6 * (n * n)
    · by_cases h1 : Wt.length = 6 * (n * n)
      · by_cases h2 : Tr.length = 6 * (n * n)
        · by_cases h3 : Sp.length = 2 * (6 * (n * n))
          · by_cases h4 : 0 ≤ flI Be mxH
            · have e : chkF n Be Wt Tr Sp sky step = (flI Be mxH, 13) := by
                unfold chkF mxW mxT
                rw [if_neg (by omega), if_neg (by omega), if_neg (by omega), if_neg (by omega), if_neg (by omega), if_pos h4]
              rw [e]
              refine COk_quiet Tryz.f26 Tryz.func26 (by kernel_rfl) rfl ?_
              (conv => whnf); repeat ((first | refine ⟨_, _, hce _, ?_⟩ | refine ⟨_, _, f0, ?_⟩ | refine br_no (bo_eqn (by rw [hq]; omega)) ?_ | refine br_no (bo_eqn (by rw [hm]; omega)) ?_ | refine lr ?_ | refine br_d (by omega) ?_ | refine br_nd (by omega) ?_ | refine br_no (bo_eqn (by omega)) ?_ | rw [getB_app0] | refine addB_f0 ?_); conv => whnf)
              exact ⟨rfl, _, rfl⟩
            by_cases h5 : sky < 0
            · have e : chkF n Be Wt Tr Sp sky step = (0, 17) := by
                unfold chkF mxW mxT
                rw [if_neg (by omega), if_neg (by omega), if_neg (by omega), if_neg (by omega), if_neg (by omega), if_neg h4, if_pos (by omega)]
              rw [e]
              refine COk_quiet Tryz.f26 Tryz.func26 (by kernel_rfl) rfl ?_
              (conv => whnf); repeat ((first | refine ⟨_, _, hce _, ?_⟩ | refine ⟨_, _, f0, ?_⟩ | refine br_no (bo_eqn (by rw [hq]; omega)) ?_ | refine br_no (bo_eqn (by rw [hm]; omega)) ?_ | refine lr ?_ | refine br_d (by omega) ?_ | refine br_nd (by omega) ?_ | refine br_no (bo_eqn (by omega)) ?_ | rw [getB_app0] | refine addB_f0 ?_); conv => whnf)
              exact ⟨rfl, _, rfl⟩
            by_cases h6 : sky > 4503599627370496
            · have e : chkF n Be Wt Tr Sp sky step = (0, 17) := by
                unfold chkF mxW mxT
                rw [if_neg (by omega), if_neg (by omega), if_neg (by omega), if_neg (by omega), if_neg (by omega), if_neg h4, if_pos (by omega)]
              rw [e]
              refine COk_quiet Tryz.f26 Tryz.func26 (by kernel_rfl) rfl ?_
              (conv => whnf); repeat ((first | refine ⟨_, _, hce _, ?_⟩ | refine ⟨_, _, f0, ?_⟩ | refine br_no (bo_eqn (by rw [hq]; omega)) ?_ | refine br_no (bo_eqn (by rw [hm]; omega)) ?_ | refine lr ?_ | refine br_d (by omega) ?_ | refine br_nd (by omega) ?_ | refine br_no (bo_eqn (by omega)) ?_ | rw [getB_app0] | refine addB_f0 ?_); conv => whnf)
              exact ⟨rfl, _, rfl⟩
            have q1 := q1 ⟨by omega, by unfold mxW; omega⟩
            have g1 := g1 ⟨by omega, by unfold mxW; omega⟩
            by_cases h7 : 0 ≤ quI Wt sky
            · have e : chkF n Be Wt Tr Sp sky step = (quI Wt sky, 14) := by
                unfold chkF mxW mxT
                rw [if_neg (by omega), if_neg (by omega), if_neg (by omega), if_neg (by omega), if_neg (by omega), if_neg h4, if_neg (by omega), if_pos h7]
              rw [e]
              refine COk_quiet Tryz.f26 Tryz.func26 (by kernel_rfl) rfl ?_
              (conv => whnf); repeat ((first | refine ⟨_, _, hce _, ?_⟩ | refine ⟨_, _, f0, ?_⟩ | refine ⟨_, _, q1, ?_⟩ | refine br_no (bo_eqn (by rw [hq]; omega)) ?_ | refine br_no (bo_eqn (by rw [hm]; omega)) ?_ | refine lr ?_ | refine br_d (by omega) ?_ | refine br_nd (by omega) ?_ | refine br_no (bo_eqn (by omega)) ?_ | rw [getB_app0] | refine addB_f0 ?_); conv => whnf)
              exact ⟨rfl, _, rfl⟩
            by_cases h8 : 0 ≤ quI Tr 0
            · have e : chkF n Be Wt Tr Sp sky step = (quI Tr 0, 15) := by
                unfold chkF mxW mxT
                rw [if_neg (by omega), if_neg (by omega), if_neg (by omega), if_neg (by omega), if_neg (by omega), if_neg h4, if_neg (by omega), if_neg h7, if_pos h8]
              rw [e]
              refine COk_quiet Tryz.f26 Tryz.func26 (by kernel_rfl) rfl ?_
              (conv => whnf); repeat ((first | refine ⟨_, _, hce _, ?_⟩ | refine ⟨_, _, f0, ?_⟩ | refine ⟨_, _, q1, ?_⟩ | refine ⟨_, _, q2, ?_⟩ | refine br_no (bo_eqn (by rw [hq]; omega)) ?_ | refine br_no (bo_eqn (by rw [hm]; omega)) ?_ | refine lr ?_ | refine br_d (by omega) ?_ | refine br_nd (by omega) ?_ | refine br_no (bo_eqn (by omega)) ?_ | rw [getB_app0] | refine addB_f0 ?_); conv => whnf)
              exact ⟨rfl, _, rfl⟩
            by_cases h9 : 0 ≤ flI Sp mxS
            · have e : chkF n Be Wt Tr Sp sky step = (flI Sp mxS, 16) := by
                unfold chkF mxW mxT
                rw [if_neg (by omega), if_neg (by omega), if_neg (by omega), if_neg (by omega), if_neg (by omega), if_neg h4, if_neg (by omega), if_neg h7, if_neg h8, if_pos h9]
              rw [e]
              refine COk_quiet Tryz.f26 Tryz.func26 (by kernel_rfl) rfl ?_
              (conv => whnf); repeat ((first | refine ⟨_, _, hce _, ?_⟩ | refine ⟨_, _, f0, ?_⟩ | refine ⟨_, _, q1, ?_⟩ | refine ⟨_, _, q2, ?_⟩ | refine ⟨_, _, f3, ?_⟩ | refine br_no (bo_eqn (by rw [hq]; omega)) ?_ | refine br_no (bo_eqn (by rw [hm]; omega)) ?_ | refine lr ?_ | refine br_d (by omega) ?_ | refine br_nd (by omega) ?_ | refine br_no (bo_eqn (by omega)) ?_ | rw [getB_app0] | refine addB_f0 ?_); conv => whnf)
              exact ⟨rfl, _, rfl⟩
            by_cases ha : step < 0
            · have e : chkF n Be Wt Tr Sp sky step = (0, 1) := by
                unfold chkF mxW mxT
                rw [if_neg (by omega), if_neg (by omega), if_neg (by omega), if_neg (by omega), if_neg (by omega), if_neg h4, if_neg (by omega), if_neg h7, if_neg h8, if_neg h9, if_pos (by omega)]
              rw [e]
              refine COk_quiet Tryz.f26 Tryz.func26 (by kernel_rfl) rfl ?_
              (conv => whnf); repeat ((first | refine ⟨_, _, hce _, ?_⟩ | refine ⟨_, _, f0, ?_⟩ | refine ⟨_, _, q1, ?_⟩ | refine ⟨_, _, q2, ?_⟩ | refine ⟨_, _, f3, ?_⟩ | refine br_no (bo_eqn (by rw [hq]; omega)) ?_ | refine br_no (bo_eqn (by rw [hm]; omega)) ?_ | refine lr ?_ | refine br_d (by omega) ?_ | refine br_nd (by omega) ?_ | refine br_no (bo_eqn (by omega)) ?_ | rw [getB_app0] | refine addB_f0 ?_); conv => whnf)
              exact ⟨rfl, _, rfl⟩
            by_cases hb : step > 4611686018427387904
            · have e : chkF n Be Wt Tr Sp sky step = (0, 1) := by
                unfold chkF mxW mxT
                rw [if_neg (by omega), if_neg (by omega), if_neg (by omega), if_neg (by omega), if_neg (by omega), if_neg h4, if_neg (by omega), if_neg h7, if_neg h8, if_neg h9, if_pos (by omega)]
              rw [e]
              refine COk_quiet Tryz.f26 Tryz.func26 (by kernel_rfl) rfl ?_
              (conv => whnf); repeat ((first | refine ⟨_, _, hce _, ?_⟩ | refine ⟨_, _, f0, ?_⟩ | refine ⟨_, _, q1, ?_⟩ | refine ⟨_, _, q2, ?_⟩ | refine ⟨_, _, f3, ?_⟩ | refine br_no (bo_eqn (by rw [hq]; omega)) ?_ | refine br_no (bo_eqn (by rw [hm]; omega)) ?_ | refine lr ?_ | refine br_d (by omega) ?_ | refine br_nd (by omega) ?_ | refine br_no (bo_eqn (by omega)) ?_ | rw [getB_app0] | refine addB_f0 ?_); conv => whnf)
              exact ⟨rfl, _, rfl⟩
            · have e : chkF n Be Wt Tr Sp sky step = (0, 0) := by
                unfold chkF mxW mxT
                rw [if_neg (by omega), if_neg (by omega), if_neg (by omega), if_neg (by omega), if_neg (by omega), if_neg h4, if_neg (by omega), if_neg h7, if_neg h8, if_neg h9, if_neg (by omega)]
              rw [e]
              refine COk_quiet Tryz.f26 Tryz.func26 (by kernel_rfl) rfl ?_
              (conv => whnf); repeat ((first | refine ⟨_, _, hce _, ?_⟩ | refine ⟨_, _, f0, ?_⟩ | refine ⟨_, _, q1, ?_⟩ | refine ⟨_, _, q2, ?_⟩ | refine ⟨_, _, f3, ?_⟩ | refine br_no (bo_eqn (by rw [hq]; omega)) ?_ | refine br_no (bo_eqn (by rw [hm]; omega)) ?_ | refine lr ?_ | refine br_nd (by omega) ?_ | refine br_no (bo_eqn (by omega)) ?_ | rw [getB_app0] | refine addB_f0 ?_); conv => whnf)
              exact ⟨rfl, _, rfl⟩
          · by_cases h3' : Sp.length / 2 = 6 * (n * n)
            · have e : chkF n Be Wt Tr Sp sky step = (3, 12) := by
                unfold chkF mxW mxT
                rw [if_neg (by omega), if_neg (by omega), if_neg (by omega), if_neg (by omega), if_pos (by omega)]
              rw [e]
              refine COk_quiet Tryz.f26 Tryz.func26 (by kernel_rfl) rfl ?_
              (conv => whnf); repeat ((first | refine ⟨_, _, hce _, ?_⟩ | refine br_no (bo_eqn (by rw [hq]; omega)) ?_ | refine br_yes (bne_iff_ne.2 (by rw [hm]; omega)) ?_ | refine lr ?_ | refine br_nd (by omega) ?_ | refine br_no (bo_eqn (by omega)) ?_ | rw [getB_app0] | refine addB_f0 ?_); conv => whnf)
              exact ⟨rfl, _, rfl⟩
            · have e : chkF n Be Wt Tr Sp sky step = (3, 12) := by
                unfold chkF mxW mxT
                rw [if_neg (by omega), if_neg (by omega), if_neg (by omega), if_neg (by omega), if_pos (by omega)]
              rw [e]
              refine COk_quiet Tryz.f26 Tryz.func26 (by kernel_rfl) rfl ?_
              (conv => whnf); repeat ((first | refine ⟨_, _, hce _, ?_⟩ | refine br_yes (bne_iff_ne.2 (by rw [hq]; omega)) ?_ | refine lr ?_ | refine br_nd (by omega) ?_ | refine br_no (bo_eqn (by omega)) ?_ | rw [getB_app0] | refine addB_f0 ?_); conv => whnf)
              exact ⟨rfl, _, rfl⟩
        · have e : chkF n Be Wt Tr Sp sky step = (2, 12) := by
            unfold chkF mxW mxT
            rw [if_neg (by omega), if_neg (by omega), if_neg (by omega), if_pos (by omega)]
          rw [e]
          refine COk_quiet Tryz.f26 Tryz.func26 (by kernel_rfl) rfl ?_
          (conv => whnf); repeat ((first | refine ⟨_, _, hce _, ?_⟩ | refine br_yes (bne_iff_ne.2 (by omega)) ?_ | refine lr ?_ | refine br_nd (by omega) ?_ | refine br_no (bo_eqn (by omega)) ?_ | rw [getB_app0] | refine addB_f0 ?_); conv => whnf)
          exact ⟨rfl, _, rfl⟩
      · have e : chkF n Be Wt Tr Sp sky step = (1, 12) := by
          unfold chkF mxW mxT
          rw [if_neg (by omega), if_neg (by omega), if_pos (by omega)]
        rw [e]
        refine COk_quiet Tryz.f26 Tryz.func26 (by kernel_rfl) rfl ?_
        (conv => whnf); repeat ((first | refine ⟨_, _, hce _, ?_⟩ | refine br_yes (bne_iff_ne.2 (by omega)) ?_ | refine lr ?_ | refine br_nd (by omega) ?_ | refine br_no (bo_eqn (by omega)) ?_ | rw [getB_app0] | refine addB_f0 ?_); conv => whnf)
        exact ⟨rfl, _, rfl⟩
    · have e : chkF n Be Wt Tr Sp sky step = (0, 12) := by
        unfold chkF mxW mxT
        rw [if_neg (by omega), if_pos (by omega)]
      rw [e]
      refine COk_quiet Tryz.f26 Tryz.func26 (by kernel_rfl) rfl ?_
      (conv => whnf); repeat ((first | refine ⟨_, _, hce _, ?_⟩ | refine br_yes (bne_iff_ne.2 (by omega)) ?_ | refine lr ?_ | refine br_nd (by omega) ?_ | rw [getB_app0] | refine addB_f0 ?_); conv => whnf)
      exact ⟨rfl, _, rfl⟩
  · have e : chkF x Be Wt Tr Sp sky step = (0, 10) := by
      unfold chkF
      rw [if_pos hs]
    rw [e]
    have hce := fun m => cells_ok x m
    rw [show cellsI x = 0 from if_neg hs] at hce
    rcases (show x < 1 ∨ x > 32 by omega) with hx | hx
    · refine COk_quiet Tryz.f26 Tryz.func26 (by kernel_rfl) rfl ?_
      (conv => whnf); repeat ((first | refine ⟨_, _, hce _, ?_⟩ | refine addB_f0 ?_); conv => whnf)
      exact ⟨rfl, _, rfl⟩
    · refine COk_quiet Tryz.f26 Tryz.func26 (by kernel_rfl) rfl ?_
      (conv => whnf); repeat ((first | refine ⟨_, _, hce _, ?_⟩ | refine addB_f0 ?_); conv => whnf)
      exact ⟨rfl, _, rfl⟩
end
end Go.Proofs.YtgoljofmbidkfaaGreatDoor
