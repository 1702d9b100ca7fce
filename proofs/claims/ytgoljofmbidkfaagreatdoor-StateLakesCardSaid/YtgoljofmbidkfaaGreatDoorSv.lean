import Derived.Test.YtgoljofmbidkfaaGreatDoorSu
import Derived.Test.YtgoljofmbidkfaaGreatDoorEr
/- Package state: lists that are gone through by closures; a sea that is checked. No condition. -/
namespace Go.Proofs.YtgoljofmbidkfaaGreatDoor
open Go Go.Eng
set_option maxRecDepth 100000
set_option linter.unusedSimpArgs false
set_option linter.unusedVariables false

set_option maxHeartbeats 0 in
theorem idxF_ok {fn : FuncId} {j o n jc : Nat} (Ms : Nat → List Blk) (p : Nat → Bool) (l : List Nat) (hn : l.length = n) (hsc : ∀ i, i ≤ n → scM (Ms i).length (Ms i) = true) (hl : ∀ i, (Ms i).length = (Ms 0).length) (hng : 3 ≤ (Ms 0).length) (S : ∀ i, SlF (Ms i) j o l) (hjc : jc < (Ms 0).length)
    (h0 : ∀ i, i < fstN n p → COk Tryz.prog 3 fn [F (l.getD i 0), .ptr jc 0] (Ms i) (Bo false) (Ms (i + 1))) (h1 : fstN n p < n → ∀ i, i = fstN n p → COk Tryz.prog 3 fn [F (l.getD i 0), .ptr jc 0] (Ms i) (Bo true) (Ms i)) :
    COk Tryz.prog 3 124 [.sl j o n, .clo (.func fn) [] [.ptr jc 0]] (Ms 0) (I (fstI n p)) (Ms (fstN n p)) := by
  have wl := (S 0).short
  have hj := (S 0).lt
  have hle := fstN_le n p
  subst hn
  refine COk_of_ev Tryz.f124 Tryz.func124 (by kernel_rfl) (by have := hl (fstN l.length p); omega) rfl (.inr (hsc _ hle)) ?_
  by_cases hk : fstN l.length p < l.length
  · rw [show fstI l.length p = (fstN l.length p : Int) from if_pos hk]
    have h1 := h1 hk _ rfl
    generalize fstN l.length p = k at *
    (conv => whnf); repeat ((first | refine br_d (by omega) ?_ | refine br_nd (by omega) ?_ | refine br_eq (by omega) ?_ | refine br_neq (by omega) ?_ | refine br_ne (by omega) ?_ | refine br_no (bo_eqn (by omega)) ?_ | refine Or.inl ?_ | refine okS_no (by kernel_rfl) ?_ | refine okS_yes (by kernel_rfl) ?_ | refine And_of (by (conv => whnf); (rw [getB_app0]); (conv => whnf)) ?_ | refine setB_app ?_ | refine setB_app0 ?_ | rw [getB_app] | rw [getB_app0] | refine addB_f13 ?_ | refine addB_f12 ?_ | refine addB_f11 ?_ | refine addB_f10 ?_ | refine addB_f9 ?_ | refine addB_f8 ?_ | refine addB_f7 ?_ | refine addB_f6 ?_ | refine addB_f5 ?_ | refine addB_f4 ?_ | refine addB_f3 ?_ | refine addB_f2 ?_ | refine addB_f1 ?_ | refine addB_f0 ?_); conv => whnf)
    refine loop_to (fun i => [.sl j o l.length, .clo (.func fn) [] [.ptr jc 0], .any, .any, .any, .any, .any, I l.length, I i, .any, .any, .any, .any, .any, .any, .any, .any, .any, .any]) (fun i => Ms i) 0 k (Nat.zero_le _) ?_ ?_ ?_
    · refine Fg.of [] ?_ (by rw [List.append_nil]) (by first | (simp; done) | (simp; omega)) (by first | (simp [scL, V.sc]; done) | (simp [scL, V.sc]; omega)) (hsc _ (by omega))
      conv => whnf
      exact ⟨rfl, rfl, rfl, rfl, rfl⟩
    · intro i _ hi
      have hc := h0 i hi
      have hS := S i
      have hli := hl (i + 1)
      (conv => whnf); repeat ((first | refine SlF.at hS (i := i) (by omega) rfl ?_ | refine ⟨_, _, hc, ?_⟩ | refine ⟨_, hc, ?_⟩ | refine br_d (by omega) ?_ | refine br_nd (by omega) ?_ | refine br_eq (by omega) ?_ | refine br_neq (by omega) ?_ | refine br_ne (by omega) ?_ | refine br_no (bo_eqn (by omega)) ?_ | refine Or.inl ?_ | refine okS_no (by kernel_rfl) ?_ | refine okS_yes (by kernel_rfl) ?_ | refine And_of (by (conv => whnf); (rw [getB_app0]); (conv => whnf)) ?_ | refine setB_app ?_ | refine setB_app0 ?_ | rw [getB_app] | rw [getB_app0] | refine addB_f13 ?_ | refine addB_f12 ?_ | refine addB_f11 ?_ | refine addB_f10 ?_ | refine addB_f9 ?_ | refine addB_f8 ?_ | refine addB_f7 ?_ | refine addB_f6 ?_ | refine addB_f5 ?_ | refine addB_f4 ?_ | refine addB_f3 ?_ | refine addB_f2 ?_ | refine addB_f1 ?_ | refine addB_f0 ?_); conv => whnf)
      refine Fg.of [] ?_ (by rw [List.append_nil]) (by first | (simp; done) | (simp; omega)) (by first | (simp [scL, V.sc]; done) | (simp [scL, V.sc]; omega)) (hsc _ (by omega))
      conv => whnf
      exact ⟨rfl, rfl, rfl, wrapKL (by omega), rfl⟩
    · have hS := S k
      (conv => whnf); repeat ((first | refine SlF.at hS (i := k) (by omega) rfl ?_ | refine ⟨_, _, h1, ?_⟩ | refine ⟨_, h1, ?_⟩ | refine br_d (by omega) ?_ | refine br_nd (by omega) ?_ | refine br_eq (by omega) ?_ | refine br_neq (by omega) ?_ | refine br_ne (by omega) ?_ | refine br_no (bo_eqn (by omega)) ?_ | refine Or.inl ?_ | refine okS_no (by kernel_rfl) ?_ | refine okS_yes (by kernel_rfl) ?_ | refine And_of (by (conv => whnf); (rw [getB_app0]); (conv => whnf)) ?_ | refine setB_app ?_ | refine setB_app0 ?_ | rw [getB_app] | rw [getB_app0] | refine addB_f13 ?_ | refine addB_f12 ?_ | refine addB_f11 ?_ | refine addB_f10 ?_ | refine addB_f9 ?_ | refine addB_f8 ?_ | refine addB_f7 ?_ | refine addB_f6 ?_ | refine addB_f5 ?_ | refine addB_f4 ?_ | refine addB_f3 ?_ | refine addB_f2 ?_ | refine addB_f1 ?_ | refine addB_f0 ?_); conv => whnf)
      exact ⟨rfl, [], by simp⟩
  · rw [show fstI l.length p = -1 from if_neg hk]
    have e : fstN l.length p = l.length := by omega
    rw [e] at h0 ⊢
    clear h1 hk hle e
    (conv => whnf); repeat ((first | refine br_d (by omega) ?_ | refine br_nd (by omega) ?_ | refine br_eq (by omega) ?_ | refine br_neq (by omega) ?_ | refine br_ne (by omega) ?_ | refine br_no (bo_eqn (by omega)) ?_ | refine Or.inl ?_ | refine okS_no (by kernel_rfl) ?_ | refine okS_yes (by kernel_rfl) ?_ | refine And_of (by (conv => whnf); (rw [getB_app0]); (conv => whnf)) ?_ | refine setB_app ?_ | refine setB_app0 ?_ | rw [getB_app] | rw [getB_app0] | refine addB_f13 ?_ | refine addB_f12 ?_ | refine addB_f11 ?_ | refine addB_f10 ?_ | refine addB_f9 ?_ | refine addB_f8 ?_ | refine addB_f7 ?_ | refine addB_f6 ?_ | refine addB_f5 ?_ | refine addB_f4 ?_ | refine addB_f3 ?_ | refine addB_f2 ?_ | refine addB_f1 ?_ | refine addB_f0 ?_); conv => whnf)
    refine loop_to (fun i => [.sl j o l.length, .clo (.func fn) [] [.ptr jc 0], .any, .any, .any, .any, .any, I l.length, I i, .any, .any, .any, .any, .any, .any, .any, .any, .any, .any]) (fun i => Ms i) 0 l.length (Nat.zero_le _) ?_ ?_ ?_
    · refine Fg.of [] ?_ (by rw [List.append_nil]) (by first | (simp; done) | (simp; omega)) (by first | (simp [scL, V.sc]; done) | (simp [scL, V.sc]; omega)) (hsc _ (by omega))
      conv => whnf
      exact ⟨rfl, rfl, rfl, rfl, rfl⟩
    · intro i _ hi
      have hc := h0 i hi
      have hS := S i
      have hli := hl (i + 1)
      (conv => whnf); repeat ((first | refine SlF.at hS (i := i) (by omega) rfl ?_ | refine ⟨_, _, hc, ?_⟩ | refine ⟨_, hc, ?_⟩ | refine br_d (by omega) ?_ | refine br_nd (by omega) ?_ | refine br_eq (by omega) ?_ | refine br_neq (by omega) ?_ | refine br_ne (by omega) ?_ | refine br_no (bo_eqn (by omega)) ?_ | refine Or.inl ?_ | refine okS_no (by kernel_rfl) ?_ | refine okS_yes (by kernel_rfl) ?_ | refine And_of (by (conv => whnf); (rw [getB_app0]); (conv => whnf)) ?_ | refine setB_app ?_ | refine setB_app0 ?_ | rw [getB_app] | rw [getB_app0] | refine addB_f13 ?_ | refine addB_f12 ?_ | refine addB_f11 ?_ | refine addB_f10 ?_ | refine addB_f9 ?_ | refine addB_f8 ?_ | refine addB_f7 ?_ | refine addB_f6 ?_ | refine addB_f5 ?_ | refine addB_f4 ?_ | refine addB_f3 ?_ | refine addB_f2 ?_ | refine addB_f1 ?_ | refine addB_f0 ?_); conv => whnf)
      refine Fg.of [] ?_ (by rw [List.append_nil]) (by first | (simp; done) | (simp; omega)) (by first | (simp [scL, V.sc]; done) | (simp [scL, V.sc]; omega)) (hsc _ (by omega))
      conv => whnf
      exact ⟨rfl, rfl, rfl, wrapKL (by omega), rfl⟩
    · (conv => whnf); repeat ((first | refine br_d (by omega) ?_ | refine br_nd (by omega) ?_ | refine br_eq (by omega) ?_ | refine br_neq (by omega) ?_ | refine br_ne (by omega) ?_ | refine br_no (bo_eqn (by omega)) ?_ | refine Or.inl ?_ | refine okS_no (by kernel_rfl) ?_ | refine okS_yes (by kernel_rfl) ?_ | refine And_of (by (conv => whnf); (rw [getB_app0]); (conv => whnf)) ?_ | refine setB_app ?_ | refine setB_app0 ?_ | rw [getB_app] | rw [getB_app0] | refine addB_f13 ?_ | refine addB_f12 ?_ | refine addB_f11 ?_ | refine addB_f10 ?_ | refine addB_f9 ?_ | refine addB_f8 ?_ | refine addB_f7 ?_ | refine addB_f6 ?_ | refine addB_f5 ?_ | refine addB_f4 ?_ | refine addB_f3 ?_ | refine addB_f2 ?_ | refine addB_f1 ?_ | refine addB_f0 ?_); conv => whnf)
      exact ⟨rfl, [], by simp⟩
set_option maxHeartbeats 0 in
theorem idxI_ok {fn : FuncId} {j o n jc : Nat} (Ms : Nat → List Blk) (p : Nat → Bool) (l : List Int) (hn : l.length = n) (hsc : ∀ i, i ≤ n → scM (Ms i).length (Ms i) = true) (hl : ∀ i, (Ms i).length = (Ms 0).length) (hng : 3 ≤ (Ms 0).length) (S : ∀ i, SlI (Ms i) j o l) (hjc : jc < (Ms 0).length)
    (h0 : ∀ i, i < fstN n p → COk Tryz.prog 3 fn [.int .i64 (l.getD i 0), .ptr jc 0] (Ms i) (Bo false) (Ms (i + 1))) (h1 : fstN n p < n → ∀ i, i = fstN n p → COk Tryz.prog 3 fn [.int .i64 (l.getD i 0), .ptr jc 0] (Ms i) (Bo true) (Ms i)) :
    COk Tryz.prog 3 126 [.sl j o n, .clo (.func fn) [] [.ptr jc 0]] (Ms 0) (I (fstI n p)) (Ms (fstN n p)) := by
  have wl := (S 0).short
  have hj := (S 0).lt
  have hle := fstN_le n p
  subst hn
  refine COk_of_ev Tryz.f126 Tryz.func126 (by kernel_rfl) (by have := hl (fstN l.length p); omega) rfl (.inr (hsc _ hle)) ?_
  by_cases hk : fstN l.length p < l.length
  · rw [show fstI l.length p = (fstN l.length p : Int) from if_pos hk]
    have h1 := h1 hk _ rfl
    generalize fstN l.length p = k at *
    (conv => whnf); repeat ((first | refine br_d (by omega) ?_ | refine br_nd (by omega) ?_ | refine br_eq (by omega) ?_ | refine br_neq (by omega) ?_ | refine br_ne (by omega) ?_ | refine br_no (bo_eqn (by omega)) ?_ | refine Or.inl ?_ | refine okS_no (by kernel_rfl) ?_ | refine okS_yes (by kernel_rfl) ?_ | refine And_of (by (conv => whnf); (rw [getB_app0]); (conv => whnf)) ?_ | refine setB_app ?_ | refine setB_app0 ?_ | rw [getB_app] | rw [getB_app0] | refine addB_f13 ?_ | refine addB_f12 ?_ | refine addB_f11 ?_ | refine addB_f10 ?_ | refine addB_f9 ?_ | refine addB_f8 ?_ | refine addB_f7 ?_ | refine addB_f6 ?_ | refine addB_f5 ?_ | refine addB_f4 ?_ | refine addB_f3 ?_ | refine addB_f2 ?_ | refine addB_f1 ?_ | refine addB_f0 ?_); conv => whnf)
    refine loop_to (fun i => [.sl j o l.length, .clo (.func fn) [] [.ptr jc 0], .any, .any, .any, .any, .any, I l.length, I i, .any, .any, .any, .any, .any, .any, .any, .any, .any, .any]) (fun i => Ms i) 0 k (Nat.zero_le _) ?_ ?_ ?_
    · refine Fg.of [] ?_ (by rw [List.append_nil]) (by first | (simp; done) | (simp; omega)) (by first | (simp [scL, V.sc]; done) | (simp [scL, V.sc]; omega)) (hsc _ (by omega))
      conv => whnf
      exact ⟨rfl, rfl, rfl, rfl, rfl⟩
    · intro i _ hi
      have hc := h0 i hi
      have hS := S i
      have hli := hl (i + 1)
      (conv => whnf); repeat ((first | refine SlI.at hS (i := i) (by omega) rfl ?_ | refine ⟨_, _, hc, ?_⟩ | refine ⟨_, hc, ?_⟩ | refine br_d (by omega) ?_ | refine br_nd (by omega) ?_ | refine br_eq (by omega) ?_ | refine br_neq (by omega) ?_ | refine br_ne (by omega) ?_ | refine br_no (bo_eqn (by omega)) ?_ | refine Or.inl ?_ | refine okS_no (by kernel_rfl) ?_ | refine okS_yes (by kernel_rfl) ?_ | refine And_of (by (conv => whnf); (rw [getB_app0]); (conv => whnf)) ?_ | refine setB_app ?_ | refine setB_app0 ?_ | rw [getB_app] | rw [getB_app0] | refine addB_f13 ?_ | refine addB_f12 ?_ | refine addB_f11 ?_ | refine addB_f10 ?_ | refine addB_f9 ?_ | refine addB_f8 ?_ | refine addB_f7 ?_ | refine addB_f6 ?_ | refine addB_f5 ?_ | refine addB_f4 ?_ | refine addB_f3 ?_ | refine addB_f2 ?_ | refine addB_f1 ?_ | refine addB_f0 ?_); conv => whnf)
      refine Fg.of [] ?_ (by rw [List.append_nil]) (by first | (simp; done) | (simp; omega)) (by first | (simp [scL, V.sc]; done) | (simp [scL, V.sc]; omega)) (hsc _ (by omega))
      conv => whnf
      exact ⟨rfl, rfl, rfl, wrapKL (by omega), rfl⟩
    · have hS := S k
      (conv => whnf); repeat ((first | refine SlI.at hS (i := k) (by omega) rfl ?_ | refine ⟨_, _, h1, ?_⟩ | refine ⟨_, h1, ?_⟩ | refine br_d (by omega) ?_ | refine br_nd (by omega) ?_ | refine br_eq (by omega) ?_ | refine br_neq (by omega) ?_ | refine br_ne (by omega) ?_ | refine br_no (bo_eqn (by omega)) ?_ | refine Or.inl ?_ | refine okS_no (by kernel_rfl) ?_ | refine okS_yes (by kernel_rfl) ?_ | refine And_of (by (conv => whnf); (rw [getB_app0]); (conv => whnf)) ?_ | refine setB_app ?_ | refine setB_app0 ?_ | rw [getB_app] | rw [getB_app0] | refine addB_f13 ?_ | refine addB_f12 ?_ | refine addB_f11 ?_ | refine addB_f10 ?_ | refine addB_f9 ?_ | refine addB_f8 ?_ | refine addB_f7 ?_ | refine addB_f6 ?_ | refine addB_f5 ?_ | refine addB_f4 ?_ | refine addB_f3 ?_ | refine addB_f2 ?_ | refine addB_f1 ?_ | refine addB_f0 ?_); conv => whnf)
      exact ⟨rfl, [], by simp⟩
  · rw [show fstI l.length p = -1 from if_neg hk]
    have e : fstN l.length p = l.length := by omega
    rw [e] at h0 ⊢
    clear h1 hk hle e
    (conv => whnf); repeat ((first | refine br_d (by omega) ?_ | refine br_nd (by omega) ?_ | refine br_eq (by omega) ?_ | refine br_neq (by omega) ?_ | refine br_ne (by omega) ?_ | refine br_no (bo_eqn (by omega)) ?_ | refine Or.inl ?_ | refine okS_no (by kernel_rfl) ?_ | refine okS_yes (by kernel_rfl) ?_ | refine And_of (by (conv => whnf); (rw [getB_app0]); (conv => whnf)) ?_ | refine setB_app ?_ | refine setB_app0 ?_ | rw [getB_app] | rw [getB_app0] | refine addB_f13 ?_ | refine addB_f12 ?_ | refine addB_f11 ?_ | refine addB_f10 ?_ | refine addB_f9 ?_ | refine addB_f8 ?_ | refine addB_f7 ?_ | refine addB_f6 ?_ | refine addB_f5 ?_ | refine addB_f4 ?_ | refine addB_f3 ?_ | refine addB_f2 ?_ | refine addB_f1 ?_ | refine addB_f0 ?_); conv => whnf)
    refine loop_to (fun i => [.sl j o l.length, .clo (.func fn) [] [.ptr jc 0], .any, .any, .any, .any, .any, I l.length, I i, .any, .any, .any, .any, .any, .any, .any, .any, .any, .any]) (fun i => Ms i) 0 l.length (Nat.zero_le _) ?_ ?_ ?_
    · refine Fg.of [] ?_ (by rw [List.append_nil]) (by first | (simp; done) | (simp; omega)) (by first | (simp [scL, V.sc]; done) | (simp [scL, V.sc]; omega)) (hsc _ (by omega))
      conv => whnf
      exact ⟨rfl, rfl, rfl, rfl, rfl⟩
    · intro i _ hi
      have hc := h0 i hi
      have hS := S i
      have hli := hl (i + 1)
      (conv => whnf); repeat ((first | refine SlI.at hS (i := i) (by omega) rfl ?_ | refine ⟨_, _, hc, ?_⟩ | refine ⟨_, hc, ?_⟩ | refine br_d (by omega) ?_ | refine br_nd (by omega) ?_ | refine br_eq (by omega) ?_ | refine br_neq (by omega) ?_ | refine br_ne (by omega) ?_ | refine br_no (bo_eqn (by omega)) ?_ | refine Or.inl ?_ | refine okS_no (by kernel_rfl) ?_ | refine okS_yes (by kernel_rfl) ?_ | refine And_of (by (conv => whnf); (rw [getB_app0]); (conv => whnf)) ?_ | refine setB_app ?_ | refine setB_app0 ?_ | rw [getB_app] | rw [getB_app0] | refine addB_f13 ?_ | refine addB_f12 ?_ | refine addB_f11 ?_ | refine addB_f10 ?_ | refine addB_f9 ?_ | refine addB_f8 ?_ | refine addB_f7 ?_ | refine addB_f6 ?_ | refine addB_f5 ?_ | refine addB_f4 ?_ | refine addB_f3 ?_ | refine addB_f2 ?_ | refine addB_f1 ?_ | refine addB_f0 ?_); conv => whnf)
      refine Fg.of [] ?_ (by rw [List.append_nil]) (by first | (simp; done) | (simp; omega)) (by first | (simp [scL, V.sc]; done) | (simp [scL, V.sc]; omega)) (hsc _ (by omega))
      conv => whnf
      exact ⟨rfl, rfl, rfl, wrapKL (by omega), rfl⟩
    · (conv => whnf); repeat ((first | refine br_d (by omega) ?_ | refine br_nd (by omega) ?_ | refine br_eq (by omega) ?_ | refine br_neq (by omega) ?_ | refine br_ne (by omega) ?_ | refine br_no (bo_eqn (by omega)) ?_ | refine Or.inl ?_ | refine okS_no (by kernel_rfl) ?_ | refine okS_yes (by kernel_rfl) ?_ | refine And_of (by (conv => whnf); (rw [getB_app0]); (conv => whnf)) ?_ | refine setB_app ?_ | refine setB_app0 ?_ | rw [getB_app] | rw [getB_app0] | refine addB_f13 ?_ | refine addB_f12 ?_ | refine addB_f11 ?_ | refine addB_f10 ?_ | refine addB_f9 ?_ | refine addB_f8 ?_ | refine addB_f7 ?_ | refine addB_f6 ?_ | refine addB_f5 ?_ | refine addB_f4 ?_ | refine addB_f3 ?_ | refine addB_f2 ?_ | refine addB_f1 ?_ | refine addB_f0 ?_); conv => whnf)
      exact ⟨rfl, [], by simp⟩
theorem floats1_ok {M : List Blk} {j most : Nat} (hj : getB M j = ⟨true, .cells [F most]⟩) (x : Nat) : COk Tryz.prog 3 125 [F x, .ptr j 0] M (Bo (!betw x (fneg (some most)) (some most))) M := by
  refine COk_quiet Tryz.f125 Tryz.func125 (by kernel_rfl) rfl ?_
  (conv => whnf); repeat ((first | rw [hj] | refine ⟨_, _, betw_ok _ _ _ _, ?_⟩ | refine ⟨_, betw_ok _ _ _ _, ?_⟩ | refine br_d (by omega) ?_ | refine br_nd (by omega) ?_ | refine br_eq (by omega) ?_ | refine br_neq (by omega) ?_ | refine br_ne (by omega) ?_ | refine br_no (bo_eqn (by omega)) ?_ | refine Or.inl ?_ | refine okS_no (by kernel_rfl) ?_ | refine okS_yes (by kernel_rfl) ?_ | refine And_of (by (conv => whnf); (rw [getB_app0]); (conv => whnf)) ?_ | refine setB_app ?_ | refine setB_app0 ?_ | rw [getB_app] | rw [getB_app0] | refine addB_f13 ?_ | refine addB_f12 ?_ | refine addB_f11 ?_ | refine addB_f10 ?_ | refine addB_f9 ?_ | refine addB_f8 ?_ | refine addB_f7 ?_ | refine addB_f6 ?_ | refine addB_f5 ?_ | refine addB_f4 ?_ | refine addB_f3 ?_ | refine addB_f2 ?_ | refine addB_f1 ?_ | refine addB_f0 ?_); conv => whnf)
  exact ⟨rfl, [], by simp⟩
set_option maxHeartbeats 0 in
theorem floats_ok {M : List Blk} (hsc : scM M.length M = true) (hng : 3 ≤ M.length) {j o n : Nat} {l : List Nat} (S : SlF M j o l) (hn : l.length = n) (most : Nat) : COk Tryz.prog 3 76 [.sl j o n, F most] M (I (flI l most)) M := by
  have hj := S.lt
  have hx : ∀ i, i < fstN n (badF l most) → COk Tryz.prog 3 125 [F (l.getD i 0), .ptr M.length 0] (M ++ [⟨true, .cells [F most]⟩]) (Bo false) (M ++ [⟨true, .cells [F most]⟩]) := fun i hi => by
    have := floats1_ok (M := M ++ [⟨true, .cells [F most]⟩]) (j := M.length) (most := most) getB_app0 (l.getD i 0)
    rwa [show (!betw (l.getD i 0) (fneg (some most)) (some most)) = false from fstN_no hi] at this
  have hy : fstN n (badF l most) < n → ∀ i, i = fstN n (badF l most) → COk Tryz.prog 3 125 [F (l.getD i 0), .ptr M.length 0] (M ++ [⟨true, .cells [F most]⟩]) (Bo true) (M ++ [⟨true, .cells [F most]⟩]) := fun hk i hi => by
    have := floats1_ok (M := M ++ [⟨true, .cells [F most]⟩]) (j := M.length) (most := most) getB_app0 (l.getD i 0)
    have hy := fstN_yes hk
    rw [← hi] at hy
    rwa [show (!betw (l.getD i 0) (fneg (some most)) (some most)) = true from hy] at this
  have h := idxF_ok (fn := 125) (jc := M.length) (fun _ => M ++ [⟨true, .cells [F most]⟩]) (badF l most) l hn (fun _ _ => scM_app (scM_mono (by simp) _ hsc) (by simp [scM, B.sc, scL, V.sc])) (fun _ => rfl) (by simp; omega) (fun _ => S.app _) (by simp) hx hy
  refine COk_quiet Tryz.f76 Tryz.func76 (by kernel_rfl) rfl ?_
  (conv => whnf); repeat ((first | refine ⟨_, _, h, ?_⟩ | refine ⟨_, h, ?_⟩ | refine br_d (by omega) ?_ | refine br_nd (by omega) ?_ | refine br_eq (by omega) ?_ | refine br_neq (by omega) ?_ | refine br_ne (by omega) ?_ | refine br_no (bo_eqn (by omega)) ?_ | refine Or.inl ?_ | refine okS_no (by kernel_rfl) ?_ | refine okS_yes (by kernel_rfl) ?_ | refine And_of (by (conv => whnf); (rw [getB_app0]); (conv => whnf)) ?_ | refine setB_app ?_ | refine setB_app0 ?_ | rw [getB_app] | rw [getB_app0] | refine addB_f13 ?_ | refine addB_f12 ?_ | refine addB_f11 ?_ | refine addB_f10 ?_ | refine addB_f9 ?_ | refine addB_f8 ?_ | refine addB_f7 ?_ | refine addB_f6 ?_ | refine addB_f5 ?_ | refine addB_f4 ?_ | refine addB_f3 ?_ | refine addB_f2 ?_ | refine addB_f1 ?_ | refine addB_f0 ?_); conv => whnf)
  refine ⟨?_, _, rfl⟩
  rw [flI, hn]
theorem quanta1_ok {M : List Blk} (hsc : scM M.length M = true) {x z : Int} (hz : 0 ≤ z ∧ z ≤ mxW) : COk Tryz.prog 3 127 [.int .i64 x, .ptr M.length 0] (M ++ [⟨true, .cells [.int .i64 z]⟩]) (Bo (decide (x < 0) || decide (x > mxW - z))) (M ++ [⟨true, .cells [.int .i64 (if (decide (x < 0) || decide (x > mxW - z)) = true then z else z + x)]⟩]) := by
  unfold mxW at *
  by_cases h0 : x < 0
  · rw [decide_eq_true h0, Bool.true_or, if_pos rfl]
    refine COk_quiet Tryz.f127 Tryz.func127 (by kernel_rfl) rfl ?_
    (conv => whnf); repeat ((first | refine br_d (by omega) ?_ | refine br_nd (by omega) ?_ | refine br_eq (by omega) ?_ | refine br_neq (by omega) ?_ | refine br_ne (by omega) ?_ | refine br_no (bo_eqn (by omega)) ?_ | refine Or.inl ?_ | refine okS_no (by kernel_rfl) ?_ | refine okS_yes (by kernel_rfl) ?_ | refine And_of (by (conv => whnf); (rw [getB_app0]); (conv => whnf)) ?_ | refine setB_app ?_ | refine setB_app0 ?_ | rw [getB_app] | rw [getB_app0] | refine addB_f13 ?_ | refine addB_f12 ?_ | refine addB_f11 ?_ | refine addB_f10 ?_ | refine addB_f9 ?_ | refine addB_f8 ?_ | refine addB_f7 ?_ | refine addB_f6 ?_ | refine addB_f5 ?_ | refine addB_f4 ?_ | refine addB_f3 ?_ | refine addB_f2 ?_ | refine addB_f1 ?_ | refine addB_f0 ?_); conv => whnf)
    exact ⟨rfl, [], by simp⟩
  rw [decide_eq_false h0, Bool.false_or]
  have hw : IntKind.i64.wrap (4503599627370496 - z) = 4503599627370496 - z := wrap_id (by omega) (by omega)
  by_cases h1 : x > 4503599627370496 - z
  · rw [decide_eq_true h1, if_pos rfl]
    refine COk_quiet Tryz.f127 Tryz.func127 (by kernel_rfl) rfl ?_
    (conv => whnf); repeat ((first | refine br_d (by rw [hw]; exact h1) ?_ | refine br_d (by omega) ?_ | refine br_nd (by omega) ?_ | refine br_eq (by omega) ?_ | refine br_neq (by omega) ?_ | refine br_ne (by omega) ?_ | refine br_no (bo_eqn (by omega)) ?_ | refine Or.inl ?_ | refine okS_no (by kernel_rfl) ?_ | refine okS_yes (by kernel_rfl) ?_ | refine And_of (by (conv => whnf); (rw [getB_app0]); (conv => whnf)) ?_ | refine setB_app ?_ | refine setB_app0 ?_ | rw [getB_app] | rw [getB_app0] | refine addB_f13 ?_ | refine addB_f12 ?_ | refine addB_f11 ?_ | refine addB_f10 ?_ | refine addB_f9 ?_ | refine addB_f8 ?_ | refine addB_f7 ?_ | refine addB_f6 ?_ | refine addB_f5 ?_ | refine addB_f4 ?_ | refine addB_f3 ?_ | refine addB_f2 ?_ | refine addB_f1 ?_ | refine addB_f0 ?_); conv => whnf)
    exact ⟨rfl, [], by simp⟩
  · rw [decide_eq_false h1, if_neg (by decide)]
    refine COk_of_ev Tryz.f127 Tryz.func127 (by kernel_rfl) (by simp) rfl (.inr ?_) ?_
    · exact scM_app (scM_mono (by simp) _ hsc) (by simp [scM, B.sc, scL, V.sc])
    · have hx : IntKind.i64.wrap (z + x) = z + x := wrap_id (by omega) (by omega)
      (conv => whnf); repeat ((first | refine br_nd (by rw [hw]; exact h1) ?_ | refine put_at0 (c' := ⟨true, .cells [.int .i64 (z + x)]⟩) (by rw [hx]) ?_ | refine br_d (by omega) ?_ | refine br_nd (by omega) ?_ | refine br_eq (by omega) ?_ | refine br_neq (by omega) ?_ | refine br_ne (by omega) ?_ | refine br_no (bo_eqn (by omega)) ?_ | refine Or.inl ?_ | refine okS_no (by kernel_rfl) ?_ | refine okS_yes (by kernel_rfl) ?_ | refine And_of (by (conv => whnf); (rw [getB_app0]); (conv => whnf)) ?_ | refine setB_app ?_ | refine setB_app0 ?_ | rw [getB_app] | rw [getB_app0] | refine addB_f13 ?_ | refine addB_f12 ?_ | refine addB_f11 ?_ | refine addB_f10 ?_ | refine addB_f9 ?_ | refine addB_f8 ?_ | refine addB_f7 ?_ | refine addB_f6 ?_ | refine addB_f5 ?_ | refine addB_f4 ?_ | refine addB_f3 ?_ | refine addB_f2 ?_ | refine addB_f1 ?_ | refine addB_f0 ?_); conv => whnf)
      exact ⟨rfl, [], by simp⟩
set_option maxHeartbeats 0 in
theorem quanta_ok' {M : List Blk} (hsc : scM M.length M = true) (hng : 3 ≤ M.length) {j o n : Nat} {l : List Int} (S : SlI M j o l) (hn : l.length = n) {z : Int} (hz : 0 ≤ z ∧ z ≤ mxW) : COk Tryz.prog 3 77 [.sl j o n, .int .i64 z] M (I (quI l z)) M := by
  have hj := S.lt
  have bd : ∀ i, i ≤ fstN n (badQ l z) → 0 ≤ pz l z i ∧ pz l z i ≤ mxW := fun i hi => pz_in hz fun k hk => fstN_no (n := n) (by omega)
  have h := idxI_ok (fn := 127) (jc := M.length) (fun i => M ++ [⟨true, .cells [.int .i64 (pz l z i)]⟩]) (badQ l z) l hn (fun _ _ => scM_app (scM_mono (by simp) _ hsc) (by simp [scM, B.sc, scL, V.sc])) (fun _ => by simp) (by simp; omega) (fun _ => S.app _) (by simp) (fun i hi => by
      have := quanta1_ok hsc (x := l.getD i 0) (bd i (by omega))
      rw [show (decide (l.getD i 0 < 0) || decide (l.getD i 0 > mxW - pz l z i)) = false from fstN_no hi, if_neg (by decide)] at this
      exact this) (fun hk i hi => by
      have := quanta1_ok hsc (x := l.getD i 0) (bd i (by omega))
      have hy := fstN_yes hk
      rw [← hi] at hy
      rw [show (decide (l.getD i 0 < 0) || decide (l.getD i 0 > mxW - pz l z i)) = true from hy, if_pos rfl] at this
      exact this)
  refine COk_quiet Tryz.f77 Tryz.func77 (by kernel_rfl) rfl ?_
  (conv => whnf); repeat ((first | refine ⟨_, _, h, ?_⟩ | refine ⟨_, h, ?_⟩ | refine br_d (by omega) ?_ | refine br_nd (by omega) ?_ | refine br_eq (by omega) ?_ | refine br_neq (by omega) ?_ | refine br_ne (by omega) ?_ | refine br_no (bo_eqn (by omega)) ?_ | refine Or.inl ?_ | refine okS_no (by kernel_rfl) ?_ | refine okS_yes (by kernel_rfl) ?_ | refine And_of (by (conv => whnf); (rw [getB_app0]); (conv => whnf)) ?_ | refine setB_app ?_ | refine setB_app0 ?_ | rw [getB_app] | rw [getB_app0] | refine addB_f13 ?_ | refine addB_f12 ?_ | refine addB_f11 ?_ | refine addB_f10 ?_ | refine addB_f9 ?_ | refine addB_f8 ?_ | refine addB_f7 ?_ | refine addB_f6 ?_ | refine addB_f5 ?_ | refine addB_f4 ?_ | refine addB_f3 ?_ | refine addB_f2 ?_ | refine addB_f1 ?_ | refine addB_f0 ?_); conv => whnf)
  refine ⟨?_, _, rfl⟩
  rw [quI, hn]
/-! ### The reference's -/
theorem rbetw_ok (x : Nat) (lo hi : Option Nat) (m : List Blk) : COk Tryz.prog 3 74 [F x, .fl lo, .fl hi] m (Bo (betw x lo hi)) m := by
  have hd : ((x : Int) != 9223372036854775808) = !decide (x = 9223372036854775808) := by
    by_cases h : x = 9223372036854775808
    · subst h; rfl
    · rw [decide_eq_false h]; exact bne_iff_ne.2 (by omega)
  refine COk_quiet Tryz.f74 Tryz.func74 (by kernel_rfl) rfl ?_
  unfold betw
  conv => whnf
  refine br_intro (fun h1 => ?_) (fun h1 => ?_)
  · conv => whnf
    refine br_intro (fun h2 => ?_) (fun h2 => ?_)
    · (conv => whnf); repeat ((first | refine ⟨_, _, bits_ok _ _, ?_⟩ | refine ⟨_, bits_ok _ _, ?_⟩ | refine br_d (by omega) ?_ | refine br_nd (by omega) ?_ | refine br_eq (by omega) ?_ | refine br_neq (by omega) ?_ | refine br_ne (by omega) ?_ | refine br_no (bo_eqn (by omega)) ?_ | refine Or.inl ?_ | refine okS_no (by kernel_rfl) ?_ | refine okS_yes (by kernel_rfl) ?_ | refine And_of (by (conv => whnf); (rw [getB_app0]); (conv => whnf)) ?_ | refine setB_app ?_ | refine setB_app0 ?_ | rw [getB_app] | rw [getB_app0] | refine addB_f13 ?_ | refine addB_f12 ?_ | refine addB_f11 ?_ | refine addB_f10 ?_ | refine addB_f9 ?_ | refine addB_f8 ?_ | refine addB_f7 ?_ | refine addB_f6 ?_ | refine addB_f5 ?_ | refine addB_f4 ?_ | refine addB_f3 ?_ | refine addB_f2 ?_ | refine addB_f1 ?_ | refine addB_f0 ?_); conv => whnf)
      refine ⟨?_, [], by simp⟩
      rw [show fge (some x) lo = true from h1, show fle (some x) hi = true from h2, ← hd]; rfl
    · conv => whnf
      refine ⟨?_, [], by simp⟩
      rw [show fge (some x) lo = true from h1, show fle (some x) hi = false from h2]; rfl
  · conv => whnf
    refine ⟨?_, [], by simp⟩
    rw [show fge (some x) lo = false from h1]; rfl
set_option maxHeartbeats 0 in
theorem rfloats_ok {M : List Blk} (hsc : scM M.length M = true) (hng : 3 ≤ M.length) {j o n : Nat} {l : List Nat} (S : SlF M j o l) (hn : l.length = n) (most : Nat) : COk Tryz.prog 3 78 [.sl j o n, F most] M (I (flI l most)) M := by
  have wl := S.short
  have hj := S.lt
  subst hn
  have hb := fun i => rbetw_ok (l.getD i 0) (fneg (some most)) (some most) M
  refine COk_quiet Tryz.f78 Tryz.func78 (by kernel_rfl) rfl ?_
  by_cases hk : fstN l.length (badF l most) < l.length
  · rw [show flI l most = (fstN l.length (badF l most) : Int) from if_pos hk]
    have hy := fstN_yes hk
    have h0 : ∀ i, i < fstN l.length (badF l most) → badF l most i = false := fun i hi => fstN_no hi
    generalize fstN l.length (badF l most) = k at *
    (conv => whnf); repeat ((first | refine br_d (by omega) ?_ | refine br_nd (by omega) ?_ | refine br_eq (by omega) ?_ | refine br_neq (by omega) ?_ | refine br_ne (by omega) ?_ | refine br_no (bo_eqn (by omega)) ?_ | refine Or.inl ?_ | refine okS_no (by kernel_rfl) ?_ | refine okS_yes (by kernel_rfl) ?_ | refine And_of (by (conv => whnf); (rw [getB_app0]); (conv => whnf)) ?_ | refine setB_app ?_ | refine setB_app0 ?_ | rw [getB_app] | rw [getB_app0] | refine addB_f13 ?_ | refine addB_f12 ?_ | refine addB_f11 ?_ | refine addB_f10 ?_ | refine addB_f9 ?_ | refine addB_f8 ?_ | refine addB_f7 ?_ | refine addB_f6 ?_ | refine addB_f5 ?_ | refine addB_f4 ?_ | refine addB_f3 ?_ | refine addB_f2 ?_ | refine addB_f1 ?_ | refine addB_f0 ?_); conv => whnf)
    refine loop_to (fun i => [.sl j o l.length, F most, .any, .any, .any, I i, .any, .any, .any, .any, .any, .any, .any, .any, .any, .any, .any, .any, .any, .any, .any, .any]) (fun i => M) 0 k (Nat.zero_le _) ?_ ?_ ?_
    · refine Fg.of [] ?_ (by rw [List.append_nil]) (by first | (simp; done) | (simp; omega)) (by first | (simp [scL, V.sc]; done) | (simp [scL, V.sc]; omega)) hsc
      conv => whnf
      exact ⟨rfl, rfl, rfl, rfl⟩
    · intro i _ hi
      have hb := hb i
      rw [badF_no (h0 i hi)] at hb
      (conv => whnf); repeat ((first | refine SlF.at S (i := i) (by omega) rfl ?_ | refine ⟨_, _, hb, ?_⟩ | refine ⟨_, hb, ?_⟩ | refine br_d (by omega) ?_ | refine br_nd (by omega) ?_ | refine br_eq (by omega) ?_ | refine br_neq (by omega) ?_ | refine br_ne (by omega) ?_ | refine br_no (bo_eqn (by omega)) ?_ | refine Or.inl ?_ | refine okS_no (by kernel_rfl) ?_ | refine okS_yes (by kernel_rfl) ?_ | refine And_of (by (conv => whnf); (rw [getB_app0]); (conv => whnf)) ?_ | refine setB_app ?_ | refine setB_app0 ?_ | rw [getB_app] | rw [getB_app0] | refine addB_f13 ?_ | refine addB_f12 ?_ | refine addB_f11 ?_ | refine addB_f10 ?_ | refine addB_f9 ?_ | refine addB_f8 ?_ | refine addB_f7 ?_ | refine addB_f6 ?_ | refine addB_f5 ?_ | refine addB_f4 ?_ | refine addB_f3 ?_ | refine addB_f2 ?_ | refine addB_f1 ?_ | refine addB_f0 ?_); conv => whnf)
      refine Fg.of [] ?_ (by rw [List.append_nil]) (by first | (simp; done) | (simp; omega)) (by first | (simp [scL, V.sc]; done) | (simp [scL, V.sc]; omega)) hsc
      conv => whnf
      exact ⟨rfl, rfl, wrapKL (by omega), rfl⟩
    · have hb := hb k
      have : betw (l.getD k 0) (fneg (some most)) (some most) = false := by unfold badF at hy; simpa using hy
      rw [this] at hb
      (conv => whnf); repeat ((first | refine SlF.at S (i := k) (by omega) rfl ?_ | refine ⟨_, _, hb, ?_⟩ | refine ⟨_, hb, ?_⟩ | refine br_d (by omega) ?_ | refine br_nd (by omega) ?_ | refine br_eq (by omega) ?_ | refine br_neq (by omega) ?_ | refine br_ne (by omega) ?_ | refine br_no (bo_eqn (by omega)) ?_ | refine Or.inl ?_ | refine okS_no (by kernel_rfl) ?_ | refine okS_yes (by kernel_rfl) ?_ | refine And_of (by (conv => whnf); (rw [getB_app0]); (conv => whnf)) ?_ | refine setB_app ?_ | refine setB_app0 ?_ | rw [getB_app] | rw [getB_app0] | refine addB_f13 ?_ | refine addB_f12 ?_ | refine addB_f11 ?_ | refine addB_f10 ?_ | refine addB_f9 ?_ | refine addB_f8 ?_ | refine addB_f7 ?_ | refine addB_f6 ?_ | refine addB_f5 ?_ | refine addB_f4 ?_ | refine addB_f3 ?_ | refine addB_f2 ?_ | refine addB_f1 ?_ | refine addB_f0 ?_); conv => whnf)
      exact ⟨rfl, [], by simp⟩
  · rw [show flI l most = -1 from if_neg hk]
    have h0 : ∀ i, i < l.length → badF l most i = false := fun i hi => fstN_end hk hi
    (conv => whnf); repeat ((first | refine br_d (by omega) ?_ | refine br_nd (by omega) ?_ | refine br_eq (by omega) ?_ | refine br_neq (by omega) ?_ | refine br_ne (by omega) ?_ | refine br_no (bo_eqn (by omega)) ?_ | refine Or.inl ?_ | refine okS_no (by kernel_rfl) ?_ | refine okS_yes (by kernel_rfl) ?_ | refine And_of (by (conv => whnf); (rw [getB_app0]); (conv => whnf)) ?_ | refine setB_app ?_ | refine setB_app0 ?_ | rw [getB_app] | rw [getB_app0] | refine addB_f13 ?_ | refine addB_f12 ?_ | refine addB_f11 ?_ | refine addB_f10 ?_ | refine addB_f9 ?_ | refine addB_f8 ?_ | refine addB_f7 ?_ | refine addB_f6 ?_ | refine addB_f5 ?_ | refine addB_f4 ?_ | refine addB_f3 ?_ | refine addB_f2 ?_ | refine addB_f1 ?_ | refine addB_f0 ?_); conv => whnf)
    refine loop_to (fun i => [.sl j o l.length, F most, .any, .any, .any, I i, .any, .any, .any, .any, .any, .any, .any, .any, .any, .any, .any, .any, .any, .any, .any, .any]) (fun i => M) 0 l.length (Nat.zero_le _) ?_ ?_ ?_
    · refine Fg.of [] ?_ (by rw [List.append_nil]) (by first | (simp; done) | (simp; omega)) (by first | (simp [scL, V.sc]; done) | (simp [scL, V.sc]; omega)) hsc
      conv => whnf
      exact ⟨rfl, rfl, rfl, rfl⟩
    · intro i _ hi
      have hb := hb i
      rw [badF_no (h0 i hi)] at hb
      (conv => whnf); repeat ((first | refine SlF.at S (i := i) (by omega) rfl ?_ | refine ⟨_, _, hb, ?_⟩ | refine ⟨_, hb, ?_⟩ | refine br_d (by omega) ?_ | refine br_nd (by omega) ?_ | refine br_eq (by omega) ?_ | refine br_neq (by omega) ?_ | refine br_ne (by omega) ?_ | refine br_no (bo_eqn (by omega)) ?_ | refine Or.inl ?_ | refine okS_no (by kernel_rfl) ?_ | refine okS_yes (by kernel_rfl) ?_ | refine And_of (by (conv => whnf); (rw [getB_app0]); (conv => whnf)) ?_ | refine setB_app ?_ | refine setB_app0 ?_ | rw [getB_app] | rw [getB_app0] | refine addB_f13 ?_ | refine addB_f12 ?_ | refine addB_f11 ?_ | refine addB_f10 ?_ | refine addB_f9 ?_ | refine addB_f8 ?_ | refine addB_f7 ?_ | refine addB_f6 ?_ | refine addB_f5 ?_ | refine addB_f4 ?_ | refine addB_f3 ?_ | refine addB_f2 ?_ | refine addB_f1 ?_ | refine addB_f0 ?_); conv => whnf)
      refine Fg.of [] ?_ (by rw [List.append_nil]) (by first | (simp; done) | (simp; omega)) (by first | (simp [scL, V.sc]; done) | (simp [scL, V.sc]; omega)) hsc
      conv => whnf
      exact ⟨rfl, rfl, wrapKL (by omega), rfl⟩
    · (conv => whnf); repeat ((first | refine br_d (by omega) ?_ | refine br_nd (by omega) ?_ | refine br_eq (by omega) ?_ | refine br_neq (by omega) ?_ | refine br_ne (by omega) ?_ | refine br_no (bo_eqn (by omega)) ?_ | refine Or.inl ?_ | refine okS_no (by kernel_rfl) ?_ | refine okS_yes (by kernel_rfl) ?_ | refine And_of (by (conv => whnf); (rw [getB_app0]); (conv => whnf)) ?_ | refine setB_app ?_ | refine setB_app0 ?_ | rw [getB_app] | rw [getB_app0] | refine addB_f13 ?_ | refine addB_f12 ?_ | refine addB_f11 ?_ | refine addB_f10 ?_ | refine addB_f9 ?_ | refine addB_f8 ?_ | refine addB_f7 ?_ | refine addB_f6 ?_ | refine addB_f5 ?_ | refine addB_f4 ?_ | refine addB_f3 ?_ | refine addB_f2 ?_ | refine addB_f1 ?_ | refine addB_f0 ?_); conv => whnf)
      exact ⟨rfl, [], by simp⟩
set_option maxHeartbeats 0 in
theorem rquanta_ok {M : List Blk} (hsc : scM M.length M = true) (hng : 3 ≤ M.length) {j o n : Nat} {l : List Int} (S : SlI M j o l) (hn : l.length = n) {z : Int} (hz : 0 ≤ z ∧ z ≤ mxW) : COk Tryz.prog 3 79 [.sl j o n, .int .i64 z] M (I (quI l z)) M := by
  have wl := S.short
  have hj := S.lt
  subst hn
  have bd : ∀ i, i ≤ fstN l.length (badQ l z) → 0 ≤ pz l z i ∧ pz l z i ≤ mxW := fun i hi => pz_in hz fun k hk => fstN_no (n := l.length) (by omega)
  unfold mxW at bd
  refine COk_quiet Tryz.f79 Tryz.func79 (by kernel_rfl) rfl ?_
  have goR : ∀ i, i < l.length → badQ l z i = false → 0 ≤ l.getD i 0 ∧ ¬ l.getD i 0 > 4503599627370496 - pz l z i := fun i hi h => by
    have := badQ_no h
    unfold mxW at this
    omega
  by_cases hk : fstN l.length (badQ l z) < l.length
  · rw [show quI l z = (fstN l.length (badQ l z) : Int) from if_pos hk]
    have hy := fstN_yes hk
    have h0 : ∀ i, i < fstN l.length (badQ l z) → badQ l z i = false := fun i hi => fstN_no hi
    generalize fstN l.length (badQ l z) = k at *
    (conv => whnf); repeat ((first | refine br_d (by omega) ?_ | refine br_nd (by omega) ?_ | refine br_eq (by omega) ?_ | refine br_neq (by omega) ?_ | refine br_ne (by omega) ?_ | refine br_no (bo_eqn (by omega)) ?_ | refine Or.inl ?_ | refine okS_no (by kernel_rfl) ?_ | refine okS_yes (by kernel_rfl) ?_ | refine And_of (by (conv => whnf); (rw [getB_app0]); (conv => whnf)) ?_ | refine setB_app ?_ | refine setB_app0 ?_ | rw [getB_app] | rw [getB_app0] | refine addB_f13 ?_ | refine addB_f12 ?_ | refine addB_f11 ?_ | refine addB_f10 ?_ | refine addB_f9 ?_ | refine addB_f8 ?_ | refine addB_f7 ?_ | refine addB_f6 ?_ | refine addB_f5 ?_ | refine addB_f4 ?_ | refine addB_f3 ?_ | refine addB_f2 ?_ | refine addB_f1 ?_ | refine addB_f0 ?_); conv => whnf)
    refine loop_to (fun i => [.sl j o l.length, .int .i64 (pz l z i), .any, .any, .any, I i, .any, .any, .any, .any, .any, .any, .any, .any, .any, .any, .any, .any, .any, .any, .any, .any, .any, .any, .any, .any, .any, .any, .any, .any, .any, .any, .any]) (fun i => M) 0 k (Nat.zero_le _) ?_ ?_ ?_
    · refine Fg.of [] ?_ (by rw [List.append_nil]) (by first | (simp; done) | (simp; omega)) (by first | (simp [scL, V.sc]; done) | (simp [scL, V.sc]; omega)) hsc
      conv => whnf
      exact ⟨rfl, rfl, rfl, rfl⟩
    · intro i _ hi
      have b1 := bd i (by omega)
      have b2 := bd (i + 1) (by omega)
      simp only [pz] at b2
      obtain ⟨g1, g2⟩ := goR i (by omega) (h0 i hi)
      have hw : IntKind.i64.wrap (4503599627370496 - pz l z i) = 4503599627370496 - pz l z i := wrap_id (by omega) (by omega)
      have hx : IntKind.i64.wrap (pz l z i + l.getD i 0) = pz l z (i + 1) := by simp only [pz]; exact wrap_id (by omega) (by omega)
      (conv => whnf); repeat ((first | refine SlI.at S (i := i) (by omega) rfl ?_ | refine br_nd (by rw [hw]; exact g2) ?_ | refine br_d (by omega) ?_ | refine br_nd (by omega) ?_ | refine br_eq (by omega) ?_ | refine br_neq (by omega) ?_ | refine br_ne (by omega) ?_ | refine br_no (bo_eqn (by omega)) ?_ | refine Or.inl ?_ | refine okS_no (by kernel_rfl) ?_ | refine okS_yes (by kernel_rfl) ?_ | refine And_of (by (conv => whnf); (rw [getB_app0]); (conv => whnf)) ?_ | refine setB_app ?_ | refine setB_app0 ?_ | rw [getB_app] | rw [getB_app0] | refine addB_f13 ?_ | refine addB_f12 ?_ | refine addB_f11 ?_ | refine addB_f10 ?_ | refine addB_f9 ?_ | refine addB_f8 ?_ | refine addB_f7 ?_ | refine addB_f6 ?_ | refine addB_f5 ?_ | refine addB_f4 ?_ | refine addB_f3 ?_ | refine addB_f2 ?_ | refine addB_f1 ?_ | refine addB_f0 ?_); conv => whnf)
      rw [hx]
      refine Fg.of [] ?_ (by rw [List.append_nil]) (by first | (simp; done) | (simp; omega)) (by first | (simp [scL, V.sc]; done) | (simp [scL, V.sc]; omega)) hsc
      conv => whnf
      exact ⟨rfl, rfl, wrapKL (by omega), rfl⟩
    · have b1 := bd k (Nat.le_refl _)
      have hw : IntKind.i64.wrap (4503599627370496 - pz l z k) = 4503599627370496 - pz l z k := wrap_id (by omega) (by omega)
      by_cases hl : l.getD k 0 < 0
      · (conv => whnf); repeat ((first | refine SlI.at S (i := k) (by omega) rfl ?_ | refine br_d hl ?_ | refine br_d (by omega) ?_ | refine br_nd (by omega) ?_ | refine br_eq (by omega) ?_ | refine br_neq (by omega) ?_ | refine br_ne (by omega) ?_ | refine br_no (bo_eqn (by omega)) ?_ | refine Or.inl ?_ | refine okS_no (by kernel_rfl) ?_ | refine okS_yes (by kernel_rfl) ?_ | refine And_of (by (conv => whnf); (rw [getB_app0]); (conv => whnf)) ?_ | refine setB_app ?_ | refine setB_app0 ?_ | rw [getB_app] | rw [getB_app0] | refine addB_f13 ?_ | refine addB_f12 ?_ | refine addB_f11 ?_ | refine addB_f10 ?_ | refine addB_f9 ?_ | refine addB_f8 ?_ | refine addB_f7 ?_ | refine addB_f6 ?_ | refine addB_f5 ?_ | refine addB_f4 ?_ | refine addB_f3 ?_ | refine addB_f2 ?_ | refine addB_f1 ?_ | refine addB_f0 ?_); conv => whnf)
        exact ⟨rfl, [], by simp⟩
      · have hg : l.getD k 0 > 4503599627370496 - pz l z k := by
          unfold badQ mxW at hy
          rw [decide_eq_false hl, Bool.false_or] at hy
          exact of_decide_eq_true hy
        (conv => whnf); repeat ((first | refine SlI.at S (i := k) (by omega) rfl ?_ | refine br_nd hl ?_ | refine br_d (by rw [hw]; exact hg) ?_ | refine br_d (by omega) ?_ | refine br_nd (by omega) ?_ | refine br_eq (by omega) ?_ | refine br_neq (by omega) ?_ | refine br_ne (by omega) ?_ | refine br_no (bo_eqn (by omega)) ?_ | refine Or.inl ?_ | refine okS_no (by kernel_rfl) ?_ | refine okS_yes (by kernel_rfl) ?_ | refine And_of (by (conv => whnf); (rw [getB_app0]); (conv => whnf)) ?_ | refine setB_app ?_ | refine setB_app0 ?_ | rw [getB_app] | rw [getB_app0] | refine addB_f13 ?_ | refine addB_f12 ?_ | refine addB_f11 ?_ | refine addB_f10 ?_ | refine addB_f9 ?_ | refine addB_f8 ?_ | refine addB_f7 ?_ | refine addB_f6 ?_ | refine addB_f5 ?_ | refine addB_f4 ?_ | refine addB_f3 ?_ | refine addB_f2 ?_ | refine addB_f1 ?_ | refine addB_f0 ?_); conv => whnf)
        exact ⟨rfl, [], by simp⟩
  · rw [show quI l z = -1 from if_neg hk]
    have h0 : ∀ i, i < l.length → badQ l z i = false := fun i hi => fstN_end hk hi
    have e : fstN l.length (badQ l z) = l.length := fstN_all h0
    rw [e] at bd
    (conv => whnf); repeat ((first | refine br_d (by omega) ?_ | refine br_nd (by omega) ?_ | refine br_eq (by omega) ?_ | refine br_neq (by omega) ?_ | refine br_ne (by omega) ?_ | refine br_no (bo_eqn (by omega)) ?_ | refine Or.inl ?_ | refine okS_no (by kernel_rfl) ?_ | refine okS_yes (by kernel_rfl) ?_ | refine And_of (by (conv => whnf); (rw [getB_app0]); (conv => whnf)) ?_ | refine setB_app ?_ | refine setB_app0 ?_ | rw [getB_app] | rw [getB_app0] | refine addB_f13 ?_ | refine addB_f12 ?_ | refine addB_f11 ?_ | refine addB_f10 ?_ | refine addB_f9 ?_ | refine addB_f8 ?_ | refine addB_f7 ?_ | refine addB_f6 ?_ | refine addB_f5 ?_ | refine addB_f4 ?_ | refine addB_f3 ?_ | refine addB_f2 ?_ | refine addB_f1 ?_ | refine addB_f0 ?_); conv => whnf)
    refine loop_to (fun i => [.sl j o l.length, .int .i64 (pz l z i), .any, .any, .any, I i, .any, .any, .any, .any, .any, .any, .any, .any, .any, .any, .any, .any, .any, .any, .any, .any, .any, .any, .any, .any, .any, .any, .any, .any, .any, .any, .any]) (fun i => M) 0 l.length (Nat.zero_le _) ?_ ?_ ?_
    · refine Fg.of [] ?_ (by rw [List.append_nil]) (by first | (simp; done) | (simp; omega)) (by first | (simp [scL, V.sc]; done) | (simp [scL, V.sc]; omega)) hsc
      conv => whnf
      exact ⟨rfl, rfl, rfl, rfl⟩
    · intro i _ hi
      have b1 := bd i (by omega)
      have b2 := bd (i + 1) (by omega)
      simp only [pz] at b2
      obtain ⟨g1, g2⟩ := goR i (by omega) (h0 i hi)
      have hw : IntKind.i64.wrap (4503599627370496 - pz l z i) = 4503599627370496 - pz l z i := wrap_id (by omega) (by omega)
      have hx : IntKind.i64.wrap (pz l z i + l.getD i 0) = pz l z (i + 1) := by simp only [pz]; exact wrap_id (by omega) (by omega)
      (conv => whnf); repeat ((first | refine SlI.at S (i := i) (by omega) rfl ?_ | refine br_nd (by rw [hw]; exact g2) ?_ | refine br_d (by omega) ?_ | refine br_nd (by omega) ?_ | refine br_eq (by omega) ?_ | refine br_neq (by omega) ?_ | refine br_ne (by omega) ?_ | refine br_no (bo_eqn (by omega)) ?_ | refine Or.inl ?_ | refine okS_no (by kernel_rfl) ?_ | refine okS_yes (by kernel_rfl) ?_ | refine And_of (by (conv => whnf); (rw [getB_app0]); (conv => whnf)) ?_ | refine setB_app ?_ | refine setB_app0 ?_ | rw [getB_app] | rw [getB_app0] | refine addB_f13 ?_ | refine addB_f12 ?_ | refine addB_f11 ?_ | refine addB_f10 ?_ | refine addB_f9 ?_ | refine addB_f8 ?_ | refine addB_f7 ?_ | refine addB_f6 ?_ | refine addB_f5 ?_ | refine addB_f4 ?_ | refine addB_f3 ?_ | refine addB_f2 ?_ | refine addB_f1 ?_ | refine addB_f0 ?_); conv => whnf)
      rw [hx]
      refine Fg.of [] ?_ (by rw [List.append_nil]) (by first | (simp; done) | (simp; omega)) (by first | (simp [scL, V.sc]; done) | (simp [scL, V.sc]; omega)) hsc
      conv => whnf
      exact ⟨rfl, rfl, wrapKL (by omega), rfl⟩
    · (conv => whnf); repeat ((first | refine br_d (by omega) ?_ | refine br_nd (by omega) ?_ | refine br_eq (by omega) ?_ | refine br_neq (by omega) ?_ | refine br_ne (by omega) ?_ | refine br_no (bo_eqn (by omega)) ?_ | refine Or.inl ?_ | refine okS_no (by kernel_rfl) ?_ | refine okS_yes (by kernel_rfl) ?_ | refine And_of (by (conv => whnf); (rw [getB_app0]); (conv => whnf)) ?_ | refine setB_app ?_ | refine setB_app0 ?_ | rw [getB_app] | rw [getB_app0] | refine addB_f13 ?_ | refine addB_f12 ?_ | refine addB_f11 ?_ | refine addB_f10 ?_ | refine addB_f9 ?_ | refine addB_f8 ?_ | refine addB_f7 ?_ | refine addB_f6 ?_ | refine addB_f5 ?_ | refine addB_f4 ?_ | refine addB_f3 ?_ | refine addB_f2 ?_ | refine addB_f1 ?_ | refine addB_f0 ?_); conv => whnf)
      exact ⟨rfl, [], by simp⟩
end Go.Proofs.YtgoljofmbidkfaaGreatDoor
