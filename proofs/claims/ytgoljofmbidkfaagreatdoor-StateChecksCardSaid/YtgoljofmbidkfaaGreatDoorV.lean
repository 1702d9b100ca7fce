/- Small laws for walks: memory that is shut, and known blocks behind it. No condition. -/
import Derived.Test.YtgoljofmbidkfaaGreatDoorB
namespace Go.Proofs.YtgoljofmbidkfaaGreatDoor
open Go Go.Eng
set_option maxRecDepth 100000
set_option linter.unusedSimpArgs false
set_option linter.unusedVariables false

theorem getB_app {M l : List Blk} (k : Nat) : getB (M ++ l) (M.length + k) = getB l k := by
  rw [getB_eq, getB_eq, List.getD_eq_getElem?_getD, List.getD_eq_getElem?_getD, List.getElem?_append_right (by omega)]
  congr 2; omega
theorem getB_app0 {M l : List Blk} : getB (M ++ l) M.length = getB l 0 := getB_app 0
theorem getB_in {M l : List Blk} {i : Nat} {b : Blk} (h : getB M i = b) (hl : b.b.live = true) : getB (M ++ l) i = b := by
  rw [getB_eq, List.getD_eq_getElem?_getD] at h ⊢
  rcases Nat.lt_or_ge i M.length with hi | hi
  · rw [List.getElem?_append_left hi]; exact h
  · rw [List.getElem?_eq_none hi] at h
    subst h
    exact absurd hl (by simp [B.live])
theorem getB_lt {M : List Blk} {i : Nat} {b : Blk} (h : getB M i = b) (hl : b.b.live = true) : i < M.length := by
  rw [getB_eq, List.getD_eq_getElem?_getD] at h
  rcases Nat.lt_or_ge i M.length with hi | hi
  · exact hi
  · rw [List.getElem?_eq_none hi] at h
    subst h
    exact absurd hl (by simp [B.live])
theorem addB_app {M l : List Blk} {b : Blk} {K : Nat → List Blk → Prop} (h : K (M.length + l.length) (M ++ (l ++ [b]))) : addB (M ++ l) b K := by
  rw [addB_eq, List.length_append, List.append_assoc]; exact h
theorem setB_app {M l : List Blk} {k : Nat} {c : Blk} {K : List Blk → Prop} (h : K (M ++ l.set k c)) : setB (M ++ l) (M.length + k) c K := by
  rw [setB_eq, List.set_append_right _ _ (by omega), show M.length + k - M.length = k by omega]; exact h
theorem setB_app0 {M l : List Blk} {c : Blk} {K : List Blk → Prop} (h : K (M ++ l.set 0 c)) : setB (M ++ l) M.length c K := setB_app (k := 0) h
theorem addB_f0 {M : List Blk} {b : Blk} {K : Nat → List Blk → Prop} (h : K M.length (M ++ [b])) : addB M b K := by rw [addB_eq]; exact h
theorem addB_f1 {M : List Blk} {a0 b : Blk} {K : Nat → List Blk → Prop} (h : K (M.length + 1) (M ++ [a0, b])) : addB (M ++ [a0]) b K := addB_app h
theorem addB_f2 {M : List Blk} {a0 a1 b : Blk} {K : Nat → List Blk → Prop} (h : K (M.length + 2) (M ++ [a0, a1, b])) : addB (M ++ [a0, a1]) b K := addB_app h
theorem addB_f3 {M : List Blk} {a0 a1 a2 b : Blk} {K : Nat → List Blk → Prop} (h : K (M.length + 3) (M ++ [a0, a1, a2, b])) : addB (M ++ [a0, a1, a2]) b K := addB_app h
theorem addB_f4 {M : List Blk} {a0 a1 a2 a3 b : Blk} {K : Nat → List Blk → Prop} (h : K (M.length + 4) (M ++ [a0, a1, a2, a3, b])) : addB (M ++ [a0, a1, a2, a3]) b K := addB_app h
theorem addB_f5 {M : List Blk} {a0 a1 a2 a3 a4 b : Blk} {K : Nat → List Blk → Prop} (h : K (M.length + 5) (M ++ [a0, a1, a2, a3, a4, b])) : addB (M ++ [a0, a1, a2, a3, a4]) b K := addB_app h
theorem addB_f6 {M : List Blk} {a0 a1 a2 a3 a4 a5 b : Blk} {K : Nat → List Blk → Prop} (h : K (M.length + 6) (M ++ [a0, a1, a2, a3, a4, a5, b])) : addB (M ++ [a0, a1, a2, a3, a4, a5]) b K := addB_app h
theorem addB_f7 {M : List Blk} {a0 a1 a2 a3 a4 a5 a6 b : Blk} {K : Nat → List Blk → Prop} (h : K (M.length + 7) (M ++ [a0, a1, a2, a3, a4, a5, a6, b])) : addB (M ++ [a0, a1, a2, a3, a4, a5, a6]) b K := addB_app h
theorem addB_f8 {M : List Blk} {a0 a1 a2 a3 a4 a5 a6 a7 b : Blk} {K : Nat → List Blk → Prop} (h : K (M.length + 8) (M ++ [a0, a1, a2, a3, a4, a5, a6, a7, b])) : addB (M ++ [a0, a1, a2, a3, a4, a5, a6, a7]) b K := addB_app h
theorem addB_f9 {M : List Blk} {a0 a1 a2 a3 a4 a5 a6 a7 a8 b : Blk} {K : Nat → List Blk → Prop} (h : K (M.length + 9) (M ++ [a0, a1, a2, a3, a4, a5, a6, a7, a8, b])) : addB (M ++ [a0, a1, a2, a3, a4, a5, a6, a7, a8]) b K := addB_app h
theorem addB_f10 {M : List Blk} {a0 a1 a2 a3 a4 a5 a6 a7 a8 a9 b : Blk} {K : Nat → List Blk → Prop} (h : K (M.length + 10) (M ++ [a0, a1, a2, a3, a4, a5, a6, a7, a8, a9, b])) : addB (M ++ [a0, a1, a2, a3, a4, a5, a6, a7, a8, a9]) b K := addB_app h
theorem addB_f11 {M : List Blk} {a0 a1 a2 a3 a4 a5 a6 a7 a8 a9 a10 b : Blk} {K : Nat → List Blk → Prop} (h : K (M.length + 11) (M ++ [a0, a1, a2, a3, a4, a5, a6, a7, a8, a9, a10, b])) : addB (M ++ [a0, a1, a2, a3, a4, a5, a6, a7, a8, a9, a10]) b K := addB_app h
theorem addB_f12 {M : List Blk} {a0 a1 a2 a3 a4 a5 a6 a7 a8 a9 a10 a11 b : Blk} {K : Nat → List Blk → Prop} (h : K (M.length + 12) (M ++ [a0, a1, a2, a3, a4, a5, a6, a7, a8, a9, a10, a11, b])) : addB (M ++ [a0, a1, a2, a3, a4, a5, a6, a7, a8, a9, a10, a11]) b K := addB_app h
theorem addB_f13 {M : List Blk} {a0 a1 a2 a3 a4 a5 a6 a7 a8 a9 a10 a11 a12 b : Blk} {K : Nat → List Blk → Prop} (h : K (M.length + 13) (M ++ [a0, a1, a2, a3, a4, a5, a6, a7, a8, a9, a10, a11, a12, b])) : addB (M ++ [a0, a1, a2, a3, a4, a5, a6, a7, a8, a9, a10, a11, a12]) b K := addB_app h
theorem bo_eqn {a b : Int} (h : a = b) : (a != b) = false := by simp [h]
/-- Memory that begins with the program's tables. -/
def Top (m : List Blk) : Prop := ∃ x, m = GG x
theorem Top.app {m : List Blk} (h : Top m) (x : List Blk) : Top (m ++ x) := by
  obtain ⟨y, rfl⟩ := h
  exact ⟨y ++ x, rfl⟩
theorem Top.ok {m : List Blk} {f : FuncId} {args : List V} {r : V} (h : Top m) (hc : ∀ x, COk Tryz.prog 3 f args (GG x) r (GG x)) : COk Tryz.prog 3 f args m r m := by
  obtain ⟨y, rfl⟩ := h
  exact hc y
theorem scM_one {n : Nat} {b : Blk} (h : b.b.sc n = true) : scM n [b] = true := by simp [scM, h]
end Go.Proofs.YtgoljofmbidkfaaGreatDoor
