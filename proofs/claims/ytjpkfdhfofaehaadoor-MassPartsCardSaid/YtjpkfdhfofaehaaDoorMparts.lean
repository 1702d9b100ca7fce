/- MassTotals, MassParts: their own contracts (MassParts alone so far). No condition. -/
import Derived.Test.YtjpkfdhfofaehaaDoorMv
namespace Go.Proofs.YtjpkfdhfofaehaaDoor
open Go Go.Eng
set_option maxRecDepth 100000
set_option linter.unusedSimpArgs false
set_option linter.unusedVariables false

def tp (s : Int) : Int := if in64 s then s else 0
def tq (s : Int) : Int := if in64 s then 0 else 20
theorem totalV_tp (s : Int) : totalV s = .tup [.int .i64 (tp s), I (tq s)] := by
  unfold totalV tp tq
  split <;> rfl
theorem total_tp {M : List Blk} (hng : 3 ≤ M.length) (hsc : scM M.length M = true) {v1 v2 : V} {l1 l2 : List Int} (h1 : Sli M v1 l1) (h2 : Sli M v2 l2) {s : Int} (hs : ps l1 l1.length + ps l2 l2.length = s) :
    COk Tryd.prog 3 13 [v1, v2] M (.tup [.int .i64 (tp s), I (tq s)]) M := by
  have := total_ok hng hsc h1 h2
  rwa [hs, totalV_tp] at this
theorem ps_ge {l : List Int} {G : Nat → Int} (h : ∀ i, i < l.length → l.getD i 0 = G i) : ∀ k, k ≤ l.length → ps l k = ps (tab l.length G) k
  | 0, _ => rfl
  | k + 1, hk => by simp only [ps, ps_ge h k (by omega), h k (by omega), tab_get (show k < l.length by omega)]
/-- A row turned about has the same sum. -/
def sumR (G : Nat → Int) : Nat → Int
  | 0 => 0
  | k + 1 => sumR G k + G k
theorem sumR_congr {F G : Nat → Int} : ∀ k, (∀ i, i < k → F i = G i) → sumR F k = sumR G k
  | 0, _ => rfl
  | k + 1, h => by simp only [sumR, sumR_congr k (fun i hi => h i (by omega)), h k (by omega)]
theorem ps_sumR (l : List Int) : ∀ k, ps l k = sumR (fun i => l.getD i 0) k
  | 0 => rfl
  | k + 1 => by simp only [ps, sumR, ps_sumR l k]
theorem sumR_shift (G : Nat → Int) : ∀ k, sumR G (k + 1) = G 0 + sumR (fun i => G (i + 1)) k
  | 0 => by simp [sumR]
  | k + 1 => by
    have := sumR_shift G k
    simp only [sumR] at this ⊢
    omega
theorem sumR_rev : ∀ (N : Nat) (G : Nat → Int), sumR (fun i => G (N - 1 - i)) N = sumR G N
  | 0, _ => rfl
  | N + 1, G => by
    rw [sumR_shift]
    have e : sumR (fun i => G (N + 1 - 1 - (i + 1))) N = sumR (fun i => G (N - 1 - i)) N := sumR_congr N fun i _ => by congr 1; omega
    rw [e, sumR_rev N G]
    simp only [sumR, Nat.add_sub_cancel, Nat.sub_zero]
    omega
theorem ps_rev (l : List Int) : ps (tab l.length fun i => l.getD (l.length - 1 - i) 0) l.length = ps l l.length := by
  rw [ps_sumR, ps_sumR, ← sumR_rev l.length fun i => l.getD i 0]
  exact sumR_congr _ fun i hi => tab_get hi
set_option maxHeartbeats 0 in
theorem parts15_ok {M : List Blk} (hm : Top M) (hsc : scM M.length M = true) {v1 v2 : V} {l1 l2 : List Int} (h1 : Sli M v1 l1) (h2 : Sli M v2 l2) (hs : l1.length ≤ 17592186044416) (x : Int) (hx : in64 x) :
    COk Tryd.prog 3 4 [v1, v2, .int .i64 x] M (Bo true) M := by
  have hw1 := h1.wf
  have hw2 := h2.wf
  have hng := hm.ng
  have hA := total_tp hng hsc h1 (Sli.none M) (s := ps l1 l1.length) (by simp [ps])
  have hB := total_tp hng hsc h2 (Sli.none M) (s := ps l2 l2.length) (by simp [ps])
  have hC := total_tp hng hsc h1 h2 rfl
  have hrev := ps_rev l1
  have tin : ∀ s, in64 (tp s) := fun s => by
    unfold tp
    split
    · assumption
    · omega
  -- both totals together
  have hD := total_tp (M := M ++ [⟨true, .cells (rowI [tp (ps l1 l1.length), tp (ps l2 l2.length)])⟩]) (by (simp) <;> omega) (Up.of hsc rfl).sc (Sli.none _)
    (Sli.of (l := [tp (ps l1 l1.length), tp (ps l2 l2.length)]) (SlI.lit getB_app0 (by
      intro z hz
      rcases List.mem_cons.1 hz with rfl | hz
      · exact tin _
      · rw [List.mem_singleton.1 hz]; exact tin _) (by simp))) (s := tp (ps l1 l1.length) + tp (ps l2 l2.length)) (by simp [ps])
  -- the row turned about
  have hE := total_tp (M := M ++ [⟨true, .cells (rowI [tp (ps l1 l1.length), tp (ps l2 l2.length)])⟩, ⟨true, .ints .i64 (tab l1.length fun i => l1.getD (l1.length - 1 - i) 0)⟩]) (by (simp) <;> omega) (Up.of hsc rfl).sc
    (Sli.of (SlI.tab (N := l1.length) (getB_app 1) (fun i hi => hw1.1 _ (by omega)) hw1.2)) (Sli.none _) (s := ps l1 l1.length) (by rw [tab_len, hrev]; simp [ps])
  rw [tab_len] at hE
  -- a number and its opposite
  have hF := fun hx0 : x ≠ -9223372036854775808 => total_tp (M := M ++ [⟨true, .cells (rowI [tp (ps l1 l1.length), tp (ps l2 l2.length)])⟩, ⟨true, .ints .i64 (tab l1.length fun i => l1.getD (l1.length - 1 - i) 0)⟩, ⟨true, .cells (rowI [x, -x])⟩])
    (by (simp) <;> omega) (Up.of hsc rfl).sc (h1.app _) (Sli.of (l := [x, -x]) (SlI.lit (getB_app 2) (by
      intro z hz
      rcases List.mem_cons.1 hz with rfl | hz
      · exact hx
      · rw [List.mem_singleton.1 hz]; omega) (by simp))) (s := ps l1 l1.length) (by simp [ps]; omega)
  clear hrev
  have hpq1 : (tp (ps l1 l1.length) = ps l1 l1.length ∧ tq (ps l1 l1.length) = 0) ∨ (tp (ps l1 l1.length) = 0 ∧ tq (ps l1 l1.length) = 20) := by
    unfold tp tq; split
    · exact .inl ⟨rfl, rfl⟩
    · exact .inr ⟨rfl, rfl⟩
  have hpq2 : (tp (ps l2 l2.length) = ps l2 l2.length ∧ tq (ps l2 l2.length) = 0) ∨ (tp (ps l2 l2.length) = 0 ∧ tq (ps l2 l2.length) = 20) := by
    unfold tp tq; split
    · exact .inl ⟨rfl, rfl⟩
    · exact .inr ⟨rfl, rfl⟩
  have hz1 : l1 = [] → tp (ps l1 l1.length) = 0 ∧ tq (ps l1 l1.length) = 0 := fun h => by subst h; exact ⟨rfl, rfl⟩
  have hz2 : l2 = [] → tp (ps l2 l2.length) = 0 ∧ tq (ps l2 l2.length) = 0 := fun h => by subst h; exact ⟨rfl, rfl⟩
  have hcd : (tp (ps l1 l1.length) = ps l1 l1.length ∧ tp (ps l2 l2.length) = ps l2 l2.length) → tp (ps l1 l1.length + ps l2 l2.length) = tp (tp (ps l1 l1.length) + tp (ps l2 l2.length)) ∧ tq (ps l1 l1.length + ps l2 l2.length) = tq (tp (ps l1 l1.length) + tp (ps l2 l2.length)) := by
    rintro ⟨h, h'⟩
    rw [h, h']; exact ⟨rfl, rfl⟩
  have hz3 : l2 = [] → tp (ps l1 l1.length) = tp (ps l1 l1.length + ps l2 l2.length) ∧ tq (ps l1 l1.length) = tq (ps l1 l1.length + ps l2 l2.length) := fun h => by
    subst h
    have : ps l1 l1.length + ps [] ([] : List Int).length = ps l1 l1.length := by simp [ps]
    rw [this]; exact ⟨rfl, rfl⟩
  generalize tp (ps l1 l1.length + ps l2 l2.length) = c1 at *
  generalize tq (ps l1 l1.length + ps l2 l2.length) = c2 at *
  generalize tp (tp (ps l1 l1.length) + tp (ps l2 l2.length)) = d1 at *
  generalize tq (tp (ps l1 l1.length) + tp (ps l2 l2.length)) = d2 at *
  generalize tp (ps l1 l1.length) = p1 at *
  generalize tq (ps l1 l1.length) = q1 at *
  generalize tp (ps l2 l2.length) = p2 at *
  generalize tq (ps l2 l2.length) = q2 at *
  generalize ps l1 l1.length = s1 at *
  generalize ps l2 l2.length = s2 at *
  have ho : (p1 = s1 ∧ q1 = 0 ∧ p2 = s2 ∧ q2 = 0) ∨ (q1 = 20 ∧ p1 = 0) ∨ (q1 = 0 ∧ q2 = 20) := by omega
  clear hpq1 hpq2
  rcases h1 with ⟨rfl, rfl⟩ | ⟨j1, o1, rfl, h1⟩ <;> rcases h2 with ⟨rfl, rfl⟩ | ⟨j2, o2, rfl, h2⟩
  · obtain ⟨rfl, rfl⟩ := hz1 rfl
    (try (obtain ⟨rfl, rfl⟩ := hz2 rfl; obtain ⟨rfl, rfl⟩ := hz3 rfl))
    rcases ho with ⟨e1, e2, e3, e4⟩ | ⟨e1, e2⟩ | ⟨e1, e2⟩
    case' inl => obtain ⟨e5, e6⟩ := hcd ⟨e1, e3⟩
    all_goals try (exfalso; omega)
    all_goals
      refine COk_quiet Tryd.f4 Tryd.func4 (by kernel_rfl) rfl ?_
      (conv => whnf); repeat (first | (refine ⟨_, _, awake15_ok hm hsc, ?_⟩; conv => whnf) | (refine ⟨_, awake15_ok hm hsc, ?_⟩; conv => whnf) | (refine ⟨_, _, hA, ?_⟩; conv => whnf) | (refine ⟨_, hA, ?_⟩; conv => whnf) | (refine ⟨_, _, hB, ?_⟩; conv => whnf) | (refine ⟨_, hB, ?_⟩; conv => whnf) | (refine ⟨_, _, hC, ?_⟩; conv => whnf) | (refine ⟨_, hC, ?_⟩; conv => whnf) | (refine ⟨_, _, hD, ?_⟩; conv => whnf) | (refine ⟨_, hD, ?_⟩; conv => whnf) | (refine lr ?_; conv => whnf) | (refine ⟨_, _, hE, ?_⟩; conv => whnf) | (refine ⟨_, hE, ?_⟩; conv => whnf) | (refine br_d (by omega) ?_; conv => whnf) | (refine br_nd (by omega) ?_; conv => whnf) | (refine br_eq (by omega) ?_; conv => whnf) | (refine br_neq (by omega) ?_; conv => whnf) | (refine br_ne (by omega) ?_; conv => whnf) | (refine br_no (bo_eqn (by omega)) ?_; conv => whnf) | (refine setB_app ?_; conv => whnf) | (refine setB_app0 ?_; conv => whnf) | (rw [getB_app]; conv => whnf) | (rw [getB_app0]; conv => whnf) | (refine addB_f8 ?_; conv => whnf) | (refine addB_f7 ?_; conv => whnf) | (refine addB_f6 ?_; conv => whnf) | (refine addB_f5 ?_; conv => whnf) | (refine addB_f4 ?_; conv => whnf) | (refine addB_f3 ?_; conv => whnf) | (refine addB_f2 ?_; conv => whnf) | (refine addB_f1 ?_; conv => whnf) | (refine addB_f0 ?_; conv => whnf))
      by_cases hx0 : x = -9223372036854775808
      · (conv => whnf); repeat (first | (refine br_eq hx0 ?_; conv => whnf) | (refine br_d (by omega) ?_; conv => whnf) | (refine br_nd (by omega) ?_; conv => whnf) | (refine br_eq (by omega) ?_; conv => whnf) | (refine br_neq (by omega) ?_; conv => whnf) | (refine br_ne (by omega) ?_; conv => whnf) | (refine br_no (bo_eqn (by omega)) ?_; conv => whnf) | (refine setB_app ?_; conv => whnf) | (refine setB_app0 ?_; conv => whnf) | (rw [getB_app]; conv => whnf) | (rw [getB_app0]; conv => whnf) | (refine addB_f8 ?_; conv => whnf) | (refine addB_f7 ?_; conv => whnf) | (refine addB_f6 ?_; conv => whnf) | (refine addB_f5 ?_; conv => whnf) | (refine addB_f4 ?_; conv => whnf) | (refine addB_f3 ?_; conv => whnf) | (refine addB_f2 ?_; conv => whnf) | (refine addB_f1 ?_; conv => whnf) | (refine addB_f0 ?_; conv => whnf))
        exact ⟨rfl, _, rfl⟩
      · have e0 : IntKind.i64.wrap (0 - x) = -x := neg64 hx hx0
        have hF := hF hx0
        (conv => whnf)
        refine br_neq hx0 ?_
        (conv => whnf)
        rw [e0]
        (conv => whnf); repeat (first | (refine ⟨_, _, hF, ?_⟩; conv => whnf) | (refine ⟨_, hF, ?_⟩; conv => whnf) | (refine br_d (by omega) ?_; conv => whnf) | (refine br_nd (by omega) ?_; conv => whnf) | (refine br_eq (by omega) ?_; conv => whnf) | (refine br_neq (by omega) ?_; conv => whnf) | (refine br_ne (by omega) ?_; conv => whnf) | (refine br_no (bo_eqn (by omega)) ?_; conv => whnf) | (refine setB_app ?_; conv => whnf) | (refine setB_app0 ?_; conv => whnf) | (rw [getB_app]; conv => whnf) | (rw [getB_app0]; conv => whnf) | (refine addB_f8 ?_; conv => whnf) | (refine addB_f7 ?_; conv => whnf) | (refine addB_f6 ?_; conv => whnf) | (refine addB_f5 ?_; conv => whnf) | (refine addB_f4 ?_; conv => whnf) | (refine addB_f3 ?_; conv => whnf) | (refine addB_f2 ?_; conv => whnf) | (refine addB_f1 ?_; conv => whnf) | (refine addB_f0 ?_; conv => whnf))
        first
        | exact ⟨rfl, _, rfl⟩
        | exact ⟨congrArg V.bool (by simp), _, rfl⟩
  · obtain ⟨rfl, rfl⟩ := hz1 rfl
    (try (obtain ⟨rfl, rfl⟩ := hz2 rfl; obtain ⟨rfl, rfl⟩ := hz3 rfl))
    rcases ho with ⟨e1, e2, e3, e4⟩ | ⟨e1, e2⟩ | ⟨e1, e2⟩
    case' inl => obtain ⟨e5, e6⟩ := hcd ⟨e1, e3⟩
    all_goals try (exfalso; omega)
    all_goals
      refine COk_quiet Tryd.f4 Tryd.func4 (by kernel_rfl) rfl ?_
      (conv => whnf); repeat (first | (refine ⟨_, _, awake15_ok hm hsc, ?_⟩; conv => whnf) | (refine ⟨_, awake15_ok hm hsc, ?_⟩; conv => whnf) | (refine ⟨_, _, hA, ?_⟩; conv => whnf) | (refine ⟨_, hA, ?_⟩; conv => whnf) | (refine ⟨_, _, hB, ?_⟩; conv => whnf) | (refine ⟨_, hB, ?_⟩; conv => whnf) | (refine ⟨_, _, hC, ?_⟩; conv => whnf) | (refine ⟨_, hC, ?_⟩; conv => whnf) | (refine ⟨_, _, hD, ?_⟩; conv => whnf) | (refine ⟨_, hD, ?_⟩; conv => whnf) | (refine lr ?_; conv => whnf) | (refine ⟨_, _, hE, ?_⟩; conv => whnf) | (refine ⟨_, hE, ?_⟩; conv => whnf) | (refine br_d (by omega) ?_; conv => whnf) | (refine br_nd (by omega) ?_; conv => whnf) | (refine br_eq (by omega) ?_; conv => whnf) | (refine br_neq (by omega) ?_; conv => whnf) | (refine br_ne (by omega) ?_; conv => whnf) | (refine br_no (bo_eqn (by omega)) ?_; conv => whnf) | (refine setB_app ?_; conv => whnf) | (refine setB_app0 ?_; conv => whnf) | (rw [getB_app]; conv => whnf) | (rw [getB_app0]; conv => whnf) | (refine addB_f8 ?_; conv => whnf) | (refine addB_f7 ?_; conv => whnf) | (refine addB_f6 ?_; conv => whnf) | (refine addB_f5 ?_; conv => whnf) | (refine addB_f4 ?_; conv => whnf) | (refine addB_f3 ?_; conv => whnf) | (refine addB_f2 ?_; conv => whnf) | (refine addB_f1 ?_; conv => whnf) | (refine addB_f0 ?_; conv => whnf))
      by_cases hx0 : x = -9223372036854775808
      · (conv => whnf); repeat (first | (refine br_eq hx0 ?_; conv => whnf) | (refine br_d (by omega) ?_; conv => whnf) | (refine br_nd (by omega) ?_; conv => whnf) | (refine br_eq (by omega) ?_; conv => whnf) | (refine br_neq (by omega) ?_; conv => whnf) | (refine br_ne (by omega) ?_; conv => whnf) | (refine br_no (bo_eqn (by omega)) ?_; conv => whnf) | (refine setB_app ?_; conv => whnf) | (refine setB_app0 ?_; conv => whnf) | (rw [getB_app]; conv => whnf) | (rw [getB_app0]; conv => whnf) | (refine addB_f8 ?_; conv => whnf) | (refine addB_f7 ?_; conv => whnf) | (refine addB_f6 ?_; conv => whnf) | (refine addB_f5 ?_; conv => whnf) | (refine addB_f4 ?_; conv => whnf) | (refine addB_f3 ?_; conv => whnf) | (refine addB_f2 ?_; conv => whnf) | (refine addB_f1 ?_; conv => whnf) | (refine addB_f0 ?_; conv => whnf))
        exact ⟨rfl, _, rfl⟩
      · have e0 : IntKind.i64.wrap (0 - x) = -x := neg64 hx hx0
        have hF := hF hx0
        (conv => whnf)
        refine br_neq hx0 ?_
        (conv => whnf)
        rw [e0]
        (conv => whnf); repeat (first | (refine ⟨_, _, hF, ?_⟩; conv => whnf) | (refine ⟨_, hF, ?_⟩; conv => whnf) | (refine br_d (by omega) ?_; conv => whnf) | (refine br_nd (by omega) ?_; conv => whnf) | (refine br_eq (by omega) ?_; conv => whnf) | (refine br_neq (by omega) ?_; conv => whnf) | (refine br_ne (by omega) ?_; conv => whnf) | (refine br_no (bo_eqn (by omega)) ?_; conv => whnf) | (refine setB_app ?_; conv => whnf) | (refine setB_app0 ?_; conv => whnf) | (rw [getB_app]; conv => whnf) | (rw [getB_app0]; conv => whnf) | (refine addB_f8 ?_; conv => whnf) | (refine addB_f7 ?_; conv => whnf) | (refine addB_f6 ?_; conv => whnf) | (refine addB_f5 ?_; conv => whnf) | (refine addB_f4 ?_; conv => whnf) | (refine addB_f3 ?_; conv => whnf) | (refine addB_f2 ?_; conv => whnf) | (refine addB_f1 ?_; conv => whnf) | (refine addB_f0 ?_; conv => whnf))
        first
        | exact ⟨rfl, _, rfl⟩
        | exact ⟨congrArg V.bool (by simp), _, rfl⟩
  · have hj1 := h1.lt
    (try (obtain ⟨rfl, rfl⟩ := hz2 rfl; obtain ⟨rfl, rfl⟩ := hz3 rfl))
    rcases ho with ⟨e1, e2, e3, e4⟩ | ⟨e1, e2⟩ | ⟨e1, e2⟩
    case' inl => obtain ⟨e5, e6⟩ := hcd ⟨e1, e3⟩
    all_goals try (exfalso; omega)
    all_goals
      refine COk_quiet Tryd.f4 Tryd.func4 (by kernel_rfl) rfl ?_
      (conv => whnf); repeat (first | (refine ⟨_, _, awake15_ok hm hsc, ?_⟩; conv => whnf) | (refine ⟨_, awake15_ok hm hsc, ?_⟩; conv => whnf) | (refine ⟨_, _, hA, ?_⟩; conv => whnf) | (refine ⟨_, hA, ?_⟩; conv => whnf) | (refine ⟨_, _, hB, ?_⟩; conv => whnf) | (refine ⟨_, hB, ?_⟩; conv => whnf) | (refine ⟨_, _, hC, ?_⟩; conv => whnf) | (refine ⟨_, hC, ?_⟩; conv => whnf) | (refine ⟨_, _, hD, ?_⟩; conv => whnf) | (refine ⟨_, hD, ?_⟩; conv => whnf) | (refine br_d ⟨by omega, by omega, by omega, (by show (8 : Int) * _ ≤ 2 ^ 48; omega)⟩ ?_; conv => whnf) | (refine br_d (by omega) ?_; conv => whnf) | (refine br_nd (by omega) ?_; conv => whnf) | (refine br_eq (by omega) ?_; conv => whnf) | (refine br_neq (by omega) ?_; conv => whnf) | (refine br_ne (by omega) ?_; conv => whnf) | (refine br_no (bo_eqn (by omega)) ?_; conv => whnf) | (refine setB_app ?_; conv => whnf) | (refine setB_app0 ?_; conv => whnf) | (rw [getB_app]; conv => whnf) | (rw [getB_app0]; conv => whnf) | (refine addB_f8 ?_; conv => whnf) | (refine addB_f7 ?_; conv => whnf) | (refine addB_f6 ?_; conv => whnf) | (refine addB_f5 ?_; conv => whnf) | (refine addB_f4 ?_; conv => whnf) | (refine addB_f3 ?_; conv => whnf) | (refine addB_f2 ?_; conv => whnf) | (refine addB_f1 ?_; conv => whnf) | (refine addB_f0 ?_; conv => whnf))
      refine loop_to (fun k => [.sl j1 o1 l1.length, .any, .int .i64 x, .any, .any, .any, .any, .int .i64 p1, I q1, .any, .any, .any, .any, .any, .any, .sl (M.length + 1) 0 l1.length, I k, .any, .any, .any, .any, .any, .any, .any, .any, .any, .any, .any, .any, .any, .any, .any, .any, .any, .any, .any, .any, .any, .any, .any, .any, .any, .any, .any, .any, .any, .any, .any, .any, .any, .any, .any, .any, .any, .any, .any, .any, .any, .any, .any, .any, .any, .any, .any, .any, .any, .any, .any, .any, .any, .any, .any, .any, .any, .any, .any, .any, .any, .any, .any, .any, .any, .any, .any, .any, .any, .any, .any, .any, .any, .any, .any, .any, .any, .any, .any, .any, .any, .any, .any, .any, .any, .any, .any, .any, .any, .any, .any, .any, .any, .any, .any, .any, .any, .any, .any, .any, .any, .any, .any, .any, .any, .any, .any, .any, .any]) (fun k => M ++ [⟨true, .cells (rowI [p1, 0])⟩, ⟨true, .ints .i64 (tab l1.length (movF k fun i => l1.getD (l1.length - 1 - i) 0))⟩]) 0 l1.length (Nat.zero_le _) ?_ ?_ ?_
      · refine Fg.of [] ?_ (by rw [List.append_nil]; exact congrArg (fun L => M ++ [⟨true, .cells (rowI [p1, 0])⟩, ⟨true, .ints .i64 L⟩]) (zero_t l1.length)) (by simp) (by (simp [scL, V.sc]) <;> omega) (scM_app (scM_mono (by simp) _ hsc) rfl)
        conv => whnf
        exact ⟨rfl, rfl, rfl, rfl, rfl, rfl, rfl⟩
      · intro k _ hk
        have hidx : IntKind.i64.wrap (IntKind.i64.wrap ((l1.length : Int) - 1) - (k : Int)) = ((l1.length - 1 - k : Nat) : Int) := by
          rw [wrap_id (n := (l1.length : Int) - 1) (by omega) (by omega), wrap_id (by omega) (by omega)]; omega
        (conv => whnf); repeat (first | (rw [hidx]; conv => whnf) | (refine SlI.at (h1.app _) (i := l1.length - 1 - k) (by omega) rfl ?_; conv => whnf) | (refine br_yes (blt_t hk) ?_; conv => whnf) | (refine setB_as (i64_blk (step3 (fun i => l1.getD (l1.length - 1 - i) 0))) ?_; conv => whnf) | (refine br_d (by omega) ?_; conv => whnf) | (refine br_nd (by omega) ?_; conv => whnf) | (refine br_eq (by omega) ?_; conv => whnf) | (refine br_neq (by omega) ?_; conv => whnf) | (refine br_ne (by omega) ?_; conv => whnf) | (refine br_no (bo_eqn (by omega)) ?_; conv => whnf) | (refine setB_app ?_; conv => whnf) | (refine setB_app0 ?_; conv => whnf) | (rw [getB_app]; conv => whnf) | (rw [getB_app0]; conv => whnf) | (refine addB_f8 ?_; conv => whnf) | (refine addB_f7 ?_; conv => whnf) | (refine addB_f6 ?_; conv => whnf) | (refine addB_f5 ?_; conv => whnf) | (refine addB_f4 ?_; conv => whnf) | (refine addB_f3 ?_; conv => whnf) | (refine addB_f2 ?_; conv => whnf) | (refine addB_f1 ?_; conv => whnf) | (refine addB_f0 ?_; conv => whnf))
        refine Fg.of [] ?_ (by rw [List.append_nil]; rfl) (by simp) (by (simp [scL, V.sc]) <;> omega) (scM_app (scM_mono (by simp) _ hsc) rfl)
        conv => whnf
        exact ⟨rfl, rfl, rfl, rfl, rfl, wrapKL (by omega), rfl⟩
      · (conv => whnf); repeat (first | (refine br_d (by omega) ?_; conv => whnf) | (refine br_nd (by omega) ?_; conv => whnf) | (refine br_eq (by omega) ?_; conv => whnf) | (refine br_neq (by omega) ?_; conv => whnf) | (refine br_ne (by omega) ?_; conv => whnf) | (refine br_no (bo_eqn (by omega)) ?_; conv => whnf) | (refine setB_app ?_; conv => whnf) | (refine setB_app0 ?_; conv => whnf) | (rw [getB_app]; conv => whnf) | (rw [getB_app0]; conv => whnf) | (refine addB_f8 ?_; conv => whnf) | (refine addB_f7 ?_; conv => whnf) | (refine addB_f6 ?_; conv => whnf) | (refine addB_f5 ?_; conv => whnf) | (refine addB_f4 ?_; conv => whnf) | (refine addB_f3 ?_; conv => whnf) | (refine addB_f2 ?_; conv => whnf) | (refine addB_f1 ?_; conv => whnf) | (refine addB_f0 ?_; conv => whnf))
        rw [end3]
        (conv => whnf); repeat (first | (refine ⟨_, _, hE, ?_⟩; conv => whnf) | (refine ⟨_, hE, ?_⟩; conv => whnf) | (refine br_d (by omega) ?_; conv => whnf) | (refine br_nd (by omega) ?_; conv => whnf) | (refine br_eq (by omega) ?_; conv => whnf) | (refine br_neq (by omega) ?_; conv => whnf) | (refine br_ne (by omega) ?_; conv => whnf) | (refine br_no (bo_eqn (by omega)) ?_; conv => whnf) | (refine setB_app ?_; conv => whnf) | (refine setB_app0 ?_; conv => whnf) | (rw [getB_app]; conv => whnf) | (rw [getB_app0]; conv => whnf) | (refine addB_f8 ?_; conv => whnf) | (refine addB_f7 ?_; conv => whnf) | (refine addB_f6 ?_; conv => whnf) | (refine addB_f5 ?_; conv => whnf) | (refine addB_f4 ?_; conv => whnf) | (refine addB_f3 ?_; conv => whnf) | (refine addB_f2 ?_; conv => whnf) | (refine addB_f1 ?_; conv => whnf) | (refine addB_f0 ?_; conv => whnf))
        by_cases hx0 : x = -9223372036854775808
        · (conv => whnf); repeat (first | (refine br_eq hx0 ?_; conv => whnf) | (refine br_d (by omega) ?_; conv => whnf) | (refine br_nd (by omega) ?_; conv => whnf) | (refine br_eq (by omega) ?_; conv => whnf) | (refine br_neq (by omega) ?_; conv => whnf) | (refine br_ne (by omega) ?_; conv => whnf) | (refine br_no (bo_eqn (by omega)) ?_; conv => whnf) | (refine setB_app ?_; conv => whnf) | (refine setB_app0 ?_; conv => whnf) | (rw [getB_app]; conv => whnf) | (rw [getB_app0]; conv => whnf) | (refine addB_f8 ?_; conv => whnf) | (refine addB_f7 ?_; conv => whnf) | (refine addB_f6 ?_; conv => whnf) | (refine addB_f5 ?_; conv => whnf) | (refine addB_f4 ?_; conv => whnf) | (refine addB_f3 ?_; conv => whnf) | (refine addB_f2 ?_; conv => whnf) | (refine addB_f1 ?_; conv => whnf) | (refine addB_f0 ?_; conv => whnf))
          exact ⟨rfl, _, rfl⟩
        · have e0 : IntKind.i64.wrap (0 - x) = -x := neg64 hx hx0
          have hF := hF hx0
          (conv => whnf)
          refine br_neq hx0 ?_
          (conv => whnf)
          rw [e0]
          (conv => whnf); repeat (first | (refine ⟨_, _, hF, ?_⟩; conv => whnf) | (refine ⟨_, hF, ?_⟩; conv => whnf) | (refine br_d (by omega) ?_; conv => whnf) | (refine br_nd (by omega) ?_; conv => whnf) | (refine br_eq (by omega) ?_; conv => whnf) | (refine br_neq (by omega) ?_; conv => whnf) | (refine br_ne (by omega) ?_; conv => whnf) | (refine br_no (bo_eqn (by omega)) ?_; conv => whnf) | (refine setB_app ?_; conv => whnf) | (refine setB_app0 ?_; conv => whnf) | (rw [getB_app]; conv => whnf) | (rw [getB_app0]; conv => whnf) | (refine addB_f8 ?_; conv => whnf) | (refine addB_f7 ?_; conv => whnf) | (refine addB_f6 ?_; conv => whnf) | (refine addB_f5 ?_; conv => whnf) | (refine addB_f4 ?_; conv => whnf) | (refine addB_f3 ?_; conv => whnf) | (refine addB_f2 ?_; conv => whnf) | (refine addB_f1 ?_; conv => whnf) | (refine addB_f0 ?_; conv => whnf))
          first
          | exact ⟨rfl, _, rfl⟩
          | exact ⟨congrArg V.bool (by simp), _, rfl⟩
  · have hj1 := h1.lt
    (try (obtain ⟨rfl, rfl⟩ := hz2 rfl; obtain ⟨rfl, rfl⟩ := hz3 rfl))
    rcases ho with ⟨e1, e2, e3, e4⟩ | ⟨e1, e2⟩ | ⟨e1, e2⟩
    case' inl => obtain ⟨e5, e6⟩ := hcd ⟨e1, e3⟩
    all_goals try (exfalso; omega)
    all_goals
      refine COk_quiet Tryd.f4 Tryd.func4 (by kernel_rfl) rfl ?_
      (conv => whnf); repeat (first | (refine ⟨_, _, awake15_ok hm hsc, ?_⟩; conv => whnf) | (refine ⟨_, awake15_ok hm hsc, ?_⟩; conv => whnf) | (refine ⟨_, _, hA, ?_⟩; conv => whnf) | (refine ⟨_, hA, ?_⟩; conv => whnf) | (refine ⟨_, _, hB, ?_⟩; conv => whnf) | (refine ⟨_, hB, ?_⟩; conv => whnf) | (refine ⟨_, _, hC, ?_⟩; conv => whnf) | (refine ⟨_, hC, ?_⟩; conv => whnf) | (refine ⟨_, _, hD, ?_⟩; conv => whnf) | (refine ⟨_, hD, ?_⟩; conv => whnf) | (refine br_d ⟨by omega, by omega, by omega, (by show (8 : Int) * _ ≤ 2 ^ 48; omega)⟩ ?_; conv => whnf) | (refine br_d (by omega) ?_; conv => whnf) | (refine br_nd (by omega) ?_; conv => whnf) | (refine br_eq (by omega) ?_; conv => whnf) | (refine br_neq (by omega) ?_; conv => whnf) | (refine br_ne (by omega) ?_; conv => whnf) | (refine br_no (bo_eqn (by omega)) ?_; conv => whnf) | (refine setB_app ?_; conv => whnf) | (refine setB_app0 ?_; conv => whnf) | (rw [getB_app]; conv => whnf) | (rw [getB_app0]; conv => whnf) | (refine addB_f8 ?_; conv => whnf) | (refine addB_f7 ?_; conv => whnf) | (refine addB_f6 ?_; conv => whnf) | (refine addB_f5 ?_; conv => whnf) | (refine addB_f4 ?_; conv => whnf) | (refine addB_f3 ?_; conv => whnf) | (refine addB_f2 ?_; conv => whnf) | (refine addB_f1 ?_; conv => whnf) | (refine addB_f0 ?_; conv => whnf))
      refine loop_to (fun k => [.sl j1 o1 l1.length, .any, .int .i64 x, .any, .any, .any, .any, .int .i64 p1, I q1, .any, .any, .any, .any, .any, .any, .sl (M.length + 1) 0 l1.length, I k, .any, .any, .any, .any, .any, .any, .any, .any, .any, .any, .any, .any, .any, .any, .any, .any, .any, .any, .any, .any, .any, .any, .any, .any, .any, .any, .any, .any, .any, .any, .any, .any, .any, .any, .any, .any, .any, .any, .any, .any, .any, .any, .any, .any, .any, .any, .any, .any, .any, .any, .any, .any, .any, .any, .any, .any, .any, .any, .any, .any, .any, .any, .any, .any, .any, .any, .any, .any, .any, .any, .any, .any, .any, .any, .any, .any, .any, .any, .any, .any, .any, .any, .any, .any, .any, .any, .any, .any, .any, .any, .any, .any, .any, .any, .any, .any, .any, .any, .any, .any, .any, .any, .any, .any, .any, .any, .any, .any, .any]) (fun k => M ++ [⟨true, .cells (rowI [p1, p2])⟩, ⟨true, .ints .i64 (tab l1.length (movF k fun i => l1.getD (l1.length - 1 - i) 0))⟩]) 0 l1.length (Nat.zero_le _) ?_ ?_ ?_
      · refine Fg.of [] ?_ (by rw [List.append_nil]; exact congrArg (fun L => M ++ [⟨true, .cells (rowI [p1, p2])⟩, ⟨true, .ints .i64 L⟩]) (zero_t l1.length)) (by simp) (by (simp [scL, V.sc]) <;> omega) (scM_app (scM_mono (by simp) _ hsc) rfl)
        conv => whnf
        exact ⟨rfl, rfl, rfl, rfl, rfl, rfl, rfl⟩
      · intro k _ hk
        have hidx : IntKind.i64.wrap (IntKind.i64.wrap ((l1.length : Int) - 1) - (k : Int)) = ((l1.length - 1 - k : Nat) : Int) := by
          rw [wrap_id (n := (l1.length : Int) - 1) (by omega) (by omega), wrap_id (by omega) (by omega)]; omega
        (conv => whnf); repeat (first | (rw [hidx]; conv => whnf) | (refine SlI.at (h1.app _) (i := l1.length - 1 - k) (by omega) rfl ?_; conv => whnf) | (refine br_yes (blt_t hk) ?_; conv => whnf) | (refine setB_as (i64_blk (step3 (fun i => l1.getD (l1.length - 1 - i) 0))) ?_; conv => whnf) | (refine br_d (by omega) ?_; conv => whnf) | (refine br_nd (by omega) ?_; conv => whnf) | (refine br_eq (by omega) ?_; conv => whnf) | (refine br_neq (by omega) ?_; conv => whnf) | (refine br_ne (by omega) ?_; conv => whnf) | (refine br_no (bo_eqn (by omega)) ?_; conv => whnf) | (refine setB_app ?_; conv => whnf) | (refine setB_app0 ?_; conv => whnf) | (rw [getB_app]; conv => whnf) | (rw [getB_app0]; conv => whnf) | (refine addB_f8 ?_; conv => whnf) | (refine addB_f7 ?_; conv => whnf) | (refine addB_f6 ?_; conv => whnf) | (refine addB_f5 ?_; conv => whnf) | (refine addB_f4 ?_; conv => whnf) | (refine addB_f3 ?_; conv => whnf) | (refine addB_f2 ?_; conv => whnf) | (refine addB_f1 ?_; conv => whnf) | (refine addB_f0 ?_; conv => whnf))
        refine Fg.of [] ?_ (by rw [List.append_nil]; rfl) (by simp) (by (simp [scL, V.sc]) <;> omega) (scM_app (scM_mono (by simp) _ hsc) rfl)
        conv => whnf
        exact ⟨rfl, rfl, rfl, rfl, rfl, wrapKL (by omega), rfl⟩
      · (conv => whnf); repeat (first | (refine br_d (by omega) ?_; conv => whnf) | (refine br_nd (by omega) ?_; conv => whnf) | (refine br_eq (by omega) ?_; conv => whnf) | (refine br_neq (by omega) ?_; conv => whnf) | (refine br_ne (by omega) ?_; conv => whnf) | (refine br_no (bo_eqn (by omega)) ?_; conv => whnf) | (refine setB_app ?_; conv => whnf) | (refine setB_app0 ?_; conv => whnf) | (rw [getB_app]; conv => whnf) | (rw [getB_app0]; conv => whnf) | (refine addB_f8 ?_; conv => whnf) | (refine addB_f7 ?_; conv => whnf) | (refine addB_f6 ?_; conv => whnf) | (refine addB_f5 ?_; conv => whnf) | (refine addB_f4 ?_; conv => whnf) | (refine addB_f3 ?_; conv => whnf) | (refine addB_f2 ?_; conv => whnf) | (refine addB_f1 ?_; conv => whnf) | (refine addB_f0 ?_; conv => whnf))
        rw [end3]
        (conv => whnf); repeat (first | (refine ⟨_, _, hE, ?_⟩; conv => whnf) | (refine ⟨_, hE, ?_⟩; conv => whnf) | (refine br_d (by omega) ?_; conv => whnf) | (refine br_nd (by omega) ?_; conv => whnf) | (refine br_eq (by omega) ?_; conv => whnf) | (refine br_neq (by omega) ?_; conv => whnf) | (refine br_ne (by omega) ?_; conv => whnf) | (refine br_no (bo_eqn (by omega)) ?_; conv => whnf) | (refine setB_app ?_; conv => whnf) | (refine setB_app0 ?_; conv => whnf) | (rw [getB_app]; conv => whnf) | (rw [getB_app0]; conv => whnf) | (refine addB_f8 ?_; conv => whnf) | (refine addB_f7 ?_; conv => whnf) | (refine addB_f6 ?_; conv => whnf) | (refine addB_f5 ?_; conv => whnf) | (refine addB_f4 ?_; conv => whnf) | (refine addB_f3 ?_; conv => whnf) | (refine addB_f2 ?_; conv => whnf) | (refine addB_f1 ?_; conv => whnf) | (refine addB_f0 ?_; conv => whnf))
        by_cases hx0 : x = -9223372036854775808
        · (conv => whnf); repeat (first | (refine br_eq hx0 ?_; conv => whnf) | (refine br_d (by omega) ?_; conv => whnf) | (refine br_nd (by omega) ?_; conv => whnf) | (refine br_eq (by omega) ?_; conv => whnf) | (refine br_neq (by omega) ?_; conv => whnf) | (refine br_ne (by omega) ?_; conv => whnf) | (refine br_no (bo_eqn (by omega)) ?_; conv => whnf) | (refine setB_app ?_; conv => whnf) | (refine setB_app0 ?_; conv => whnf) | (rw [getB_app]; conv => whnf) | (rw [getB_app0]; conv => whnf) | (refine addB_f8 ?_; conv => whnf) | (refine addB_f7 ?_; conv => whnf) | (refine addB_f6 ?_; conv => whnf) | (refine addB_f5 ?_; conv => whnf) | (refine addB_f4 ?_; conv => whnf) | (refine addB_f3 ?_; conv => whnf) | (refine addB_f2 ?_; conv => whnf) | (refine addB_f1 ?_; conv => whnf) | (refine addB_f0 ?_; conv => whnf))
          exact ⟨rfl, _, rfl⟩
        · have e0 : IntKind.i64.wrap (0 - x) = -x := neg64 hx hx0
          have hF := hF hx0
          (conv => whnf)
          refine br_neq hx0 ?_
          (conv => whnf)
          rw [e0]
          (conv => whnf); repeat (first | (refine ⟨_, _, hF, ?_⟩; conv => whnf) | (refine ⟨_, hF, ?_⟩; conv => whnf) | (refine br_d (by omega) ?_; conv => whnf) | (refine br_nd (by omega) ?_; conv => whnf) | (refine br_eq (by omega) ?_; conv => whnf) | (refine br_neq (by omega) ?_; conv => whnf) | (refine br_ne (by omega) ?_; conv => whnf) | (refine br_no (bo_eqn (by omega)) ?_; conv => whnf) | (refine setB_app ?_; conv => whnf) | (refine setB_app0 ?_; conv => whnf) | (rw [getB_app]; conv => whnf) | (rw [getB_app0]; conv => whnf) | (refine addB_f8 ?_; conv => whnf) | (refine addB_f7 ?_; conv => whnf) | (refine addB_f6 ?_; conv => whnf) | (refine addB_f5 ?_; conv => whnf) | (refine addB_f4 ?_; conv => whnf) | (refine addB_f3 ?_; conv => whnf) | (refine addB_f2 ?_; conv => whnf) | (refine addB_f1 ?_; conv => whnf) | (refine addB_f0 ?_; conv => whnf))
          first
          | exact ⟨rfl, _, rfl⟩
          | exact ⟨congrArg V.bool (by simp), _, rfl⟩
end Go.Proofs.YtjpkfdhfofaehaaDoor
