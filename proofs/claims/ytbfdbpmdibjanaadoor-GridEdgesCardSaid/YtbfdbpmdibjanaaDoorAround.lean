/- The contract of GridAround: it says true. No condition. -/
import Derived.Test.YtbfdbpmdibjanaaDoorBehind
namespace Go.Proofs.YtbfdbpmdibjanaaDoor
open Go Go.Eng
set_option maxRecDepth 100000
set_option linter.unusedSimpArgs false
set_option linter.unusedVariables false

theorem beside_m {n c s : Nat} (hn : 1 ≤ n) (hn' : n ≤ 32) (h : c < 6 * (n * n)) (hs : s < 4) {m : List Blk} (hm : ∃ x, m = GG x) :
    COk Tryd.prog 3 14 [I n, I c, I s] m (.tup [I (nbC n c s).1, I (nbC n c s).2]) m := by
  obtain ⟨x, rfl⟩ := hm
  exact beside_c hn hn' h hs x
/-- Two sides of one cell under one number are one side. -/
theorem around_one {n c s t : Nat} (hn : 1 ≤ n) (hc : c < 6 * (n * n)) (hs : s < 4) (ht : t < 4) {y : Ed}
    (h1 : y = (c, s, (nbC n c s).1, (nbC n c s).2) ∨ y = ((nbC n c s).1, (nbC n c s).2, c, s)) (h2 : y = (c, t, (nbC n c t).1, (nbC n c t).2) ∨ y = ((nbC n c t).1, (nbC n c t).2, c, t)) : t = s := by
  have n1 := (nbC_ne hn hc hs).1
  have n2 := (nbC_ne hn hc ht).1
  rcases h1 with rfl | rfl <;> rcases h2 with h | h <;> simp only [Prod.mk.injEq] at h <;> omega
theorem bo_eq {a b : Int} (h : a = b) : (a != b) = false := by simp [h]
theorem tail1 {M z : List Blk} (h : M = GG ([] ++ z)) (a : List Blk) : ∃ x, M ++ a = GG [] ++ x := ⟨z ++ a, by subst h; rfl⟩
set_option maxHeartbeats 0 in
theorem around09_ok (side cell over : Int) : COk Tryd.prog 3 9 [I side, I cell, I over] (GG []) (Bo true) (GG []) := by
  obtain ⟨n, hn, hn', hnet⟩ := net_at side
  obtain ⟨B, M, hnet, hN, hsc, z, hM⟩ := hnet [] rfl
  have h1 := Nat.mul_pos hn hn
  have h2 : n * n ≤ 32 * 32 := Nat.mul_le_mul hn' hn'
  have hel := edges_len hn
  obtain ⟨c, hc, hwc⟩ := within_ok cell (6 * (n * n)) (by omega) (by omega)
  obtain ⟨s, hs, hws⟩ := within_ok over 4 (by omega) (by omega)
  obtain ⟨e, y, w, hy, hw, ho⟩ := around_at hn hc hs
  have he : e < (edges n).length := (List.getElem?_eq_some_iff.1 hy).1
  have n1 := (nbC_ne hn hc hs).1
  obtain ⟨hp, hq⟩ := nbC_lt (s := s) hn hc
  have hb := nbC_back hn hc hs
  have hwy : (y = (c, s, (nbC n c s).1, (nbC n c s).2) ∨ y = ((nbC n c s).1, (nbC n c s).2, c, s)) := hw.elim (fun h => .inl h.2.1) (fun h => .inr h.2.1)
  have hA1 : ∀ t, t < 4 → ∀ y', (edges n)[e]? = some y' → (y' = (c, t, (nbC n c t).1, (nbC n c t).2) ∨ y' = ((nbC n c t).1, (nbC n c t).2, c, t)) → t = s := by
    intro t ht y1 hy1 h
    rw [hy] at hy1
    cases hy1
    exact around_one hn hc hs ht hwy h
  obtain ⟨e', y', w', hy', hw', ho'⟩ := around_at hn hp hq
  have hA2 : ∀ t, t < 4 → ∀ y', (edges n)[e]? = some y' → (y' = ((nbC n c s).1, t, (nbC n (nbC n c s).1 t).1, (nbC n (nbC n c s).1 t).2) ∨ y' = ((nbC n (nbC n c s).1 t).1, (nbC n (nbC n c s).1 t).2, (nbC n c s).1, t)) → t = (nbC n c s).2 := by
    intro t ht y1 hy1 h
    rw [hy] at hy1
    cases hy1
    refine around_one hn hp hq ht ?_ h
    rw [hb]
    exact hwy.symm
  have hee : e' = e ∧ w' = -w ∧ (w = 1 ∨ w = -1) := by
    obtain ⟨k1, k2⟩ := num_left hn hy
    obtain ⟨k3, k4⟩ := num_left hn hy'
    rw [hb] at hw'
    rcases hw with ⟨rfl, rfl, _⟩ | ⟨rfl, rfl, _⟩ <;> rcases hw' with ⟨rfl, rfl, _⟩ | ⟨rfl, rfl, _⟩ <;> simp only at *
    · omega
    · rw [k1] at k3
      exact ⟨(Int.ofNat.inj (Option.some.inj k3)).symm, by first | trivial | rfl, by first | trivial | decide⟩
    · rw [k1] at k3
      exact ⟨(Int.ofNat.inj (Option.some.inj k3)).symm, by first | trivial | rfl, by first | trivial | decide⟩
    · omega
  obtain ⟨rfl, rfl, hww⟩ := hee
  have hby := fun m hm => beside_m (m := m) hn hn' hc hs hm
  generalize nbC n c s = p at *
  obtain ⟨p, q⟩ := p
  simp only at *
  refine COk_quiet Tryd.f9 Tryd.func9 (by kernel_rfl) rfl ?_
  conv => whnf
  refine ⟨_, _, awake09_ok [], ?_⟩
  conv => whnf
  refine ⟨_, _, hnet, ?_⟩
  conv => whnf
  refine ⟨_, _, gcells_ok hN, ?_⟩
  conv => whnf
  refine ⟨_, _, hwc _, ?_⟩
  conv => whnf
  refine ⟨_, _, hws _, ?_⟩
  conv => whnf
  refine ⟨_, _, ho _ _ hN, ?_⟩
  conv => whnf
  refine ⟨_, _, edge_ok hN e' _ hy, ?_⟩
  conv => whnf
  refine addB_of ?_
  conv => whnf
  rw [getB_last]
  conv => whnf
  refine setB_of ?_
  conv => whnf
  refine ⟨_, _, side_ok (hN.more _), ?_⟩
  conv => whnf
  refine ⟨_, _, hby _ ⟨_, by rw [hM]; rfl⟩, ?_⟩
  conv => whnf
  refine ⟨_, _, ho' _ _ (hN.more _), ?_⟩
  conv => whnf
  refine br_no (bo_eq rfl) ?_
  conv => whnf
  rcases hw with ⟨rfl, rfl, hlt⟩ | ⟨rfl, rfl, hlt⟩ <;> conv => whnf
  · skip
    rw [getB_last]
    conv => whnf
    refine br_no (bo_eq rfl) ?_
    conv => whnf
    rw [getB_last]
    conv => whnf
    refine br_no (bo_eq rfl) ?_
    conv => whnf
    rw [getB_last]
    conv => whnf
    refine br_no (bo_eq rfl) ?_
    conv => whnf
    rw [getB_last]
    conv => whnf
    refine br_no (bo_eq rfl) ?_
    conv => whnf
    refine loop_to (fun k => [.any, .any, .any, .any, .any, .any, .any, .ptr (B + 1) 0, I c, I s, I e', .any, .any, .any, I p, I q, .any, .any, I k, .any, .any, .any, .any, .any, .any, .any, .any, .any, .any, .any, .any, .any, .any, .any, .any, .any, .any, .any, .any, .any, .any, .any, .any, .any, .any, .any, .any, .any, .any, .any, .any, .any, .any, .any, .any, .any, .any, .any, .any, .any, .any, .any, .any, .any, .any, .any, .any, .any, .any, .any, .any, .any, .any, .any, .any, .any, .any, .any, .any, .any, .any, .any, .any, .any, .any, .any, .any, .any, .any, .any, .any, .any, .any, .any, .any, .any, .any, .any, .any, .any, .any, .any, .any, .any, .any, .any, .any, .any, .any, .any, .any, .any, .any, .any, .any, .any, .any, .any, .any, .any, .any, .any, .any, .any, .any, .any, .any, .any, .any, .any, .any, .any, .any, .any, .any, .any, .any, .any, .any, .any, .any, .any, .any, .any, .any, .any, .any, .any, .any, .any, .any, .any, .any, .any, .any, .any, .any, .any, .any, .any, .any, .any, .any, .any, .any, .any, .any, .any, .any, .any, .any, .any, .any, .any]) (fun _ => M ++ [⟨true, .cells [I c, I s, I p, I q]⟩]) 0 4 (by decide) ?_ ?_ ?_
    · refine Fg.of [] ?_ (by rw [List.append_nil]; rfl) (by simp) (by have := hN.lt; simp [scL, V.sc]; omega) (scM_app (scM_mono (by simp) _ hsc) rfl)
      conv => whnf
      exact ⟨rfl, rfl, rfl, rfl, rfl, rfl, rfl, rfl⟩
    · intro k _ hk
      obtain ⟨e1, y1, w1, hy1, hw1, ho1⟩ := around_at hn hc hk
      obtain ⟨e2, y2, w2, hy2, hw2, ho2⟩ := around_at hn hp hk
      have c1 : (e1 : Int) = e' → k = s := fun h => by
        obtain rfl : e1 = e' := by omega
        exact hA1 k hk y1 hy1 (hw1.elim (fun h => .inl h.2.1) (fun h => .inr h.2.1))
      have c2 : (e2 : Int) = e' → k = q := fun h => by
        obtain rfl : e2 = e' := by omega
        exact hA2 k hk y2 hy2 (hw2.elim (fun h => .inl h.2.1) (fun h => .inr h.2.1))
      conv => whnf
      refine br_d (by omega) ?_
      conv => whnf
      refine ⟨_, _, ho1 _ _ (hN.more _), ?_⟩
      conv => whnf
      refine ⟨_, _, ho2 _ _ (hN.more _), ?_⟩
      conv => whnf
      refine br_intro (fun h1 => ?_) (fun h1 => ?_) <;> conv => whnf
      · have hks := c1 (by simpa using h1)
        refine br_no (bo_eq (by omega)) ?_
        conv => whnf
        refine br_intro (fun h2 => ?_) (fun h2 => ?_) <;> conv => whnf
        · have hkq := c2 (by simpa using h2)
          refine br_no (bo_eq (by omega)) ?_
          conv => whnf
          refine Fg.of [] ?_ (by rw [List.append_nil]) (by simp) (by have := hN.lt; simp [scL, V.sc]; omega) (scM_app (scM_mono (by simp) _ hsc) rfl)
          conv => whnf
          exact ⟨rfl, rfl, rfl, rfl, rfl, rfl, wrapKV (by omega), rfl⟩
        · refine Fg.of [] ?_ (by rw [List.append_nil]) (by simp) (by have := hN.lt; simp [scL, V.sc]; omega) (scM_app (scM_mono (by simp) _ hsc) rfl)
          conv => whnf
          exact ⟨rfl, rfl, rfl, rfl, rfl, rfl, wrapKV (by omega), rfl⟩
      · refine br_intro (fun h2 => ?_) (fun h2 => ?_) <;> conv => whnf
        · have hkq := c2 (by simpa using h2)
          refine br_no (bo_eq (by omega)) ?_
          conv => whnf
          refine Fg.of [] ?_ (by rw [List.append_nil]) (by simp) (by have := hN.lt; simp [scL, V.sc]; omega) (scM_app (scM_mono (by simp) _ hsc) rfl)
          conv => whnf
          exact ⟨rfl, rfl, rfl, rfl, rfl, rfl, wrapKV (by omega), rfl⟩
        · refine Fg.of [] ?_ (by rw [List.append_nil]) (by simp) (by have := hN.lt; simp [scL, V.sc]; omega) (scM_app (scM_mono (by simp) _ hsc) rfl)
          conv => whnf
          exact ⟨rfl, rfl, rfl, rfl, rfl, rfl, wrapKV (by omega), rfl⟩
    · conv => whnf
      exact ⟨rfl, tail1 hM _⟩
  · skip
    rw [getB_last]
    conv => whnf
    refine br_no (bo_eq rfl) ?_
    conv => whnf
    rw [getB_last]
    conv => whnf
    refine br_no (bo_eq rfl) ?_
    conv => whnf
    rw [getB_last]
    conv => whnf
    refine br_no (bo_eq rfl) ?_
    conv => whnf
    rw [getB_last]
    conv => whnf
    refine br_no (bo_eq rfl) ?_
    conv => whnf
    refine loop_to (fun k => [.any, .any, .any, .any, .any, .any, .any, .ptr (B + 1) 0, I c, I s, I e', .any, .any, .any, I p, I q, .any, .any, I k, .any, .any, .any, .any, .any, .any, .any, .any, .any, .any, .any, .any, .any, .any, .any, .any, .any, .any, .any, .any, .any, .any, .any, .any, .any, .any, .any, .any, .any, .any, .any, .any, .any, .any, .any, .any, .any, .any, .any, .any, .any, .any, .any, .any, .any, .any, .any, .any, .any, .any, .any, .any, .any, .any, .any, .any, .any, .any, .any, .any, .any, .any, .any, .any, .any, .any, .any, .any, .any, .any, .any, .any, .any, .any, .any, .any, .any, .any, .any, .any, .any, .any, .any, .any, .any, .any, .any, .any, .any, .any, .any, .any, .any, .any, .any, .any, .any, .any, .any, .any, .any, .any, .any, .any, .any, .any, .any, .any, .any, .any, .any, .any, .any, .any, .any, .any, .any, .any, .any, .any, .any, .any, .any, .any, .any, .any, .any, .any, .any, .any, .any, .any, .any, .any, .any, .any, .any, .any, .any, .any, .any, .any, .any, .any, .any, .any, .any, .any, .any, .any, .any, .any, .any, .any, .any]) (fun _ => M ++ [⟨true, .cells [I p, I q, I c, I s]⟩]) 0 4 (by decide) ?_ ?_ ?_
    · refine Fg.of [] ?_ (by rw [List.append_nil]; rfl) (by simp) (by have := hN.lt; simp [scL, V.sc]; omega) (scM_app (scM_mono (by simp) _ hsc) rfl)
      conv => whnf
      exact ⟨rfl, rfl, rfl, rfl, rfl, rfl, rfl, rfl⟩
    · intro k _ hk
      obtain ⟨e1, y1, w1, hy1, hw1, ho1⟩ := around_at hn hc hk
      obtain ⟨e2, y2, w2, hy2, hw2, ho2⟩ := around_at hn hp hk
      have c1 : (e1 : Int) = e' → k = s := fun h => by
        obtain rfl : e1 = e' := by omega
        exact hA1 k hk y1 hy1 (hw1.elim (fun h => .inl h.2.1) (fun h => .inr h.2.1))
      have c2 : (e2 : Int) = e' → k = q := fun h => by
        obtain rfl : e2 = e' := by omega
        exact hA2 k hk y2 hy2 (hw2.elim (fun h => .inl h.2.1) (fun h => .inr h.2.1))
      conv => whnf
      refine br_d (by omega) ?_
      conv => whnf
      refine ⟨_, _, ho1 _ _ (hN.more _), ?_⟩
      conv => whnf
      refine ⟨_, _, ho2 _ _ (hN.more _), ?_⟩
      conv => whnf
      refine br_intro (fun h1 => ?_) (fun h1 => ?_) <;> conv => whnf
      · have hks := c1 (by simpa using h1)
        refine br_no (bo_eq (by omega)) ?_
        conv => whnf
        refine br_intro (fun h2 => ?_) (fun h2 => ?_) <;> conv => whnf
        · have hkq := c2 (by simpa using h2)
          refine br_no (bo_eq (by omega)) ?_
          conv => whnf
          refine Fg.of [] ?_ (by rw [List.append_nil]) (by simp) (by have := hN.lt; simp [scL, V.sc]; omega) (scM_app (scM_mono (by simp) _ hsc) rfl)
          conv => whnf
          exact ⟨rfl, rfl, rfl, rfl, rfl, rfl, wrapKV (by omega), rfl⟩
        · refine Fg.of [] ?_ (by rw [List.append_nil]) (by simp) (by have := hN.lt; simp [scL, V.sc]; omega) (scM_app (scM_mono (by simp) _ hsc) rfl)
          conv => whnf
          exact ⟨rfl, rfl, rfl, rfl, rfl, rfl, wrapKV (by omega), rfl⟩
      · refine br_intro (fun h2 => ?_) (fun h2 => ?_) <;> conv => whnf
        · have hkq := c2 (by simpa using h2)
          refine br_no (bo_eq (by omega)) ?_
          conv => whnf
          refine Fg.of [] ?_ (by rw [List.append_nil]) (by simp) (by have := hN.lt; simp [scL, V.sc]; omega) (scM_app (scM_mono (by simp) _ hsc) rfl)
          conv => whnf
          exact ⟨rfl, rfl, rfl, rfl, rfl, rfl, wrapKV (by omega), rfl⟩
        · refine Fg.of [] ?_ (by rw [List.append_nil]) (by simp) (by have := hN.lt; simp [scL, V.sc]; omega) (scM_app (scM_mono (by simp) _ hsc) rfl)
          conv => whnf
          exact ⟨rfl, rfl, rfl, rfl, rfl, rfl, wrapKV (by omega), rfl⟩
    · conv => whnf
      exact ⟨rfl, tail1 hM _⟩
end Go.Proofs.YtbfdbpmdibjanaaDoor
