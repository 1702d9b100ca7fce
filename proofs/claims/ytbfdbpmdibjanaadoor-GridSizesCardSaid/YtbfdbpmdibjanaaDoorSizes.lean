/- The contract of GridSizes: it says true. No condition. -/
import Derived.Test.YtbfdbpmdibjanaaDoorBehind
import Derived.Test.YtbfdbpmdibjanaaDoorFm
namespace Go.Proofs.YtbfdbpmdibjanaaDoor
open Go Go.Eng
set_option maxRecDepth 100000
set_option linter.unusedSimpArgs false
set_option linter.unusedVariables false

theorem area_m {n c : Nat} (hn : 1 ≤ n) (hn' : n ≤ 32) (h : c < 6 * (n * n)) {m : List Blk} (hm : ∃ x, m = GG x) : COk Tryd.prog 3 22 [I n, I c] m (I (areaC n c)) m := by
  obtain ⟨x, rfl⟩ := hm
  exact area_c hn hn' h x
theorem len_m {n c s : Nat} (hn : 1 ≤ n) (hn' : n ≤ 32) (h : c < 6 * (n * n)) (hs : s < 4) {m : List Blk} (hm : ∃ x, m = GG x) : COk Tryd.prog 3 17 [I n, I c, I s] m (F (lenC n c s)) m := by
  obtain ⟨x, rfl⟩ := hm
  exact len_c hn hn' h hs x
theorem gap_m {n c s : Nat} (hn : 1 ≤ n) (hn' : n ≤ 32) (h : c < 6 * (n * n)) (hs : s < 4) {m : List Blk} (hm : ∃ x, m = GG x) : COk Tryd.prog 3 19 [I n, I c, I s] m (F (gapC n c s)) m := by
  obtain ⟨x, rfl⟩ := hm
  exact gap_c hn hn' h hs x
theorem lenC_nb {n c s : Nat} (hn : 1 ≤ n) (hn' : n ≤ 32) (hc : c < 6 * (n * n)) (hs : s < 4) : lenC n (nbC n c s).1 (nbC n c s).2 = lenC n c s ∧ gapC n (nbC n c s).1 (nbC n c s).2 = gapC n c s := by
  obtain ⟨h0, h1, h2, h3⟩ := cell_parts hn hc
  obtain ⟨k1, k2, k3, k4⟩ := nb_lt (s := s) h1 h2 h3
  obtain ⟨p1, p2, p3⟩ := cellN_parts (f := (nb n (c / (n * n)) (c % n) (c / n % n) s).1) k2 k3
  have e1 := lenS_nb hn hn' h1 h2 h3 hs
  have e2 := gapS_nb hn hn' h1 h2 h3 hs
  unfold lenC gapC nbC
  simp only
  rw [p1, p2, p3]
  exact ⟨e1, e2⟩
theorem tail1' {M z : List Blk} (h : M = GG ([] ++ z)) (a : List Blk) : ∃ x, M ++ a = GG [] ++ x := ⟨z ++ a, by subst h; rfl⟩
theorem bo_same (a : Int) : (a != a) = false := by simp
theorem same_yes (a : Nat) (m : List Blk) : COk Tryd.prog 3 20 [F a, F a] m (Bo true) m := by
  have := same_ok a a m
  rwa [decide_eq_true rfl] at this
set_option maxHeartbeats 0 in
theorem sizes09_ok (side edge cell : Int) : COk Tryd.prog 3 10 [I side, I edge, I cell] (GG []) (Bo true) (GG []) := by
  obtain ⟨n, hn, hn', hnet⟩ := net_at side
  obtain ⟨B, M, hnet, hN, hsc, z, hM⟩ := hnet [] rfl
  have h1 := Nat.mul_pos hn hn
  have h2 : n * n ≤ 32 * 32 := Nat.mul_le_mul hn' hn'
  have hel := edges_len hn
  obtain ⟨r, hr, hwi⟩ := within_ok edge (edges n).length (by omega) (by omega)
  obtain ⟨c, hc, hwc⟩ := within_ok cell (6 * (n * n)) (by omega) (by omega)
  obtain ⟨⟨a, s, b, t⟩, hx⟩ : ∃ x, (edges n)[r]? = some x := ⟨_, List.getElem?_eq_getElem hr⟩
  obtain ⟨ha, hs, hab, hb, ht, hnb, _⟩ := edge_of hn hx
  simp only at ha hs hab hb ht hnb
  obtain ⟨q1, q2⟩ := lenC_nb hn hn' ha hs
  rw [hnb] at q1 q2
  simp only at q1 q2
  obtain ⟨h0', c1, c2, c3⟩ := cell_parts hn ha
  have hl0 : fgt (some (lenC n a s)) (some 0) = true := fgt_0 (lenS_ne hn hn' c2 c3).1 (lenS_ne hn hn' c2 c3).2
  have hg0 : fgt (some (gapC n a s)) (some 0) = true := fgt_0 (gapS_ne hn hn' c1 c2 c3 hs).1 (gapS_ne hn hn' c1 c2 c3 hs).2
  have har := areaT_pos n (c / (n * n)) (c % n) (c / n % n)
  have har : 1 ≤ areaC n c := har
  have hed := fun m N => edge_ok (m := m) (b := B) N r _ hx
  have hgl := fun m N => glength_ok (m := m) (b := B) N r _ hx
  have hgg := fun m N => ggap_ok (m := m) (b := B) N r _ hx
  have hga := fun m N => area_ok (m := m) (b := B) N c hc
  have hA := fun m hm => area_m (m := m) hn hn' hc hm
  have hL := fun m hm => len_m (m := m) hn hn' ha hs hm
  have hL' := fun m hm => len_m (m := m) hn hn' hb ht hm
  have hG := fun m hm => gap_m (m := m) hn hn' ha hs hm
  have hG' := fun m hm => gap_m (m := m) hn hn' hb ht hm
  rw [q1] at hL'
  rw [q2] at hG'
  simp only [lnE, gpE] at hed hgl hgg
  generalize areaC n c = ar at *
  generalize lenC n a s = ln at *
  generalize gapC n a s = gp at *
  refine COk_quiet Tryd.f10 Tryd.func10 (by kernel_rfl) rfl ?_
  conv => whnf
  refine ⟨_, _, awake09_ok [], ?_⟩
  conv => whnf
  refine ⟨_, _, hnet, ?_⟩
  conv => whnf
  refine ⟨_, _, side_ok hN, ?_⟩
  conv => whnf
  refine ⟨_, _, gedges_ok hN, ?_⟩
  conv => whnf
  refine ⟨_, _, hwi _, ?_⟩
  conv => whnf
  refine ⟨_, _, gcells_ok hN, ?_⟩
  conv => whnf
  refine ⟨_, _, hwc _, ?_⟩
  conv => whnf
  refine ⟨_, _, hed _ hN, ?_⟩
  conv => whnf
  refine addB_of ?_
  conv => whnf
  rw [getB_last]
  conv => whnf
  refine setB_of ?_
  conv => whnf
  refine ⟨_, _, hga _ (hN.more _), ?_⟩
  conv => whnf
  refine ⟨_, _, hA _ ⟨_, by rw [hM]; rfl⟩, ?_⟩
  conv => whnf
  refine br_no (bo_same _) ?_
  conv => whnf
  refine ⟨_, _, hga _ (hN.more _), ?_⟩
  conv => whnf
  refine br_nd (by omega) ?_
  conv => whnf
  refine ⟨_, _, hgl _ (hN.more _), ?_⟩
  conv => whnf
  refine br_no (by rw [hl0]; rfl) ?_
  conv => whnf
  refine ⟨_, _, hgg _ (hN.more _), ?_⟩
  conv => whnf
  refine br_no (by rw [hg0]; rfl) ?_
  conv => whnf
  refine ⟨_, hgl _ (hN.more _), ?_⟩
  conv => whnf
  rw [getB_last]
  conv => whnf
  rw [getB_last]
  conv => whnf
  refine ⟨_, hL _ ⟨_, by rw [hM]; rfl⟩, ?_⟩
  conv => whnf
  refine ⟨_, same_yes _ _, ?_⟩
  conv => whnf
  refine ⟨_, hgl _ (hN.more _), ?_⟩
  conv => whnf
  rw [getB_last]
  conv => whnf
  rw [getB_last]
  conv => whnf
  refine ⟨_, hL' _ ⟨_, by rw [hM]; rfl⟩, ?_⟩
  conv => whnf
  refine ⟨_, same_yes _ _, ?_⟩
  conv => whnf
  refine ⟨_, hgg _ (hN.more _), ?_⟩
  conv => whnf
  rw [getB_last]
  conv => whnf
  rw [getB_last]
  conv => whnf
  refine ⟨_, hG _ ⟨_, by rw [hM]; rfl⟩, ?_⟩
  conv => whnf
  refine ⟨_, same_yes _ _, ?_⟩
  conv => whnf
  refine ⟨_, hgg _ (hN.more _), ?_⟩
  conv => whnf
  rw [getB_last]
  conv => whnf
  rw [getB_last]
  conv => whnf
  refine ⟨_, hG' _ ⟨_, by rw [hM]; rfl⟩, ?_⟩
  conv => whnf
  refine ⟨_, same_yes _ _, ?_⟩
  conv => whnf
  exact ⟨rfl, tail1' hM _⟩
end Go.Proofs.YtbfdbpmdibjanaaDoor
