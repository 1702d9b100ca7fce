/- GridBehind says true. No condition. -/
import Derived.Test.YtbfdbpmdibjanaaDoorJ
namespace Go.Proofs.YtbfdbpmdibjanaaDoor
open Go Go.Eng
set_option maxRecDepth 100000
set_option linter.unusedSimpArgs false
set_option linter.unusedVariables false

theorem getB_pre {m : List Blk} (x : List Blk) {i : Nat} (h : i < m.length) : getB (m ++ x) i = getB m i := by
  rw [getB_eq, getB_eq, List.getD_eq_getElem?_getD, List.getD_eq_getElem?_getD, List.getElem?_append_left h]
theorem getB_last2 (m : List Blk) (a b : Blk) : getB (m ++ [a] ++ [b]) m.length = a := by
  rw [getB_pre _ (by simp), getB_last]
theorem getB_last3 (m : List Blk) (a b c : Blk) : getB (m ++ [a] ++ [b] ++ [c]) m.length = a := by
  rw [getB_pre _ (by simp), getB_last2]
theorem tail3 {M z : List Blk} (h : M = GG ([] ++ z)) (a b c : List Blk) : ∃ x, M ++ a ++ b ++ c = GG [] ++ x := ⟨z ++ a ++ b ++ c, by subst h; rfl⟩
theorem bo_ne {a b : Int} (h : a ≠ b) : V.bool (a != b) = Bo true := congrArg V.bool (by simpa using h)
set_option maxHeartbeats 0 in
theorem behind09_ok (side edge : Int) : COk Tryd.prog 3 7 [I side, I edge] (GG []) (Bo true) (GG []) := by
  obtain ⟨n, hn, hn', hnet⟩ := net_at side
  obtain ⟨B, M, hnet, hN, hsc, z, hM⟩ := hnet [] rfl
  have hlen : 1 ≤ (edges n).length ∧ (edges n).length < 9223372036854775808 := by
    have h1 := Nat.mul_pos hn hn
    have h2 : n * n ≤ 32 * 32 := Nat.mul_le_mul hn' hn'
    rw [edges_len hn]; omega
  obtain ⟨r, hr, hwi⟩ := within_ok edge (edges n).length hlen.1 hlen.2
  obtain ⟨⟨a, s, b, t⟩, hx⟩ : ∃ x, (edges n)[r]? = some x := ⟨_, List.getElem?_eq_getElem hr⟩
  obtain ⟨ha, hs, hab, hb, ht, hnb, _⟩ := edge_of hn hx
  simp only at ha hs hab hb ht hnb
  have hbk := nbC_back hn ha hs
  rw [hnb] at hbk
  simp only at hbk
  have hs2 : (s + 2) % 4 < 4 := Nat.mod_lt _ (by decide)
  have ht2 : (t + 2) % 4 < 4 := Nat.mod_lt _ (by decide)
  obtain ⟨e1, y1, w1, hy1, hw1, ho1⟩ := around_at hn ha hs2
  obtain ⟨e2, y2, w2, hy2, hw2, ho2⟩ := around_at hn hb ht2
  have n1 := (nbC_ne hn ha hs2).1
  have n2 := (nbC_ne hn hb ht2).1
  have n3 := (nbC_ne hn ha hs).2
  have n4 := (nbC_ne hn hb ht).2
  rw [hnb] at n3
  rw [hbk] at n4
  simp only at n3 n4
  have hbe := fun m N => behind_ok (m := m) (b := B) N r _ hx
  have hed := fun m N => edge_ok (m := m) (b := B) N r _ hx
  simp only at hbe hed
  generalize nbC n a ((s + 2) % 4) = p1 at *
  generalize nbC n b ((t + 2) % 4) = p2 at *
  obtain ⟨p1, q1⟩ := p1
  obtain ⟨p2, q2⟩ := p2
  simp only at *
  refine COk_quiet Tryd.f7 Tryd.func7 (by kernel_rfl) rfl ?_
  conv => whnf
  refine ⟨_, _, awake09_ok [], ?_⟩
  conv => whnf
  refine ⟨_, _, hnet, ?_⟩
  conv => whnf
  refine ⟨_, _, gedges_ok hN, ?_⟩
  conv => whnf
  refine ⟨_, _, hwi _, ?_⟩
  conv => whnf
  refine ⟨_, _, hed _ hN, ?_⟩
  conv => whnf
  refine addB_of ?_
  conv => whnf
  rw [getB_last]
  conv => whnf
  refine setB_of ?_
  conv => whnf
  refine ⟨_, _, hbe _ (hN.more _), ?_⟩
  conv => whnf
  rw [getB_last]
  conv => whnf
  rw [getB_last]
  conv => whnf
  rw [wrap4 s hs]
  refine ⟨_, _, ho1 _ _ (hN.more _), ?_⟩
  conv => whnf
  refine ⟨_, _, edge_ok (hN.more _) e1 _ hy1, ?_⟩
  conv => whnf
  refine addB_of ?_
  conv => whnf
  rw [getB_last]
  conv => whnf
  refine setB_of ?_
  conv => whnf
  rw [getB_last]
  conv => whnf
  all_goals
    rcases hw1 with ⟨rfl, rfl, _⟩ | ⟨rfl, rfl, _⟩
    all_goals
      rcases hw2 with ⟨rfl, rfl, _⟩ | ⟨rfl, rfl, _⟩
  all_goals conv => whnf
  · rw [getB_last]
    conv => whnf
    rw [getB_last2]
    conv => whnf
    rw [getB_last2]
    conv => whnf
    rw [wrap4 t ht]
    refine ⟨_, _, ho2 _ _ ((hN.more _).more _), ?_⟩
    conv => whnf
    refine ⟨_, _, edge_ok ((hN.more _).more _) e2 _ hy2, ?_⟩
    conv => whnf
    refine addB_of ?_
    conv => whnf
    rw [getB_last]
    conv => whnf
    refine setB_of ?_
    conv => whnf
    rw [getB_last]
    conv => whnf
    rw [getB_last]
    conv => whnf
    refine br_eq rfl ?_
    conv => whnf
    refine br_eq rfl ?_
    conv => whnf
    rw [getB_last3]
    conv => whnf
    refine br_ne (by omega) ?_
    conv => whnf
    rw [getB_last3]
    conv => whnf
    refine br_ne (by omega) ?_
    conv => whnf
    rw [getB_last3]
    conv => whnf
    refine br_ne (by omega) ?_
    conv => whnf
    rw [getB_last3]
    conv => whnf
    exact ⟨bo_ne (by omega), tail3 hM _ _ _⟩
  · rw [getB_last]
    conv => whnf
    rw [getB_last2]
    conv => whnf
    rw [getB_last2]
    conv => whnf
    rw [wrap4 t ht]
    refine ⟨_, _, ho2 _ _ ((hN.more _).more _), ?_⟩
    conv => whnf
    refine ⟨_, _, edge_ok ((hN.more _).more _) e2 _ hy2, ?_⟩
    conv => whnf
    refine addB_of ?_
    conv => whnf
    rw [getB_last]
    conv => whnf
    refine setB_of ?_
    conv => whnf
    rw [getB_last]
    conv => whnf
    refine br_eq rfl ?_
    conv => whnf
    refine br_eq rfl ?_
    conv => whnf
    rw [getB_last3]
    conv => whnf
    refine br_ne (by omega) ?_
    conv => whnf
    rw [getB_last3]
    conv => whnf
    refine br_ne (by omega) ?_
    conv => whnf
    rw [getB_last3]
    conv => whnf
    refine br_ne (by omega) ?_
    conv => whnf
    rw [getB_last3]
    conv => whnf
    exact ⟨bo_ne (by omega), tail3 hM _ _ _⟩
  · rw [getB_last2]
    conv => whnf
    rw [getB_last2]
    conv => whnf
    rw [wrap4 t ht]
    refine ⟨_, _, ho2 _ _ ((hN.more _).more _), ?_⟩
    conv => whnf
    refine ⟨_, _, edge_ok ((hN.more _).more _) e2 _ hy2, ?_⟩
    conv => whnf
    refine addB_of ?_
    conv => whnf
    rw [getB_last]
    conv => whnf
    refine setB_of ?_
    conv => whnf
    rw [getB_last]
    conv => whnf
    rw [getB_last]
    conv => whnf
    refine br_eq rfl ?_
    conv => whnf
    refine br_eq rfl ?_
    conv => whnf
    rw [getB_last3]
    conv => whnf
    refine br_ne (by omega) ?_
    conv => whnf
    rw [getB_last3]
    conv => whnf
    refine br_ne (by omega) ?_
    conv => whnf
    rw [getB_last3]
    conv => whnf
    refine br_ne (by omega) ?_
    conv => whnf
    rw [getB_last3]
    conv => whnf
    exact ⟨bo_ne (by omega), tail3 hM _ _ _⟩
  · rw [getB_last2]
    conv => whnf
    rw [getB_last2]
    conv => whnf
    rw [wrap4 t ht]
    refine ⟨_, _, ho2 _ _ ((hN.more _).more _), ?_⟩
    conv => whnf
    refine ⟨_, _, edge_ok ((hN.more _).more _) e2 _ hy2, ?_⟩
    conv => whnf
    refine addB_of ?_
    conv => whnf
    rw [getB_last]
    conv => whnf
    refine setB_of ?_
    conv => whnf
    rw [getB_last]
    conv => whnf
    refine br_eq rfl ?_
    conv => whnf
    refine br_eq rfl ?_
    conv => whnf
    rw [getB_last3]
    conv => whnf
    refine br_ne (by omega) ?_
    conv => whnf
    rw [getB_last3]
    conv => whnf
    refine br_ne (by omega) ?_
    conv => whnf
    rw [getB_last3]
    conv => whnf
    refine br_ne (by omega) ?_
    conv => whnf
    rw [getB_last3]
    conv => whnf
    exact ⟨bo_ne (by omega), tail3 hM _ _ _⟩
end Go.Proofs.YtbfdbpmdibjanaaDoor
