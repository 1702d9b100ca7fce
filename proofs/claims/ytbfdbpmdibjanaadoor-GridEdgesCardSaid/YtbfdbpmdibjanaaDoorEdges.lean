/- The contract of GridEdges: it says true. No condition. -/
import Derived.Test.YtbfdbpmdibjanaaDoorAround
namespace Go.Proofs.YtbfdbpmdibjanaaDoor
open Go Go.Eng
set_option maxRecDepth 100000
set_option linter.unusedSimpArgs false
set_option linter.unusedVariables false

/-- An edge that comes ahead in order of its cell and side has the smaller number. -/
theorem iC_lt {n c s d t : Nat} (hs : s < 4) (h : c < (nbC n c s).1) (hl : c < d ∨ (c = d ∧ s < t)) : iC n c s < iC n d t := by
  have e0 : (esS n c (s + 1)).length = (esS n c s).length + 1 := by
    show (esS n c s ++ esC n c s).length = _
    rw [List.length_append]
    unfold esC
    rw [if_neg (by omega)]; rfl
  obtain ⟨q, hq⟩ := esS_pre n c (s + 1) 4 hs
  unfold iC
  rcases hl with hl | ⟨rfl, hl⟩
  · obtain ⟨r, hr⟩ := esU_pre n (c + 1) d hl
    have e1 : (esU n (c + 1)).length = (esU n c).length + (esS n c 4).length := by
      show (esU n c ++ esS n c 4).length = _
      rw [List.length_append]
    have e2 := congrArg List.length hr
    have e3 := congrArg List.length hq
    simp only [List.length_append] at e2 e3
    omega
  · obtain ⟨r, hr⟩ := esS_pre n c (s + 1) t hl
    have e2 := congrArg List.length hr
    simp only [List.length_append] at e2
    omega
/-- No edge lies between one and the next. -/
theorem edge_next {n k : Nat} (hn : 1 ≤ n) {x y : Ed} (hx : (edges n)[k]? = some x) (hy : (edges n)[k + 1]? = some y) :
    (x.1 < y.1 ∨ (x.1 = y.1 ∧ x.2.1 < y.2.1)) ∧ ∀ c t, t < 4 → (x.1 < c ∨ (x.1 = c ∧ x.2.1 < t)) → (c < y.1 ∨ (c = y.1 ∧ t < y.2.1)) → ¬ c < (nbC n c t).1 := by
  obtain ⟨a1, a2, a3, a4, a5, a6, a7⟩ := edge_of hn hx
  obtain ⟨b1, b2, b3, b4, b5, b6, b7⟩ := edge_of hn hy
  have ha : x.1 < (nbC n x.1 x.2.1).1 := by rw [a6]; exact a3
  have hb : y.1 < (nbC n y.1 y.2.1).1 := by rw [b6]; exact b3
  refine ⟨?_, fun c t ht h1 h2 h => ?_⟩
  · rcases (by omega : (x.1 < y.1 ∨ (x.1 = y.1 ∧ x.2.1 < y.2.1)) ∨ (y.1 < x.1 ∨ (y.1 = x.1 ∧ y.2.1 < x.2.1)) ∨ (y.1 = x.1 ∧ y.2.1 = x.2.1)) with h | h | ⟨h, h'⟩
    · exact h
    · have := iC_lt b2 hb h
      omega
    · rw [h, h'] at b7; omega
  · have k1 := iC_lt a2 ha h1
    have k2 := iC_lt ht h h2
    omega
theorem edge_first {n : Nat} (hn : 1 ≤ n) {x : Ed} (hx : (edges n)[0]? = some x) : x.1 = 0 ∧ x.2.1 = 0 := by
  obtain ⟨a1, a2, a3, a4, a5, a6, a7⟩ := edge_of hn hx
  have h1 := Nat.mul_pos hn hn
  have n0 := (nbC_ne (c := 0) (s := 0) hn (by omega) (by decide)).1
  rcases (by omega : (x.1 = 0 ∧ x.2.1 = 0) ∨ (0 < x.1 ∨ (0 = x.1 ∧ 0 < x.2.1))) with h | h
  · exact h
  · have := iC_lt (n := n) (c := 0) (s := 0) (by decide) (by omega) h
    omega
theorem tail2 {M z : List Blk} (h : M = GG ([] ++ z)) (a b : List Blk) : ∃ x, M ++ a ++ b = GG [] ++ x := ⟨z ++ a ++ b, by subst h; rfl⟩
set_option maxHeartbeats 0 in
theorem edges09_ok (side edge : Int) : COk Tryd.prog 3 8 [I side, I edge] (GG []) (Bo true) (GG []) := by
  obtain ⟨n, hn, hn', hnet⟩ := net_at side
  obtain ⟨B, M, hnet, hN, hsc, z, hM⟩ := hnet [] rfl
  have h1 := Nat.mul_pos hn hn
  have h2 : n * n ≤ 32 * 32 := Nat.mul_le_mul hn' hn'
  have hel := edges_len hn
  obtain ⟨r, hr, hwi⟩ := within_ok edge (edges n).length (by omega) (by omega)
  obtain ⟨⟨a, s, b, t⟩, hx⟩ : ∃ x, (edges n)[r]? = some x := ⟨_, List.getElem?_eq_getElem hr⟩
  obtain ⟨ha, hs, hab, hb, ht, hnb, _⟩ := edge_of hn hx
  simp only at ha hs hab hb ht hnb
  have hbk := nbC_back hn ha hs
  rw [hnb] at hbk
  simp only at hbk
  have hby := fun m hm => beside_m (m := m) hn hn' ha hs hm
  have hby' := fun m hm => beside_m (m := m) hn hn' hb ht hm
  rw [hnb] at hby
  rw [hbk] at hby'
  simp only at hby hby'
  have hq : (n : Int) * n = ((n * n : Nat) : Int) := (Int.natCast_mul n n).symm
  have hW1 : IntKind.i64.wrap (IntKind.i64.wrap (12 * (n : Int)) * (n : Int)) = ((edges n).length : Int) := by
    rw [wrap_id (n := 12 * (n : Int)) (by omega) (by omega), Int.mul_assoc, hq, wrap_id (by omega) (by omega), hel]; omega
  have hW2 : IntKind.i64.wrap (IntKind.i64.wrap (6 * (n : Int)) * (n : Int)) = ((6 * (n * n) : Nat) : Int) := by
    rw [wrap_id (n := 6 * (n : Int)) (by omega) (by omega), Int.mul_assoc, hq, wrap_id (by omega) (by omega)]; omega
  have hed := fun m N => edge_ok (m := m) (b := B) N r _ hx
  simp only at hed
  refine COk_quiet Tryd.f8 Tryd.func8 (by kernel_rfl) rfl ?_
  conv => whnf
  refine ⟨_, _, awake09_ok [], ?_⟩
  conv => whnf
  refine ⟨_, _, hnet, ?_⟩
  conv => whnf
  refine ⟨_, _, side_ok hN, ?_⟩
  conv => whnf
  refine ⟨_, _, gedges_ok hN, ?_⟩
  conv => whnf
  refine ⟨_, _, hwi _, ?_⟩
  conv => whnf
  refine ⟨_, _, hed _ hN, ?_⟩
  conv => whnf
  refine addB_of ?_
  conv => whnf
  rw [getB_last]
  conv => whnf
  refine setB_of ?_
  conv => whnf
  rw [getB_last]
  conv => whnf
  rw [getB_last]
  conv => whnf
  refine ⟨_, _, hby _ ⟨_, by rw [hM]; rfl⟩, ?_⟩
  conv => whnf
  rw [getB_last]
  conv => whnf
  rw [getB_last]
  conv => whnf
  refine ⟨_, _, hby' _ ⟨_, by rw [hM]; rfl⟩, ?_⟩
  conv => whnf
  rw [getB_last]
  conv => whnf
  refine br_no (bo_eq rfl) ?_
  conv => whnf
  rw [getB_last]
  conv => whnf
  refine br_no (bo_eq rfl) ?_
  conv => whnf
  rw [getB_last]
  conv => whnf
  refine br_no (bo_eq rfl) ?_
  conv => whnf
  rw [getB_last]
  conv => whnf
  refine br_no (bo_eq rfl) ?_
  conv => whnf
  rw [getB_last]
  conv => whnf
  rw [getB_last]
  conv => whnf
  refine br_nd (by omega) ?_
  conv => whnf
  refine ⟨_, _, gedges_ok (hN.more _), ?_⟩
  conv => whnf
  refine br_no (bo_eq hW1.symm) ?_
  conv => whnf
  refine ⟨_, _, gcells_ok (hN.more _), ?_⟩
  conv => whnf
  refine br_no (bo_eq hW2.symm) ?_
  conv => whnf
  refine br_intro (fun h0 => ?_) (fun h0 => ?_) <;> conv => whnf
  · obtain rfl : r = 0 := by
      have : (r : Int) = 0 := by simpa using h0
      omega
    obtain ⟨f1, f2⟩ := edge_first hn hx
    simp only at f1 f2
    rw [getB_last]
    conv => whnf
    refine br_eq (by omega) ?_
    conv => whnf
    rw [getB_last]
    conv => whnf
    refine ⟨congrArg V.bool ?_, tail1 hM _⟩
    show ((s : Int) == 0) = true
    simp; omega
  · have h0 : (r : Int) ≠ 0 := by simpa using h0
    obtain ⟨k, rfl⟩ : ∃ k, r = k + 1 := ⟨r - 1, by omega⟩
    obtain ⟨⟨a0, s0, b0, t0⟩, hx0⟩ : ∃ x, (edges n)[k]? = some x := ⟨_, List.getElem?_eq_getElem (by omega)⟩
    obtain ⟨hord, hbet⟩ := edge_next hn hx0 hx
    simp only at hord hbet
    have hwk : IntKind.i64.wrap (((k + 1 : Nat) : Int) - 1) = (k : Int) := by rw [wrap_id (by omega) (by omega)]; omega
    rw [hwk]
    have hed0 := fun m N => edge_ok (m := m) (b := B) N k _ hx0
    simp only at hed0
    refine ⟨_, _, hed0 _ (hN.more _), ?_⟩
    conv => whnf
    refine addB_of ?_
    conv => whnf
    rw [getB_last]
    conv => whnf
    refine setB_of ?_
    conv => whnf
    rw [getB_last]
    conv => whnf
    rw [getB_last2]
    conv => whnf
    refine br_nd (by omega) ?_
    conv => whnf
    rw [getB_last]
    conv => whnf
    rw [getB_last2]
    conv => whnf
    refine br_intro (fun h3 => ?_) (fun h3 => ?_) <;> conv => whnf
    · have h3 : (a0 : Int) = a := by simpa using h3
      rw [getB_last]
      conv => whnf
      rw [getB_last2]
      conv => whnf
      refine br_nd (by omega) ?_
      conv => whnf
      rw [getB_last]
      conv => whnf
      refine loop_to (fun c => [.any, .any, .any, .any, .any, .any, I n, .any, .ptr M.length 0, .any, .any, .any, .any, .any, .ptr (M ++ [Blk.mk true (.cells [I a, I s, I b, I t])]).length 0, I c, .any, .any, .any, .any, .any, .any, .any, .any, .any, .any, .any, .any, .any, .any, .any, .any, .any, .any, .any, .any, .any, .any, .any, .any, .any, .any, .any, .any, .any, .any, .any, .any, .any, .any, .any, .any, .any, .any, .any, .any, .any, .any, .any, .any, .any, .any, .any, .any, .any, .any, .any, .any, .any, .any, .any, .any, .any, .any, .any, .any, .any, .any, .any, .any, .any, .any, .any, .any, .any, .any, .any, .any, .any, .any, .any, .any, .any, .any, .any, .any, .any, .any, .any, .any, .any, .any, .any, .any, .any, .any, .any, .any, .any, .any, .any, .any, .any, .any, .any, .any, .any, .any, .any, .any, .any, .any, .any, .any, .any, .any, .any, .any, .any, .any, .any, .any, .any, .any, .any, .any, .any, .any, .any, .any, .any, .any, .any, .any, .any, .any, .any, .any, .any, .any, .any, .any, .any, .any, .any, .any, .any, .any, .any, .any, .any, .any, .any, .any, .any, .any, .any, .any, .any, .any, .any, .any, .any, .any, .any, .any, .any, .any, .any, .any, .any, .any, .any, .any, .any, .any, .any, .any, .any, .any, .any, .any, .any, .any]) (fun _ => M ++ [Blk.mk true (.cells [I a, I s, I b, I t])] ++ [Blk.mk true (.cells [I a0, I s0, I b0, I t0])]) a0 (a + 1) (by omega) ?_ ?_ ?_
      · refine Fg.of [] ?_ (by rw [List.append_nil]; rfl) (by simp) (by simp [scL, V.sc]) (scM_app (scM_app (scM_mono (by simp) _ hsc) rfl) rfl)
        conv => whnf
        exact ⟨rfl, rfl, rfl, rfl, rfl⟩
      · intro c hc0 hc
        conv => whnf
        rw [getB_last2]
        conv => whnf
        refine br_d (by omega) ?_
        conv => whnf
        refine loop_to (fun k => [.any, .any, .any, .any, .any, .any, I n, .any, .ptr M.length 0, .any, .any, .any, .any, .any, .ptr (M ++ [Blk.mk true (.cells [I a, I s, I b, I t])]).length 0, I c, I k, .any, .any, .any, .any, .any, .any, .any, .any, .any, .any, .any, .any, .any, .any, .any, .any, .any, .any, .any, .any, .any, .any, .any, .any, .any, .any, .any, .any, .any, .any, .any, .any, .any, .any, .any, .any, .any, .any, .any, .any, .any, .any, .any, .any, .any, .any, .any, .any, .any, .any, .any, .any, .any, .any, .any, .any, .any, .any, .any, .any, .any, .any, .any, .any, .any, .any, .any, .any, .any, .any, .any, .any, .any, .any, .any, .any, .any, .any, .any, .any, .any, .any, .any, .any, .any, .any, .any, .any, .any, .any, .any, .any, .any, .any, .any, .any, .any, .any, .any, .any, .any, .any, .any, .any, .any, .any, .any, .any, .any, .any, .any, .any, .any, .any, .any, .any, .any, .any, .any, .any, .any, .any, .any, .any, .any, .any, .any, .any, .any, .any, .any, .any, .any, .any, .any, .any, .any, .any, .any, .any, .any, .any, .any, .any, .any, .any, .any, .any, .any, .any, .any, .any, .any, .any, .any, .any, .any, .any, .any, .any, .any, .any, .any, .any, .any, .any, .any, .any, .any, .any, .any, .any, .any, .any, .any, .any, .any]) (fun _ => M ++ [Blk.mk true (.cells [I a, I s, I b, I t])] ++ [Blk.mk true (.cells [I a0, I s0, I b0, I t0])]) 0 4 (by decide) ?_ ?_ ?_
        · refine Fg.of [] ?_ (by rw [List.append_nil]) (by simp) (by simp [scL, V.sc]) (scM_app (scM_app (scM_mono (by simp) _ hsc) rfl) rfl)
          conv => whnf
          exact ⟨rfl, rfl, rfl, rfl, rfl, rfl⟩
        · intro k _ hk
          conv => whnf
          refine br_d (by omega) ?_
          conv => whnf
          rw [getB_last]
          conv => whnf
          refine br_di (fun h1 => ?_) (fun h1 => ?_) <;> conv => whnf
          · rw [getB_last2]
            conv => whnf
            refine br_di (fun h2 => ?_) (fun h2 => ?_) <;> conv => whnf
            · refine ⟨_, _, beside_m hn hn' (show c < 6 * (n * n) by omega) hk ⟨_, by rw [hM]; rfl⟩, ?_⟩
              conv => whnf
              refine br_nd (by have := hbet c k hk (.inl (by omega)) (.inl (by omega)); omega) ?_
              conv => whnf
              refine Fg.of [] ?_ (by rw [List.append_nil]) (by simp) (by simp [scL, V.sc]) (scM_app (scM_app (scM_mono (by simp) _ hsc) rfl) rfl)
              conv => whnf
              exact ⟨rfl, rfl, rfl, rfl, wrapKV (by omega), rfl⟩
            · rw [getB_last2]
              conv => whnf
              refine ⟨_, _, beside_m hn hn' (show c < 6 * (n * n) by omega) hk ⟨_, by rw [hM]; rfl⟩, ?_⟩
              conv => whnf
              refine br_di (fun h3 => ?_) (fun h3 => ?_) <;> conv => whnf
              · refine br_nd (by have := hbet c k hk (.inl (by omega)) (.inr ⟨by omega, by omega⟩); omega) ?_
                conv => whnf
                refine Fg.of [] ?_ (by rw [List.append_nil]) (by simp) (by simp [scL, V.sc]) (scM_app (scM_app (scM_mono (by simp) _ hsc) rfl) rfl)
                conv => whnf
                exact ⟨rfl, rfl, rfl, rfl, wrapKV (by omega), rfl⟩
              · refine Fg.of [] ?_ (by rw [List.append_nil]) (by simp) (by simp [scL, V.sc]) (scM_app (scM_app (scM_mono (by simp) _ hsc) rfl) rfl)
                conv => whnf
                exact ⟨rfl, rfl, rfl, rfl, wrapKV (by omega), rfl⟩
          · rw [getB_last]
            conv => whnf
            refine br_di (fun h1' => ?_) (fun h1' => ?_) <;> conv => whnf
            · rw [getB_last2]
              conv => whnf
              refine br_di (fun h2 => ?_) (fun h2 => ?_) <;> conv => whnf
              · refine ⟨_, _, beside_m hn hn' (show c < 6 * (n * n) by omega) hk ⟨_, by rw [hM]; rfl⟩, ?_⟩
                conv => whnf
                refine br_nd (by have := hbet c k hk (.inr ⟨by omega, by omega⟩) (.inl (by omega)); omega) ?_
                conv => whnf
                refine Fg.of [] ?_ (by rw [List.append_nil]) (by simp) (by simp [scL, V.sc]) (scM_app (scM_app (scM_mono (by simp) _ hsc) rfl) rfl)
                conv => whnf
                exact ⟨rfl, rfl, rfl, rfl, wrapKV (by omega), rfl⟩
              · rw [getB_last2]
                conv => whnf
                refine ⟨_, _, beside_m hn hn' (show c < 6 * (n * n) by omega) hk ⟨_, by rw [hM]; rfl⟩, ?_⟩
                conv => whnf
                refine br_di (fun h3 => ?_) (fun h3 => ?_) <;> conv => whnf
                · refine br_nd (by have := hbet c k hk (.inr ⟨by omega, by omega⟩) (.inr ⟨by omega, by omega⟩); omega) ?_
                  conv => whnf
                  refine Fg.of [] ?_ (by rw [List.append_nil]) (by simp) (by simp [scL, V.sc]) (scM_app (scM_app (scM_mono (by simp) _ hsc) rfl) rfl)
                  conv => whnf
                  exact ⟨rfl, rfl, rfl, rfl, wrapKV (by omega), rfl⟩
                · refine Fg.of [] ?_ (by rw [List.append_nil]) (by simp) (by simp [scL, V.sc]) (scM_app (scM_app (scM_mono (by simp) _ hsc) rfl) rfl)
                  conv => whnf
                  exact ⟨rfl, rfl, rfl, rfl, wrapKV (by omega), rfl⟩
            · refine ⟨_, _, beside_m hn hn' (show c < 6 * (n * n) by omega) hk ⟨_, by rw [hM]; rfl⟩, ?_⟩
              conv => whnf
              refine Fg.of [] ?_ (by rw [List.append_nil]) (by simp) (by simp [scL, V.sc]) (scM_app (scM_app (scM_mono (by simp) _ hsc) rfl) rfl)
              conv => whnf
              exact ⟨rfl, rfl, rfl, rfl, wrapKV (by omega), rfl⟩
        · conv => whnf
          refine Fg.of [] ?_ (by rw [List.append_nil]) (by simp) (by simp [scL, V.sc]) (scM_app (scM_app (scM_mono (by simp) _ hsc) rfl) rfl)
          conv => whnf
          exact ⟨rfl, rfl, rfl, wrapKV (by omega), rfl⟩

      · conv => whnf
        rw [getB_last2]
        conv => whnf
        refine br_nd (by omega) ?_
        conv => whnf
        exact ⟨rfl, tail2 hM _ _⟩

    · rw [getB_last]
      conv => whnf
      refine loop_to (fun c => [.any, .any, .any, .any, .any, .any, I n, .any, .ptr M.length 0, .any, .any, .any, .any, .any, .ptr (M ++ [Blk.mk true (.cells [I a, I s, I b, I t])]).length 0, I c, .any, .any, .any, .any, .any, .any, .any, .any, .any, .any, .any, .any, .any, .any, .any, .any, .any, .any, .any, .any, .any, .any, .any, .any, .any, .any, .any, .any, .any, .any, .any, .any, .any, .any, .any, .any, .any, .any, .any, .any, .any, .any, .any, .any, .any, .any, .any, .any, .any, .any, .any, .any, .any, .any, .any, .any, .any, .any, .any, .any, .any, .any, .any, .any, .any, .any, .any, .any, .any, .any, .any, .any, .any, .any, .any, .any, .any, .any, .any, .any, .any, .any, .any, .any, .any, .any, .any, .any, .any, .any, .any, .any, .any, .any, .any, .any, .any, .any, .any, .any, .any, .any, .any, .any, .any, .any, .any, .any, .any, .any, .any, .any, .any, .any, .any, .any, .any, .any, .any, .any, .any, .any, .any, .any, .any, .any, .any, .any, .any, .any, .any, .any, .any, .any, .any, .any, .any, .any, .any, .any, .any, .any, .any, .any, .any, .any, .any, .any, .any, .any, .any, .any, .any, .any, .any, .any, .any, .any, .any, .any, .any, .any, .any, .any, .any, .any, .any, .any, .any, .any, .any, .any, .any, .any, .any, .any, .any, .any]) (fun _ => M ++ [Blk.mk true (.cells [I a, I s, I b, I t])] ++ [Blk.mk true (.cells [I a0, I s0, I b0, I t0])]) a0 (a + 1) (by omega) ?_ ?_ ?_
      · refine Fg.of [] ?_ (by rw [List.append_nil]; rfl) (by simp) (by simp [scL, V.sc]) (scM_app (scM_app (scM_mono (by simp) _ hsc) rfl) rfl)
        conv => whnf
        exact ⟨rfl, rfl, rfl, rfl, rfl⟩
      · intro c hc0 hc
        conv => whnf
        rw [getB_last2]
        conv => whnf
        refine br_d (by omega) ?_
        conv => whnf
        refine loop_to (fun k => [.any, .any, .any, .any, .any, .any, I n, .any, .ptr M.length 0, .any, .any, .any, .any, .any, .ptr (M ++ [Blk.mk true (.cells [I a, I s, I b, I t])]).length 0, I c, I k, .any, .any, .any, .any, .any, .any, .any, .any, .any, .any, .any, .any, .any, .any, .any, .any, .any, .any, .any, .any, .any, .any, .any, .any, .any, .any, .any, .any, .any, .any, .any, .any, .any, .any, .any, .any, .any, .any, .any, .any, .any, .any, .any, .any, .any, .any, .any, .any, .any, .any, .any, .any, .any, .any, .any, .any, .any, .any, .any, .any, .any, .any, .any, .any, .any, .any, .any, .any, .any, .any, .any, .any, .any, .any, .any, .any, .any, .any, .any, .any, .any, .any, .any, .any, .any, .any, .any, .any, .any, .any, .any, .any, .any, .any, .any, .any, .any, .any, .any, .any, .any, .any, .any, .any, .any, .any, .any, .any, .any, .any, .any, .any, .any, .any, .any, .any, .any, .any, .any, .any, .any, .any, .any, .any, .any, .any, .any, .any, .any, .any, .any, .any, .any, .any, .any, .any, .any, .any, .any, .any, .any, .any, .any, .any, .any, .any, .any, .any, .any, .any, .any, .any, .any, .any, .any, .any, .any, .any, .any, .any, .any, .any, .any, .any, .any, .any, .any, .any, .any, .any, .any, .any, .any, .any, .any, .any, .any]) (fun _ => M ++ [Blk.mk true (.cells [I a, I s, I b, I t])] ++ [Blk.mk true (.cells [I a0, I s0, I b0, I t0])]) 0 4 (by decide) ?_ ?_ ?_
        · refine Fg.of [] ?_ (by rw [List.append_nil]) (by simp) (by simp [scL, V.sc]) (scM_app (scM_app (scM_mono (by simp) _ hsc) rfl) rfl)
          conv => whnf
          exact ⟨rfl, rfl, rfl, rfl, rfl, rfl⟩
        · intro k _ hk
          conv => whnf
          refine br_d (by omega) ?_
          conv => whnf
          rw [getB_last]
          conv => whnf
          refine br_di (fun h1 => ?_) (fun h1 => ?_) <;> conv => whnf
          · rw [getB_last2]
            conv => whnf
            refine br_di (fun h2 => ?_) (fun h2 => ?_) <;> conv => whnf
            · refine ⟨_, _, beside_m hn hn' (show c < 6 * (n * n) by omega) hk ⟨_, by rw [hM]; rfl⟩, ?_⟩
              conv => whnf
              refine br_nd (by have := hbet c k hk (.inl (by omega)) (.inl (by omega)); omega) ?_
              conv => whnf
              refine Fg.of [] ?_ (by rw [List.append_nil]) (by simp) (by simp [scL, V.sc]) (scM_app (scM_app (scM_mono (by simp) _ hsc) rfl) rfl)
              conv => whnf
              exact ⟨rfl, rfl, rfl, rfl, wrapKV (by omega), rfl⟩
            · rw [getB_last2]
              conv => whnf
              refine ⟨_, _, beside_m hn hn' (show c < 6 * (n * n) by omega) hk ⟨_, by rw [hM]; rfl⟩, ?_⟩
              conv => whnf
              refine br_di (fun h3 => ?_) (fun h3 => ?_) <;> conv => whnf
              · refine br_nd (by have := hbet c k hk (.inl (by omega)) (.inr ⟨by omega, by omega⟩); omega) ?_
                conv => whnf
                refine Fg.of [] ?_ (by rw [List.append_nil]) (by simp) (by simp [scL, V.sc]) (scM_app (scM_app (scM_mono (by simp) _ hsc) rfl) rfl)
                conv => whnf
                exact ⟨rfl, rfl, rfl, rfl, wrapKV (by omega), rfl⟩
              · refine Fg.of [] ?_ (by rw [List.append_nil]) (by simp) (by simp [scL, V.sc]) (scM_app (scM_app (scM_mono (by simp) _ hsc) rfl) rfl)
                conv => whnf
                exact ⟨rfl, rfl, rfl, rfl, wrapKV (by omega), rfl⟩
          · rw [getB_last]
            conv => whnf
            refine br_di (fun h1' => ?_) (fun h1' => ?_) <;> conv => whnf
            · rw [getB_last2]
              conv => whnf
              refine br_di (fun h2 => ?_) (fun h2 => ?_) <;> conv => whnf
              · refine ⟨_, _, beside_m hn hn' (show c < 6 * (n * n) by omega) hk ⟨_, by rw [hM]; rfl⟩, ?_⟩
                conv => whnf
                refine br_nd (by have := hbet c k hk (.inr ⟨by omega, by omega⟩) (.inl (by omega)); omega) ?_
                conv => whnf
                refine Fg.of [] ?_ (by rw [List.append_nil]) (by simp) (by simp [scL, V.sc]) (scM_app (scM_app (scM_mono (by simp) _ hsc) rfl) rfl)
                conv => whnf
                exact ⟨rfl, rfl, rfl, rfl, wrapKV (by omega), rfl⟩
              · rw [getB_last2]
                conv => whnf
                refine ⟨_, _, beside_m hn hn' (show c < 6 * (n * n) by omega) hk ⟨_, by rw [hM]; rfl⟩, ?_⟩
                conv => whnf
                refine br_di (fun h3 => ?_) (fun h3 => ?_) <;> conv => whnf
                · refine br_nd (by have := hbet c k hk (.inr ⟨by omega, by omega⟩) (.inr ⟨by omega, by omega⟩); omega) ?_
                  conv => whnf
                  refine Fg.of [] ?_ (by rw [List.append_nil]) (by simp) (by simp [scL, V.sc]) (scM_app (scM_app (scM_mono (by simp) _ hsc) rfl) rfl)
                  conv => whnf
                  exact ⟨rfl, rfl, rfl, rfl, wrapKV (by omega), rfl⟩
                · refine Fg.of [] ?_ (by rw [List.append_nil]) (by simp) (by simp [scL, V.sc]) (scM_app (scM_app (scM_mono (by simp) _ hsc) rfl) rfl)
                  conv => whnf
                  exact ⟨rfl, rfl, rfl, rfl, wrapKV (by omega), rfl⟩
            · refine ⟨_, _, beside_m hn hn' (show c < 6 * (n * n) by omega) hk ⟨_, by rw [hM]; rfl⟩, ?_⟩
              conv => whnf
              refine Fg.of [] ?_ (by rw [List.append_nil]) (by simp) (by simp [scL, V.sc]) (scM_app (scM_app (scM_mono (by simp) _ hsc) rfl) rfl)
              conv => whnf
              exact ⟨rfl, rfl, rfl, rfl, wrapKV (by omega), rfl⟩
        · conv => whnf
          refine Fg.of [] ?_ (by rw [List.append_nil]) (by simp) (by simp [scL, V.sc]) (scM_app (scM_app (scM_mono (by simp) _ hsc) rfl) rfl)
          conv => whnf
          exact ⟨rfl, rfl, rfl, wrapKV (by omega), rfl⟩

      · conv => whnf
        rw [getB_last2]
        conv => whnf
        refine br_nd (by omega) ?_
        conv => whnf
        exact ⟨rfl, tail2 hM _ _⟩

end Go.Proofs.YtbfdbpmdibjanaaDoor
