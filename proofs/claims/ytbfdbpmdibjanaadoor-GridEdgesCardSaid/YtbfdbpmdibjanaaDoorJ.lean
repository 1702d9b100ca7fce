/- What the statements of layer 9 ask first. No condition. -/
import Derived.Test.YtbfdbpmdibjanaaDoorI
namespace Go.Proofs.YtbfdbpmdibjanaaDoor
open Go Go.Eng
set_option maxRecDepth 100000
set_option linter.unusedSimpArgs false
set_option linter.unusedVariables false

theorem u64_nat (k : Int) : ∃ a : Nat, IntKind.u64.wrap k = a ∧ a < 18446744073709551616 := by
  have h1 : IntKind.u64.wrap k = k % 18446744073709551616 := by
    unfold IntKind.wrap
    rfl
  exact ⟨(k % 18446744073709551616).toNat, by rw [h1]; omega, by omega⟩
theorem within_ok (k : Int) (s : Nat) (h1 : 1 ≤ s) (h2 : s < 9223372036854775808) : ∃ r : Nat, r < s ∧ ∀ m, COk Tryd.prog 3 30 [I k, I s] m (I r) m := by
  obtain ⟨a, ha, _⟩ := u64_nat k
  refine ⟨a % s, Nat.mod_lt _ (by omega), fun m => ?_⟩
  refine COk_quiet Tryd.f30 Tryd.func30 (by kernel_rfl) rfl ?_
  conv => whnf
  rw [ha]
  conv => whnf
  rw [wrap_u (show (0 : Int) ≤ s by omega) (by omega)]
  refine br_yes (show ((s : Int) != 0) = true by simp; omega) ?_
  conv => whnf
  refine ⟨?_, [], by simp⟩
  show I (IntKind.i64.wrap ((a : Int).tmod s)) = _
  have hm := Nat.mod_lt a (show 0 < s by omega)
  rw [show (a : Int).tmod s = ((a % s : Nat) : Int) from (Int.ofNat_tmod a s).symm, wrap_id (by omega) (by omega)]
/-- New anywhere, its memory kept shut. -/
theorem new_shut (n : Nat) (hn : 1 ≤ n) (hn' : n ≤ 32) (x : List Blk) : ∃ b M, COk Tryd.prog 3 59 [I n] (GG x) (.tup [.ptr (b + 1) 0, I 0]) M ∧ Net M b n ∧ ∃ y, M = GG (x ++ y) := by
  refine ⟨_, _, new_at n hn hn' x, ?_, _, rfl⟩
  have := net_here n (GG x) []
  rwa [List.append_nil] at this
mutual
theorem V.sc_mono {k l : Nat} (h : k ≤ l) : ∀ v : V, v.sc k = true → v.sc l = true
  | .bool b, _ => rfl
  | .int _ _, _ => rfl
  | .fl o, _ => rfl
  | .raw v, _ => rfl
  | .any, _ => rfl
  | .ptr i off, hv => by simp only [V.sc] at *; simp at *; omega
  | .sl i off len, hv => by simp only [V.sc] at *; simp at *; omega
  | .mp i, hv => by simp only [V.sc] at *; simp at *; omega
  | .sk i off len k, hv => by simp only [V.sc] at *; simp at *; omega
  | .gp i v off, hv => by simp only [V.sc] at *; simp at *; omega
  | .gs i v e len, hv => by simp only [V.sc] at *; simp at *; omega
  | .agg cs, hv => scL_mono h cs hv
  | .tup cs, hv => scL_mono h cs hv
  | .clo fn a b, hv => by
    simp only [V.sc, Bool.and_eq_true] at *
    exact ⟨scL_mono h a hv.1, scL_mono h b hv.2⟩
theorem scL_mono {k l : Nat} (h : k ≤ l) : ∀ vs : List V, scL k vs = true → scL l vs = true
  | [], _ => rfl
  | v :: vs, hv => by
    simp only [scL, Bool.and_eq_true] at *
    exact ⟨V.sc_mono h v hv.1, scL_mono h vs hv.2⟩
end
theorem B.sc_mono {k l : Nat} (h : k ≤ l) (b : B) (hb : b.sc k = true) : b.sc l = true := by
  cases b <;> first
    | exact scL_mono h _ hb
    | exact hb
    | rfl
theorem scM_mono {k l : Nat} (h : k ≤ l) : ∀ m : List Blk, scM k m = true → scM l m = true
  | [], _ => rfl
  | b :: m, hb => by
    simp only [scM, Bool.and_eq_true] at *
    exact ⟨B.sc_mono h b.b hb.1, scM_mono h m hb.2⟩
theorem scM_app {k : Nat} : ∀ {l r : List Blk}, scM k l = true → scM k r = true → scM k (l ++ r) = true
  | [], r, _, h => h
  | b :: l, r, h, h' => by
    simp only [scM, List.cons_append, Bool.and_eq_true] at *
    exact ⟨h.1, scM_app h.2 h'⟩
theorem netAt_sc (n b : Nat) : scM (b + 14) (netAt n b) = true := by
  simp [netAt, scM, B.sc, scL, V.sc]
theorem new_shut_sc (n : Nat) (hn : 1 ≤ n) (hn' : n ≤ 32) (x : List Blk) (hx : scM (GG x).length (GG x) = true) : ∃ b M, COk Tryd.prog 3 59 [I n] (GG x) (.tup [.ptr (b + 1) 0, I 0]) M ∧ Net M b n ∧ scM M.length M = true ∧ ∃ y, M = GG (x ++ y) := by
  refine ⟨_, _, new_at n hn hn' x, ?_, ?_, _, rfl⟩
  · have := net_here n (GG x) []
    rwa [List.append_nil] at this
  · exact scM_app (scM_mono (by simp) _ hx) (by rw [List.length_append]; exact netAt_sc n _)
theorem net_at (k : Int) : ∃ n : Nat, 1 ≤ n ∧ n ≤ 32 ∧ ∀ x, scM (GG x).length (GG x) = true → ∃ b M, COk Tryd.prog 3 29 [I k] (GG x) (.ptr (b + 1) 0) M ∧ Net M b n ∧ scM M.length M = true ∧ ∃ y, M = GG (x ++ y) := by
  obtain ⟨r, hr, hw⟩ := within_ok k 32 (by decide) (by decide)
  refine ⟨1 + r, by omega, by omega, fun x hx => ?_⟩
  obtain ⟨b, M, hnew, hN, hsc, y, rfl⟩ := new_shut_sc (1 + r) (by omega) (by omega) x hx
  refine ⟨b, _, ?_, hN, hsc, y, rfl⟩
  refine COk_of_ev Tryd.f29 Tryd.func29 (by kernel_rfl) (by simp) ?_ (.inr hsc) ?_
  · have := hN.lt
    simp [V.sc] at this ⊢; omega
  conv => whnf
  refine ⟨_, _, hw _, ?_⟩
  conv => whnf
  rw [show IntKind.i64.wrap (1 + (r : Int)) = ((1 + r : Nat) : Int) by rw [wrap_id (by omega) (by omega)]; omega]
  refine ⟨_, _, hnew, ?_⟩
  conv => whnf
  exact ⟨rfl, [], by simp⟩
theorem edges1 : (edges 1)[1]? = some (0, 1, 4, 3) ∧ (edges 1)[0]? = some (0, 0, 1, 2) := by decide
theorem num1 : numF 1 ((1 : Nat) : Int) ((2 : Nat) : Int) = some ((0 : Nat) : Int) := by decide
theorem len1 : (edges 1).length = 12 := by decide
set_option maxHeartbeats 0 in
theorem awake09_ok (x : List Blk) : COk Tryd.prog 3 28 [] (GG x) (Bo true) (GG x) := by
  obtain ⟨b, M, hnew, hN, y, hM⟩ := new_shut 1 (by omega) (by omega) x
  have h33 := new_no 33 (by omega) M
  have hed := edge_ok hN 1 _ edges1.1
  obtain ⟨ar, har, har1⟩ : ∃ ar : Int, areaC 1 0 = ar ∧ 1 ≤ ar := ⟨_, rfl, areaT_pos _ _ _ _⟩
  refine COk_quiet Tryd.f28 Tryd.func28 (by kernel_rfl) rfl ?_
  conv => whnf
  refine ⟨_, _, hnew, ?_⟩
  conv => whnf
  refine ⟨_, _, h33, ?_⟩
  conv => whnf
  refine ⟨_, _, hed, ?_⟩
  conv => whnf
  refine addB_of ?_
  conv => whnf
  rw [getB_last]
  conv => whnf
  refine setB_of ?_
  conv => whnf
  refine ⟨_, _, around_ok (hN.more _) ((1 : Nat) : Int) ((2 : Nat) : Int) 0 _ num1 edges1.2, ?_⟩
  conv => whnf
  refine ⟨_, _, behind_ok (hN.more _) 0 _ edges1.2, ?_⟩
  conv => whnf
  rw [getB_last]
  conv => whnf
  refine ⟨true, ⟨by kernel_rfl, by kernel_rfl⟩, ?_⟩
  conv => whnf
  refine ⟨_, _, gcells_ok (hN.more _), ?_⟩
  conv => whnf
  refine ⟨_, _, gedges_ok (hN.more _), ?_⟩
  rw [len1]
  conv => whnf
  refine ⟨_, _, area_ok (hN.more _) 0 (by decide), ?_⟩
  rw [har]
  conv => whnf
  subst hM
  exact ⟨congrArg V.bool (decide_eq_true (by omega)), _, List.append_assoc (GG x) y _⟩
theorem around_at {n c s : Nat} (hn : 1 ≤ n) (hc : c < 6 * (n * n)) (hs : s < 4) : ∃ (e : Nat) (y : Ed) (w : Int), (edges n)[e]? = some y ∧
    ((w = 1 ∧ y = (c, s, (nbC n c s).1, (nbC n c s).2) ∧ c < (nbC n c s).1) ∨ (w = -1 ∧ y = ((nbC n c s).1, (nbC n c s).2, c, s) ∧ (nbC n c s).1 < c)) ∧
    ∀ m b, Net m b n → COk Tryd.prog 3 34 [.ptr (b + 1) 0, I c, I s] m (.tup [I e, I w]) m := by
  obtain ⟨e, y, h1, h2, h3⟩ := num_at hn hc hs
  refine ⟨e, y, if (y.1 : Int) = c then 1 else -1, h2, ?_, fun m b N => around_ok N c s e y h1 h2⟩
  rcases h3 with ⟨rfl, h⟩ | ⟨rfl, h⟩
  · exact .inl ⟨if_pos rfl, rfl, h⟩
  · exact .inr ⟨if_neg (by simp only; omega), rfl, h⟩
end Go.Proofs.YtbfdbpmdibjanaaDoor
