/- Package grid: areas; the net whole. No condition. -/
import Derived.Test.YtbfdbpmdibjanaaDoorV
namespace Go.Proofs.YtbfdbpmdibjanaaDoor
open Go Go.Eng
set_option maxRecDepth 100000
set_option linter.unusedSimpArgs false
set_option linter.unusedVariables false

def areaC (n c : Nat) : Int := areaT n (c / (n * n)) (c % n) (c / n % n)
def lenC (n c s : Nat) : Nat := lenS n (c / (n * n)) (c % n) (c / n % n) s
def gapC (n c s : Nat) : Nat := gapS n (c / (n * n)) (c % n) (c / n % n) s
theorem area_c {n c : Nat} (hn : 1 ≤ n) (hn' : n ≤ 32) (h : c < 6 * (n * n)) (x : List Blk) : COk Tryd.prog 3 22 [I n, I c] (GG x) (I (areaC n c)) (GG x) := by
  obtain ⟨h0, h1, h2, h3⟩ := cell_parts hn h
  have := area_at n (c / (n * n)) (c % n) (c / n % n) hn hn' h1 h2 h3 x
  rwa [← h0] at this
theorem len_c {n c s : Nat} (hn : 1 ≤ n) (hn' : n ≤ 32) (h : c < 6 * (n * n)) (hs : s < 4) (x : List Blk) : COk Tryd.prog 3 17 [I n, I c, I s] (GG x) (F (lenC n c s)) (GG x) := by
  obtain ⟨h0, h1, h2, h3⟩ := cell_parts hn h
  have := glen_in n (c / (n * n)) (c % n) (c / n % n) s hn hn' h1 h2 h3 hs x
  rwa [← h0] at this
theorem gap_c {n c s : Nat} (hn : 1 ≤ n) (hn' : n ≤ 32) (h : c < 6 * (n * n)) (hs : s < 4) (x : List Blk) : COk Tryd.prog 3 19 [I n, I c, I s] (GG x) (F (gapC n c s)) (GG x) := by
  obtain ⟨h0, h1, h2, h3⟩ := cell_parts hn h
  have := ggap_in n (c / (n * n)) (c % n) (c / n % n) s hn hn' h1 h2 h3 hs x
  rwa [← h0] at this
def arL (n : Nat) : Nat → List Int
  | 0 => []
  | c + 1 => arL n c ++ [areaC n c]
theorem arL_len (n : Nat) : ∀ c, (arL n c).length = c
  | 0 => rfl
  | c + 1 => by simp [arL, arL_len n c]
def mem2 (n : Nat) (q : St) (g6 g8 : Blk) (c : Nat) : List Blk :=
  GG [⟨true, .mpI q.f⟩, gridC n (.gs 7 (q.k - 1) 4 q.k) nilS (.gs 9 (c - 1) 1 c) nilS nilS, closC, g6, edC q, g8, ⟨true, .gints (c - 1) .i64 (arL n c)⟩]
theorem sc_mem2 (n : Nat) (q : St) (g6 g8 : Blk) (c : Nat) (h6 : g6.b.sc 10 = true) (h8 : g8.b.sc 10 = true) : scM (mem2 n q g6 g8 c).length (mem2 n q g6 g8 c) = true := by
  show (_ && (_ && (_ && (_ && (_ && (_ && (g6.b.sc 10 && (_ && (g8.b.sc 10 && _))))))))) = true
  rw [h6, h8]
  rfl
def g8C (n c : Nat) : Blk := ⟨true, .cells [I (areaC n c)]⟩
set_option maxHeartbeats 0 in
theorem addArea_first (n c : Nat) (h0 : c = 0) (q : St) (g6 : Blk) (hn : 1 ≤ n) (hn' : n ≤ 32) (h6 : g6.b.sc 10 = true) :
    COk Tryd.prog 3 71 [.ptr 4 0, I c] (mem1 n q g6) (.tup []) (mem2 n q g6 (g8C n c) (c + 1)) := by
  have hc : c < 6 * (n * n) := by have := Nat.mul_pos hn hn; omega
  refine COk_of_ev Tryd.f71 Tryd.func71 (by kernel_rfl) (by show 8 ≤ 10; omega) rfl (.inr (sc_mem2 _ _ _ _ _ h6 rfl)) ?_
  subst h0
  conv => whnf
  refine ⟨_, area_c hn hn' hc _, ?_⟩
  conv => whnf
  refine ⟨⟨by decide, by decide⟩, ?_⟩
  conv => whnf
  exact ⟨rfl, [], rfl⟩
set_option maxHeartbeats 0 in
theorem addArea_ok (n c : Nat) (q : St) (g6 g8 : Blk) (hn : 1 ≤ n) (hn' : n ≤ 32) (hc1 : 1 ≤ c) (hc : c < 6 * (n * n)) (h6 : g6.b.sc 10 = true) (h8 : g8.b.sc 10 = true) :
    COk Tryd.prog 3 71 [.ptr 4 0, I c] (mem2 n q g6 g8 c) (.tup []) (mem2 n q g6 g8 (c + 1)) := by
  refine COk_of_ev Tryd.f71 Tryd.func71 (by kernel_rfl) (by show 10 ≤ 10; omega) rfl (.inr (sc_mem2 _ _ _ _ _ h6 h8)) ?_
  obtain ⟨v, rfl⟩ : ∃ v, c = v + 1 := ⟨c - 1, by omega⟩
  have hb : v + 1 + 1 ≤ 10000 := by
    have : n * n ≤ 32 * 32 := Nat.mul_le_mul hn' hn'
    omega
  conv => whnf
  refine ⟨_, area_c hn hn' hc _, ?_⟩
  conv => whnf
  refine ⟨⟨rfl, rfl, (by show (arL n (v + 1)).length = (v + 1) * 1; rw [arL_len]; omega), (by show (v + 1 + 1) * 8 ≤ _; omega)⟩, ?_⟩
  conv => whnf
  exact ⟨rfl, [_], rfl⟩
end Go.Proofs.YtbfdbpmdibjanaaDoor
