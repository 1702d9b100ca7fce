/- Package grid: the edges of a net, cell by cell. No condition. -/
import Derived.Test.YtemaeembndobaaaGreatDoorU
import Derived.Test.YtemaeembndobaaaGreatDoorE25
namespace Go.Proofs.YtemaeembndobaaaGreatDoor
open Go Go.Eng
set_option maxRecDepth 100000
set_option linter.unusedSimpArgs false
set_option linter.unusedVariables false

/-- The cell over a side of cell c, by number, and which side of it lies there. -/
def nbC (n c s : Nat) : Nat × Nat :=
  (cellQ n (nb n (c / (n * n)) (c % n) (c / n % n) s), (nb n (c / (n * n)) (c % n) (c / n % n) s).2.2.2)
theorem cell_parts {n c : Nat} (hn : 1 ≤ n) (h : c < 6 * (n * n)) : c = cellN n (c / (n * n)) (c % n) (c / n % n) ∧ c / (n * n) < 6 ∧ c % n < n ∧ c / n % n < n := by
  have hnn : 0 < n * n := Nat.mul_pos hn hn
  have e1 := Nat.div_add_mod c n
  have e2 := Nat.div_add_mod (c / n) n
  have e3 : c / n / n = c / (n * n) := Nat.div_div_eq_div_mul ..
  rw [e3] at e2
  refine ⟨?_, (Nat.div_lt_iff_lt_mul hnn).mpr h, Nat.mod_lt _ hn, Nat.mod_lt _ hn⟩
  rw [cellN, Nat.mul_comm (c / (n * n)) n, e2, Nat.mul_comm (c / n) n, e1]
theorem nbC_lt {n c s : Nat} (hn : 1 ≤ n) (h : c < 6 * (n * n)) : (nbC n c s).1 < 6 * (n * n) ∧ (nbC n c s).2 < 4 := by
  obtain ⟨_, h1, h2, h3⟩ := cell_parts hn h
  obtain ⟨k1, k2, k3, k4⟩ := nb_lt (s := s) h1 h2 h3
  exact ⟨cellN_lt k1 k2 k3, k4⟩
theorem beside_c {n c s : Nat} (hn : 1 ≤ n) (hn' : n ≤ 32) (h : c < 6 * (n * n)) (hs : s < 4) (x : List Blk) :
    COk Tryz.prog 3 53 [I n, I c, I s] (GG x) (.tup [I (nbC n c s).1, I (nbC n c s).2]) (GG x) := by
  obtain ⟨h0, h1, h2, h3⟩ := cell_parts hn h
  have := beside_ok n (c / (n * n)) (c % n) (c / n % n) s hn hn' h1 h2 h3 hs x
  rwa [← h0] at this

/-- The edges so far: how many; their numbers in a row; the number over a side of a cell. -/
structure St where
  k : Nat
  l : List Int
  f : Int → Int → Option Int
def stp (n c s : Nat) (q : St) : St :=
  if (nbC n c s).1 < c then q
  else ⟨q.k + 1, q.l ++ [(c : Int), (s : Int), ((nbC n c s).1 : Int), ((nbC n c s).2 : Int)], updM (updM q.f c s q.k) (nbC n c s).1 (nbC n c s).2 q.k⟩
def stps (n c : Nat) : Nat → St → St
  | 0, q => q
  | s + 1, q => stp n c s (stps n c s q)
theorem stp_k (n c s : Nat) (q : St) (h : q.l.length = 4 * q.k) : (stp n c s q).l.length = 4 * (stp n c s q).k ∧ q.k ≤ (stp n c s q).k ∧ (stp n c s q).k ≤ q.k + 1 := by
  unfold stp
  split
  · exact ⟨h, Nat.le_refl _, by omega⟩
  · refine ⟨?_, by simp, by simp⟩
    simp only [List.length_append, List.length_cons, List.length_nil, h]
    omega
abbrev nilS : V := .raw (.slice none 0 0)
/-- The net in the making, behind at least one edge. -/
def gridC (n : Nat) (e b a l g : V) : Blk := ⟨true, .cells [I n, e, .mp 3, b, a, l, g]⟩
def closC : Blk := ⟨true, .cells [.clo (.func 51) [.ptr 4 0] [], .clo (.func 52) [.ptr 4 0] []]⟩
def edC (q : St) : Blk := ⟨true, .gints (q.k - 1) .i64 q.l⟩
def mem1 (n : Nat) (q : St) (g6 : Blk) : List Blk :=
  GG [⟨true, .mpI q.f⟩, gridC n (.gs 7 (q.k - 1) 4 q.k) nilS nilS nilS nilS, closC, g6, edC q]
theorem wrapK {k : Nat} (h : k < 4294967296) : IntKind.i64.wrap ((k : Int) + 1) = ((k + 1 : Nat) : Int) := by
  rw [wrap_id (by omega) (by omega)]; omega
theorem pm : pairMap Tryz.prog 85 = some 124 := by kernel_rfl
theorem sc_mem1 (n : Nat) (q : St) (g6 : Blk) (h6 : g6.b.sc 8 = true) : scM (mem1 n q g6).length (mem1 n q g6) = true := by
  show (_ && (_ && (_ && (_ && (_ && (_ && (g6.b.sc 8 && _))))))) = true
  rw [h6]
  rfl
theorem stps_k (n c : Nat) (q : St) (hq : q.l.length = 4 * q.k) : ∀ s, (stps n c s q).l.length = 4 * (stps n c s q).k ∧ q.k ≤ (stps n c s q).k ∧ (stps n c s q).k ≤ q.k + s := by
  intro s
  induction s with
  | zero => exact ⟨hq, Nat.le_refl _, Nat.le_refl _⟩
  | succ s ih =>
    obtain ⟨h1, h2, h3⟩ := ih
    obtain ⟨k1, k2, k3⟩ := stp_k n c s (stps n c s q) h1
    exact ⟨k1, by show q.k ≤ (stp n c s (stps n c s q)).k; omega, by show (stp n c s (stps n c s q)).k ≤ _; omega⟩
theorem wrapKV {k : Nat} (h : k < 4294967296) : V.int .i64 (IntKind.i64.wrap ((k : Int) + 1)) = I ((k + 1 : Nat) : Int) := by rw [wrapK h]
set_option maxHeartbeats 0 in
theorem addEdges_ok (n c : Nat) (q : St) (g6 : Blk) (hn : 1 ≤ n) (hn' : n ≤ 32) (hc : c < 6 * (n * n)) (hq : q.l.length = 4 * q.k) (hq1 : 1 ≤ q.k) (hq2 : q.k ≤ 100000) (h6 : g6.b.sc 8 = true) :
    COk Tryz.prog 3 51 [.ptr 4 0, I c] (mem1 n q g6) (.tup []) (mem1 n (stps n c 4 q) g6) := by
  refine COk_of_ev Tryz.f51 Tryz.func51 (by kernel_rfl) (Nat.le_refl _) rfl (.inr (sc_mem1 _ _ _ h6)) ?_
  conv => whnf
  refine loop_to (fun s => [.ptr 4 0, I c, .any, .any, .any, .any, .any, I s, .any, .any, .any, .any, .any, .any, .any, .any, .any, .any, .any, .any, .any, .any, .any, .any, .any, .any, .any, .any, .any, .any, .any, .any, .any, .any, .any, .any, .any, .any, .any, .any, .any, .any, .any, .any, .any, .any, .any, .any, .any, .any, .any, .any, .any, .any, .any, .any, .any, .any, .any, .any, .any, .any]) (fun s => mem1 n (stps n c s q) g6) 0 4 (by decide) ?_ ?_ ?_
  · refine Fg.of [] ?_ rfl rfl rfl (sc_mem1 _ _ _ h6)
    conv => whnf
    exact ⟨rfl, rfl, rfl, rfl⟩
  · intro s _ hs
    obtain ⟨h1, h2, h3⟩ := stps_k n c q hq s
    generalize hst : stps n c s q = st at h1 h2 h3
    have hnext : stps n c (s + 1) q = stp n c s st := by rw [← hst]; rfl
    rw [hnext]
    obtain ⟨k, l, f⟩ := st
    obtain ⟨v, rfl⟩ : ∃ v, k = v + 1 := ⟨k - 1, by simp only at h2; omega⟩
    simp only at h1 h2 h3
    conv => whnf
    refine br_d (by omega) ?_
    conv => whnf
    refine ⟨_, _, beside_c hn hn' hc hs _, ?_⟩
    conv => whnf
    refine br_di (fun h => ?_) (fun h => ?_) <;> conv => whnf
    · rw [show stp n c s ⟨v + 1, l, f⟩ = ⟨v + 1, l, f⟩ from if_pos (by omega)]
      refine Fg.of [] ?_ rfl rfl rfl (sc_mem1 _ _ _ h6)
      conv => whnf
      refine ⟨rfl, rfl, wrapKV (by omega), ?_⟩
      exact rfl
    · rw [show stp n c s ⟨v + 1, l, f⟩ = ⟨v + 1 + 1, l ++ [(c : Int), (s : Int), ((nbC n c s).1 : Int), ((nbC n c s).2 : Int)], updM (updM f c s ((v + 1 : Nat) : Int)) (nbC n c s).1 (nbC n c s).2 ((v + 1 : Nat) : Int)⟩ from if_neg (by omega)]
      refine ⟨⟨_, pm⟩, ?_⟩
      conv => whnf
      refine ⟨⟨_, pm⟩, ?_⟩
      conv => whnf
      refine ⟨⟨rfl, rfl, (by show l.length = (v + 1) * 4; omega), (by show (v + 1 + 1) * 32 ≤ _; omega)⟩, ?_⟩
      conv => whnf
      refine Fg.of [_] ?_ rfl rfl rfl (sc_mem1 _ _ _ h6)
      conv => whnf
      refine ⟨rfl, rfl, wrapKV (by omega), ?_⟩
      exact rfl
  · conv => whnf
    exact ⟨rfl, [], by simp⟩
/-- The first cell's edges: from nothing. -/
def q0 : St := ⟨0, [], fun _ _ => none⟩
def g6C (n c : Nat) : Blk := ⟨true, .cells [I c, I (0 : Nat), I (nbC n c 0).1, I (nbC n c 0).2]⟩
theorem stp_first (n c : Nat) (h0 : c = 0) : stp n c 0 q0 = ⟨0 + 1, [(c : Int), ((0 : Nat) : Int), ((nbC n c 0).1 : Int), ((nbC n c 0).2 : Int)], updM (updM (fun _ _ => none) c (0 : Nat) (0 : Nat)) (nbC n c 0).1 (nbC n c 0).2 (0 : Nat)⟩ := if_neg (by omega)
set_option maxHeartbeats 0 in
theorem addEdges_first (n c : Nat) (h0 : c = 0) (hn : 1 ≤ n) (hn' : n ≤ 32) :
    COk Tryz.prog 3 51 [.ptr 4 0, I c] (GG [⟨true, .mpI fun _ _ => none⟩, gridC n nilS nilS nilS nilS nilS, closC]) (.tup []) (mem1 n (stps n c 4 q0) (g6C n c)) := by
  have hc : c < 6 * (n * n) := by have := Nat.mul_pos hn hn; omega
  have h6 : (g6C n c).b.sc 8 = true := rfl
  have hq1 : (stp n c 0 q0).l.length = 4 * (stp n c 0 q0).k := by rw [stp_first n c h0]; rfl
  have hst1 : ∀ s, (stps n c (s + 1) q0).l.length = 4 * (stps n c (s + 1) q0).k ∧ 1 ≤ (stps n c (s + 1) q0).k ∧ (stps n c (s + 1) q0).k ≤ 1 + s := by
    intro s
    induction s with
    | zero => exact ⟨hq1, by rw [show stps n c (0 + 1) q0 = stp n c 0 q0 from rfl, stp_first n c h0]; exact Nat.le_refl _, by rw [show stps n c (0 + 1) q0 = stp n c 0 q0 from rfl, stp_first n c h0]; exact Nat.le_refl _⟩
    | succ s ih =>
      obtain ⟨h1, h2, h3⟩ := ih
      obtain ⟨k1, k2, k3⟩ := stp_k n c (s + 1) (stps n c (s + 1) q0) h1
      exact ⟨k1, by show 1 ≤ (stp n c (s + 1) (stps n c (s + 1) q0)).k; omega, by show (stp n c (s + 1) (stps n c (s + 1) q0)).k ≤ _; omega⟩
  refine COk_of_ev Tryz.f51 Tryz.func51 (by kernel_rfl) (by show 6 ≤ 8; omega) rfl (.inr (sc_mem1 _ _ _ h6)) ?_
  conv => whnf
  refine lr ?_
  conv => whnf
  refine ⟨_, _, beside_c (s := 0) hn hn' hc (by decide) _, ?_⟩
  conv => whnf
  refine br_nd (by omega) ?_
  conv => whnf
  refine ⟨⟨_, pm⟩, ?_⟩
  conv => whnf
  refine ⟨⟨_, pm⟩, ?_⟩
  conv => whnf
  refine ⟨⟨by decide, by decide⟩, ?_⟩
  conv => whnf
  refine loop_to (fun s => [.ptr 4 0, I c, .any, .any, .any, .any, .any, I s, .any, .any, .any, .any, .any, .any, .any, .any, .any, .any, .any, .any, .any, .any, .any, .any, .any, .any, .any, .any, .any, .any, .any, .any, .any, .any, .any, .any, .any, .any, .any, .any, .any, .any, .any, .any, .any, .any, .any, .any, .any, .any, .any, .any, .any, .any, .any, .any, .any, .any, .any, .any, .any, .any]) (fun s => mem1 n (stps n c s q0) (g6C n c)) 1 4 (by decide) ?_ ?_ ?_
  · rw [show stps n c 1 q0 = stp n c 0 q0 from rfl, stp_first n c h0]
    refine Fg.of [] ?_ rfl rfl rfl ?_
    · conv => whnf
      exact ⟨rfl, rfl, wrapKV (k := 0) (by decide), rfl⟩
    · exact sc_mem1 _ _ _ h6
  · intro s hs1 hs
    obtain ⟨h1, h2, h3⟩ := hst1 (s - 1)
    rw [show s - 1 + 1 = s by omega] at h1 h2 h3
    generalize hst : stps n c s q0 = st at h1 h2 h3
    have hnext : stps n c (s + 1) q0 = stp n c s st := by rw [← hst]; rfl
    rw [hnext]
    obtain ⟨k, l, f⟩ := st
    obtain ⟨v, rfl⟩ : ∃ v, k = v + 1 := ⟨k - 1, by simp only at h2; omega⟩
    simp only at h1 h2 h3
    conv => whnf
    refine br_d (by omega) ?_
    conv => whnf
    refine ⟨_, _, beside_c hn hn' hc hs _, ?_⟩
    conv => whnf
    refine br_di (fun h => ?_) (fun h => ?_) <;> conv => whnf
    · rw [show stp n c s ⟨v + 1, l, f⟩ = ⟨v + 1, l, f⟩ from if_pos (by omega)]
      refine Fg.of [] ?_ rfl rfl rfl (sc_mem1 _ _ _ h6)
      conv => whnf
      refine ⟨rfl, rfl, wrapKV (by omega), ?_⟩
      exact rfl
    · rw [show stp n c s ⟨v + 1, l, f⟩ = ⟨v + 1 + 1, l ++ [(c : Int), (s : Int), ((nbC n c s).1 : Int), ((nbC n c s).2 : Int)], updM (updM f c s ((v + 1 : Nat) : Int)) (nbC n c s).1 (nbC n c s).2 ((v + 1 : Nat) : Int)⟩ from if_neg (by omega)]
      refine ⟨⟨_, pm⟩, ?_⟩
      conv => whnf
      refine ⟨⟨_, pm⟩, ?_⟩
      conv => whnf
      refine ⟨⟨rfl, rfl, (by show l.length = (v + 1) * 4; omega), (by show (v + 1 + 1) * 32 ≤ _; omega)⟩, ?_⟩
      conv => whnf
      refine Fg.of [_] ?_ rfl rfl rfl (sc_mem1 _ _ _ h6)
      conv => whnf
      refine ⟨rfl, rfl, wrapKV (by omega), ?_⟩
      exact rfl
  · conv => whnf
    exact ⟨rfl, [], by simp⟩

def areaC (n c : Nat) : Int := areaT n (c / (n * n)) (c % n) (c / n % n)
def lenC (n c s : Nat) : Nat := lenS n (c / (n * n)) (c % n) (c / n % n) s
def gapC (n c s : Nat) : Nat := gapS n (c / (n * n)) (c % n) (c / n % n) s
theorem area_c {n c : Nat} (hn : 1 ≤ n) (hn' : n ≤ 32) (h : c < 6 * (n * n)) (x : List Blk) : COk Tryz.prog 3 89 [I n, I c] (GG x) (I (areaC n c)) (GG x) := by
  obtain ⟨h0, h1, h2, h3⟩ := cell_parts hn h
  have := area_at n (c / (n * n)) (c % n) (c / n % n) hn hn' h1 h2 h3 x
  rwa [← h0] at this
theorem len_c {n c s : Nat} (hn : 1 ≤ n) (hn' : n ≤ 32) (h : c < 6 * (n * n)) (hs : s < 4) (x : List Blk) : COk Tryz.prog 3 54 [I n, I c, I s] (GG x) (F (lenC n c s)) (GG x) := by
  obtain ⟨h0, h1, h2, h3⟩ := cell_parts hn h
  have := glen_in n (c / (n * n)) (c % n) (c / n % n) s hn hn' h1 h2 h3 hs x
  rwa [← h0] at this
theorem gap_c {n c s : Nat} (hn : 1 ≤ n) (hn' : n ≤ 32) (h : c < 6 * (n * n)) (hs : s < 4) (x : List Blk) : COk Tryz.prog 3 55 [I n, I c, I s] (GG x) (F (gapC n c s)) (GG x) := by
  obtain ⟨h0, h1, h2, h3⟩ := cell_parts hn h
  have := ggap_in n (c / (n * n)) (c % n) (c / n % n) s hn hn' h1 h2 h3 hs x
  rwa [← h0] at this
def arL (n : Nat) : Nat → List Int
  | 0 => []
  | c + 1 => arL n c ++ [areaC n c]
theorem arL_len (n : Nat) : ∀ c, (arL n c).length = c
  | 0 => rfl
  | c + 1 => by simp [arL, arL_len n c]
def mem2 (n : Nat) (q : St) (g6 g8 : Blk) (c : Nat) : List Blk :=
  GG [⟨true, .mpI q.f⟩, gridC n (.gs 7 (q.k - 1) 4 q.k) nilS (.gs 9 (c - 1) 1 c) nilS nilS, closC, g6, edC q, g8, ⟨true, .gints (c - 1) .i64 (arL n c)⟩]
theorem sc_mem2 (n : Nat) (q : St) (g6 g8 : Blk) (c : Nat) (h6 : g6.b.sc 10 = true) (h8 : g8.b.sc 10 = true) : scM (mem2 n q g6 g8 c).length (mem2 n q g6 g8 c) = true := by
  show (_ && (_ && (_ && (_ && (_ && (_ && (g6.b.sc 10 && (_ && (g8.b.sc 10 && _))))))))) = true
  rw [h6, h8]
  rfl
def g8C (n c : Nat) : Blk := ⟨true, .cells [I (areaC n c)]⟩
set_option maxHeartbeats 0 in
theorem addArea_first (n c : Nat) (h0 : c = 0) (q : St) (g6 : Blk) (hn : 1 ≤ n) (hn' : n ≤ 32) (h6 : g6.b.sc 10 = true) :
    COk Tryz.prog 3 52 [.ptr 4 0, I c] (mem1 n q g6) (.tup []) (mem2 n q g6 (g8C n c) (c + 1)) := by
  have hc : c < 6 * (n * n) := by have := Nat.mul_pos hn hn; omega
  refine COk_of_ev Tryz.f52 Tryz.func52 (by kernel_rfl) (by show 8 ≤ 10; omega) rfl (.inr (sc_mem2 _ _ _ _ _ h6 rfl)) ?_
  subst h0
  conv => whnf
  refine ⟨_, area_c hn hn' hc _, ?_⟩
  conv => whnf
  refine ⟨⟨by decide, by decide⟩, ?_⟩
  conv => whnf
  exact ⟨rfl, [], rfl⟩
set_option maxHeartbeats 0 in
theorem addArea_ok (n c : Nat) (q : St) (g6 g8 : Blk) (hn : 1 ≤ n) (hn' : n ≤ 32) (hc1 : 1 ≤ c) (hc : c < 6 * (n * n)) (h6 : g6.b.sc 10 = true) (h8 : g8.b.sc 10 = true) :
    COk Tryz.prog 3 52 [.ptr 4 0, I c] (mem2 n q g6 g8 c) (.tup []) (mem2 n q g6 g8 (c + 1)) := by
  refine COk_of_ev Tryz.f52 Tryz.func52 (by kernel_rfl) (by show 10 ≤ 10; omega) rfl (.inr (sc_mem2 _ _ _ _ _ h6 h8)) ?_
  obtain ⟨v, rfl⟩ : ∃ v, c = v + 1 := ⟨c - 1, by omega⟩
  have hb : v + 1 + 1 ≤ 10000 := by
    have : n * n ≤ 32 * 32 := Nat.mul_le_mul hn' hn'
    omega
  conv => whnf
  refine ⟨_, area_c hn hn' hc _, ?_⟩
  conv => whnf
  refine ⟨⟨rfl, rfl, (by show (arL n (v + 1)).length = (v + 1) * 1; rw [arL_len]; omega), (by show (v + 1 + 1) * 8 ≤ _; omega)⟩, ?_⟩
  conv => whnf
  exact ⟨rfl, [_], rfl⟩
end Go.Proofs.YtemaeembndobaaaGreatDoor
