import Derived.Test.YtgoljofmbidkfaaGreatDoorZa
import Derived.Test.YtgoljofmbidkfaaGreatDoorEr
/- Package grid: the edges of a net, cell by cell. No condition. -/
namespace Go.Proofs.YtgoljofmbidkfaaGreatDoor
open Go Go.Eng
set_option maxRecDepth 100000
set_option linter.unusedSimpArgs false
set_option linter.unusedVariables false

/-- The cell over a side of cell c, by number, and which side of it lies there. -/
def nbC (n c s : Nat) : Nat × Nat :=
  (cellQ n (nb n (c / (n * n)) (c % n) (c / n % n) s), (nb n (c / (n * n)) (c % n) (c / n % n) s).2.2.2)
theorem cell_parts {n c : Nat} (hn : 1 ≤ n) (h : c < 6 * (n * n)) : c = cellN n (c / (n * n)) (c % n) (c / n % n) ∧ c / (n * n) < 6 ∧ c % n < n ∧ c / n % n < n := by
  have hnn : 0 < n * n := Nat.mul_pos hn hn
  have e1 := Nat.div_add_mod c n
  have e2 := Nat.div_add_mod (c / n) n
  have e3 : c / n / n = c / (n * n) := Nat.div_div_eq_div_mul ..
  rw [e3] at e2
  refine ⟨?_, (Nat.div_lt_iff_lt_mul hnn).mpr h, Nat.mod_lt _ hn, Nat.mod_lt _ hn⟩
  rw [cellN, Nat.mul_comm (c / (n * n)) n, e2, Nat.mul_comm (c / n) n, e1]
theorem nbC_lt {n c s : Nat} (hn : 1 ≤ n) (h : c < 6 * (n * n)) : (nbC n c s).1 < 6 * (n * n) ∧ (nbC n c s).2 < 4 := by
  obtain ⟨_, h1, h2, h3⟩ := cell_parts hn h
  obtain ⟨k1, k2, k3, k4⟩ := nb_lt (s := s) h1 h2 h3
  exact ⟨cellN_lt k1 k2 k3, k4⟩
theorem beside_c {n c s : Nat} (hn : 1 ≤ n) (hn' : n ≤ 32) (h : c < 6 * (n * n)) (hs : s < 4) (x : List Blk) :
    COk Tryz.prog 3 53 [I n, I c, I s] (GG x) (.tup [I (nbC n c s).1, I (nbC n c s).2]) (GG x) := by
  obtain ⟨h0, h1, h2, h3⟩ := cell_parts hn h
  have := beside_ok n (c / (n * n)) (c % n) (c / n % n) s hn hn' h1 h2 h3 hs x
  rwa [← h0] at this

/-- The edges so far: how many; their numbers in a row; the number over a side of a cell. -/
structure St where
  k : Nat
  l : List Int
  f : Int → Int → Option Int
def stp (n c s : Nat) (q : St) : St :=
  if (nbC n c s).1 < c then q
  else ⟨q.k + 1, q.l ++ [(c : Int), (s : Int), ((nbC n c s).1 : Int), ((nbC n c s).2 : Int)], updM (updM q.f c s q.k) (nbC n c s).1 (nbC n c s).2 q.k⟩
def stps (n c : Nat) : Nat → St → St
  | 0, q => q
  | s + 1, q => stp n c s (stps n c s q)
theorem stp_k (n c s : Nat) (q : St) (h : q.l.length = 4 * q.k) : (stp n c s q).l.length = 4 * (stp n c s q).k ∧ q.k ≤ (stp n c s q).k ∧ (stp n c s q).k ≤ q.k + 1 := by
  unfold stp
  split
  · exact ⟨h, Nat.le_refl _, by omega⟩
  · refine ⟨?_, by simp, by simp⟩
    simp only [List.length_append, List.length_cons, List.length_nil, h]
    omega
abbrev nilS : V := .raw (.slice none 0 0)
/-- The net in the making, behind at least one edge. -/
def gridC (n : Nat) (e b a l g : V) : Blk := ⟨true, .cells [I n, e, .mp 3, b, a, l, g]⟩
def closC : Blk := ⟨true, .cells [.clo (.func 51) [.ptr 4 0] [], .clo (.func 52) [.ptr 4 0] []]⟩
def edC (q : St) : Blk := ⟨true, .gints (q.k - 1) .i64 q.l⟩
def mem1 (n : Nat) (q : St) (g6 : Blk) : List Blk :=
  GG [⟨true, .mpI q.f⟩, gridC n (.gs 7 (q.k - 1) 4 q.k) nilS nilS nilS nilS, closC, g6, edC q]
theorem wrapK {k : Nat} (h : k < 4294967296) : IntKind.i64.wrap ((k : Int) + 1) = ((k + 1 : Nat) : Int) := by
  rw [wrap_id (by omega) (by omega)]; omega
theorem pm : pairMap Tryz.prog 87 = some 139 := by kernel_rfl
theorem sc_mem1 (n : Nat) (q : St) (g6 : Blk) (h6 : g6.b.sc 8 = true) : scM (mem1 n q g6).length (mem1 n q g6) = true := by
  show (_ && (_ && (_ && (_ && (_ && (_ && (g6.b.sc 8 && _))))))) = true
  rw [h6]
  rfl
theorem stps_k (n c : Nat) (q : St) (hq : q.l.length = 4 * q.k) : ∀ s, (stps n c s q).l.length = 4 * (stps n c s q).k ∧ q.k ≤ (stps n c s q).k ∧ (stps n c s q).k ≤ q.k + s := by
  intro s
  induction s with
  | zero => exact ⟨hq, Nat.le_refl _, Nat.le_refl _⟩
  | succ s ih =>
    obtain ⟨h1, h2, h3⟩ := ih
    obtain ⟨k1, k2, k3⟩ := stp_k n c s (stps n c s q) h1
    exact ⟨k1, by show q.k ≤ (stp n c s (stps n c s q)).k; omega, by show (stp n c s (stps n c s q)).k ≤ _; omega⟩
theorem wrapKV {k : Nat} (h : k < 4294967296) : V.int .i64 (IntKind.i64.wrap ((k : Int) + 1)) = I ((k + 1 : Nat) : Int) := by rw [wrapK h]
set_option maxHeartbeats 0 in
theorem addEdges_ok (n c : Nat) (q : St) (g6 : Blk) (hn : 1 ≤ n) (hn' : n ≤ 32) (hc : c < 6 * (n * n)) (hq : q.l.length = 4 * q.k) (hq1 : 1 ≤ q.k) (hq2 : q.k ≤ 100000) (h6 : g6.b.sc 8 = true) :
    COk Tryz.prog 3 51 [.ptr 4 0, I c] (mem1 n q g6) (.tup []) (mem1 n (stps n c 4 q) g6) := by
  refine COk_of_ev Tryz.f51 Tryz.func51 (by kernel_rfl) (Nat.le_refl _) rfl (.inr (sc_mem1 _ _ _ h6)) ?_
  conv => whnf
  refine loop_to (fun s => [.ptr 4 0, I c, .any, .any, .any, .any, .any, I s, .any, .any, .any, .any, .any, .any, .any, .any, .any, .any, .any, .any, .any, .any, .any, .any, .any, .any, .any, .any, .any, .any, .any, .any, .any, .any, .any, .any, .any, .any, .any, .any, .any, .any, .any, .any, .any, .any, .any, .any, .any, .any, .any, .any, .any, .any, .any, .any, .any, .any, .any, .any, .any, .any]) (fun s => mem1 n (stps n c s q) g6) 0 4 (by decide) ?_ ?_ ?_
  · refine Fg.of [] ?_ rfl rfl rfl (sc_mem1 _ _ _ h6)
    conv => whnf
    exact ⟨rfl, rfl, rfl, rfl⟩
  · intro s _ hs
    obtain ⟨h1, h2, h3⟩ := stps_k n c q hq s
    generalize hst : stps n c s q = st at h1 h2 h3
    have hnext : stps n c (s + 1) q = stp n c s st := by rw [← hst]; rfl
    rw [hnext]
    obtain ⟨k, l, f⟩ := st
    obtain ⟨v, rfl⟩ : ∃ v, k = v + 1 := ⟨k - 1, by simp only at h2; omega⟩
    simp only at h1 h2 h3
    conv => whnf
    refine br_d (by omega) ?_
    conv => whnf
    refine ⟨_, _, beside_c hn hn' hc hs _, ?_⟩
    conv => whnf
    refine br_di (fun h => ?_) (fun h => ?_) <;> conv => whnf
    · rw [show stp n c s ⟨v + 1, l, f⟩ = ⟨v + 1, l, f⟩ from if_pos (by omega)]
      refine Fg.of [] ?_ rfl rfl rfl (sc_mem1 _ _ _ h6)
      conv => whnf
      refine ⟨rfl, rfl, wrapKV (by omega), ?_⟩
      exact rfl
    · rw [show stp n c s ⟨v + 1, l, f⟩ = ⟨v + 1 + 1, l ++ [(c : Int), (s : Int), ((nbC n c s).1 : Int), ((nbC n c s).2 : Int)], updM (updM f c s ((v + 1 : Nat) : Int)) (nbC n c s).1 (nbC n c s).2 ((v + 1 : Nat) : Int)⟩ from if_neg (by omega)]
      refine ⟨⟨_, pm⟩, ?_⟩
      conv => whnf
      refine ⟨⟨_, pm⟩, ?_⟩
      conv => whnf
      refine ⟨⟨rfl, rfl, (by show l.length = (v + 1) * 4; omega), (by show (v + 1 + 1) * 32 ≤ _; omega)⟩, ?_⟩
      conv => whnf
      refine Fg.of [_] ?_ rfl rfl rfl (sc_mem1 _ _ _ h6)
      conv => whnf
      refine ⟨rfl, rfl, wrapKV (by omega), ?_⟩
      exact rfl
  · conv => whnf
    exact ⟨rfl, [], by simp⟩
/-- The first cell's edges: from nothing. -/
def q0 : St := ⟨0, [], fun _ _ => none⟩
def g6C (n c : Nat) : Blk := ⟨true, .cells [I c, I (0 : Nat), I (nbC n c 0).1, I (nbC n c 0).2]⟩
theorem stp_first (n c : Nat) (h0 : c = 0) : stp n c 0 q0 = ⟨0 + 1, [(c : Int), ((0 : Nat) : Int), ((nbC n c 0).1 : Int), ((nbC n c 0).2 : Int)], updM (updM (fun _ _ => none) c (0 : Nat) (0 : Nat)) (nbC n c 0).1 (nbC n c 0).2 (0 : Nat)⟩ := if_neg (by omega)
set_option maxHeartbeats 0 in
theorem addEdges_first (n c : Nat) (h0 : c = 0) (hn : 1 ≤ n) (hn' : n ≤ 32) :
    COk Tryz.prog 3 51 [.ptr 4 0, I c] (GG [⟨true, .mpI fun _ _ => none⟩, gridC n nilS nilS nilS nilS nilS, closC]) (.tup []) (mem1 n (stps n c 4 q0) (g6C n c)) := by
  have hc : c < 6 * (n * n) := by have := Nat.mul_pos hn hn; omega
  have h6 : (g6C n c).b.sc 8 = true := rfl
  have hq1 : (stp n c 0 q0).l.length = 4 * (stp n c 0 q0).k := by rw [stp_first n c h0]; rfl
  have hst1 : ∀ s, (stps n c (s + 1) q0).l.length = 4 * (stps n c (s + 1) q0).k ∧ 1 ≤ (stps n c (s + 1) q0).k ∧ (stps n c (s + 1) q0).k ≤ 1 + s := by
    intro s
    induction s with
    | zero => exact ⟨hq1, by rw [show stps n c (0 + 1) q0 = stp n c 0 q0 from rfl, stp_first n c h0]; exact Nat.le_refl _, by rw [show stps n c (0 + 1) q0 = stp n c 0 q0 from rfl, stp_first n c h0]; exact Nat.le_refl _⟩
    | succ s ih =>
      obtain ⟨h1, h2, h3⟩ := ih
      obtain ⟨k1, k2, k3⟩ := stp_k n c (s + 1) (stps n c (s + 1) q0) h1
      exact ⟨k1, by show 1 ≤ (stp n c (s + 1) (stps n c (s + 1) q0)).k; omega, by show (stp n c (s + 1) (stps n c (s + 1) q0)).k ≤ _; omega⟩
  refine COk_of_ev Tryz.f51 Tryz.func51 (by kernel_rfl) (by show 6 ≤ 8; omega) rfl (.inr (sc_mem1 _ _ _ h6)) ?_
  conv => whnf
  refine lr ?_
  conv => whnf
  refine ⟨_, _, beside_c (s := 0) hn hn' hc (by decide) _, ?_⟩
  conv => whnf
  refine br_nd (by omega) ?_
  conv => whnf
  refine ⟨⟨_, pm⟩, ?_⟩
  conv => whnf
  refine ⟨⟨_, pm⟩, ?_⟩
  conv => whnf
  refine ⟨⟨by decide, by decide⟩, ?_⟩
  conv => whnf
  refine loop_to (fun s => [.ptr 4 0, I c, .any, .any, .any, .any, .any, I s, .any, .any, .any, .any, .any, .any, .any, .any, .any, .any, .any, .any, .any, .any, .any, .any, .any, .any, .any, .any, .any, .any, .any, .any, .any, .any, .any, .any, .any, .any, .any, .any, .any, .any, .any, .any, .any, .any, .any, .any, .any, .any, .any, .any, .any, .any, .any, .any, .any, .any, .any, .any, .any, .any]) (fun s => mem1 n (stps n c s q0) (g6C n c)) 1 4 (by decide) ?_ ?_ ?_
  · rw [show stps n c 1 q0 = stp n c 0 q0 from rfl, stp_first n c h0]
    refine Fg.of [] ?_ rfl rfl rfl ?_
    · conv => whnf
      exact ⟨rfl, rfl, wrapKV (k := 0) (by decide), rfl⟩
    · exact sc_mem1 _ _ _ h6
  · intro s hs1 hs
    obtain ⟨h1, h2, h3⟩ := hst1 (s - 1)
    rw [show s - 1 + 1 = s by omega] at h1 h2 h3
    generalize hst : stps n c s q0 = st at h1 h2 h3
    have hnext : stps n c (s + 1) q0 = stp n c s st := by rw [← hst]; rfl
    rw [hnext]
    obtain ⟨k, l, f⟩ := st
    obtain ⟨v, rfl⟩ : ∃ v, k = v + 1 := ⟨k - 1, by simp only at h2; omega⟩
    simp only at h1 h2 h3
    conv => whnf
    refine br_d (by omega) ?_
    conv => whnf
    refine ⟨_, _, beside_c hn hn' hc hs _, ?_⟩
    conv => whnf
    refine br_di (fun h => ?_) (fun h => ?_) <;> conv => whnf
    · rw [show stp n c s ⟨v + 1, l, f⟩ = ⟨v + 1, l, f⟩ from if_pos (by omega)]
      refine Fg.of [] ?_ rfl rfl rfl (sc_mem1 _ _ _ h6)
      conv => whnf
      refine ⟨rfl, rfl, wrapKV (by omega), ?_⟩
      exact rfl
    · rw [show stp n c s ⟨v + 1, l, f⟩ = ⟨v + 1 + 1, l ++ [(c : Int), (s : Int), ((nbC n c s).1 : Int), ((nbC n c s).2 : Int)], updM (updM f c s ((v + 1 : Nat) : Int)) (nbC n c s).1 (nbC n c s).2 ((v + 1 : Nat) : Int)⟩ from if_neg (by omega)]
      refine ⟨⟨_, pm⟩, ?_⟩
      conv => whnf
      refine ⟨⟨_, pm⟩, ?_⟩
      conv => whnf
      refine ⟨⟨rfl, rfl, (by show l.length = (v + 1) * 4; omega), (by show (v + 1 + 1) * 32 ≤ _; omega)⟩, ?_⟩
      conv => whnf
      refine Fg.of [_] ?_ rfl rfl rfl (sc_mem1 _ _ _ h6)
      conv => whnf
      refine ⟨rfl, rfl, wrapKV (by omega), ?_⟩
      exact rfl
  · conv => whnf
    exact ⟨rfl, [], by simp⟩

def areaC (n c : Nat) : Int := areaT n (c / (n * n)) (c % n) (c / n % n)
def lenC (n c s : Nat) : Nat := lenS n (c / (n * n)) (c % n) (c / n % n) s
def gapC (n c s : Nat) : Nat := gapS n (c / (n * n)) (c % n) (c / n % n) s
theorem area_c {n c : Nat} (hn : 1 ≤ n) (hn' : n ≤ 32) (h : c < 6 * (n * n)) (x : List Blk) : COk Tryz.prog 3 110 [I n, I c] (GG x) (I (areaC n c)) (GG x) := by
  obtain ⟨h0, h1, h2, h3⟩ := cell_parts hn h
  have := area_at n (c / (n * n)) (c % n) (c / n % n) hn hn' h1 h2 h3 x
  rwa [← h0] at this
theorem len_c {n c s : Nat} (hn : 1 ≤ n) (hn' : n ≤ 32) (h : c < 6 * (n * n)) (hs : s < 4) (x : List Blk) : COk Tryz.prog 3 54 [I n, I c, I s] (GG x) (F (lenC n c s)) (GG x) := by
  obtain ⟨h0, h1, h2, h3⟩ := cell_parts hn h
  have := glen_in n (c / (n * n)) (c % n) (c / n % n) s hn hn' h1 h2 h3 hs x
  rwa [← h0] at this
theorem gap_c {n c s : Nat} (hn : 1 ≤ n) (hn' : n ≤ 32) (h : c < 6 * (n * n)) (hs : s < 4) (x : List Blk) : COk Tryz.prog 3 55 [I n, I c, I s] (GG x) (F (gapC n c s)) (GG x) := by
  obtain ⟨h0, h1, h2, h3⟩ := cell_parts hn h
  have := ggap_in n (c / (n * n)) (c % n) (c / n % n) s hn hn' h1 h2 h3 hs x
  rwa [← h0] at this
def arL (n : Nat) : Nat → List Int
  | 0 => []
  | c + 1 => arL n c ++ [areaC n c]
theorem arL_len (n : Nat) : ∀ c, (arL n c).length = c
  | 0 => rfl
  | c + 1 => by simp [arL, arL_len n c]
def mem2 (n : Nat) (q : St) (g6 g8 : Blk) (c : Nat) : List Blk :=
  GG [⟨true, .mpI q.f⟩, gridC n (.gs 7 (q.k - 1) 4 q.k) nilS (.gs 9 (c - 1) 1 c) nilS nilS, closC, g6, edC q, g8, ⟨true, .gints (c - 1) .i64 (arL n c)⟩]
theorem sc_mem2 (n : Nat) (q : St) (g6 g8 : Blk) (c : Nat) (h6 : g6.b.sc 10 = true) (h8 : g8.b.sc 10 = true) : scM (mem2 n q g6 g8 c).length (mem2 n q g6 g8 c) = true := by
  show (_ && (_ && (_ && (_ && (_ && (_ && (g6.b.sc 10 && (_ && (g8.b.sc 10 && _))))))))) = true
  rw [h6, h8]
  rfl
def g8C (n c : Nat) : Blk := ⟨true, .cells [I (areaC n c)]⟩
set_option maxHeartbeats 0 in
theorem addArea_first (n c : Nat) (h0 : c = 0) (q : St) (g6 : Blk) (hn : 1 ≤ n) (hn' : n ≤ 32) (h6 : g6.b.sc 10 = true) :
    COk Tryz.prog 3 52 [.ptr 4 0, I c] (mem1 n q g6) (.tup []) (mem2 n q g6 (g8C n c) (c + 1)) := by
  have hc : c < 6 * (n * n) := by have := Nat.mul_pos hn hn; omega
  refine COk_of_ev Tryz.f52 Tryz.func52 (by kernel_rfl) (by show 8 ≤ 10; omega) rfl (.inr (sc_mem2 _ _ _ _ _ h6 rfl)) ?_
  subst h0
  conv => whnf
  refine ⟨_, area_c hn hn' hc _, ?_⟩
  conv => whnf
  refine ⟨⟨by decide, by decide⟩, ?_⟩
  conv => whnf
  exact ⟨rfl, [], rfl⟩
set_option maxHeartbeats 0 in
theorem addArea_ok (n c : Nat) (q : St) (g6 g8 : Blk) (hn : 1 ≤ n) (hn' : n ≤ 32) (hc1 : 1 ≤ c) (hc : c < 6 * (n * n)) (h6 : g6.b.sc 10 = true) (h8 : g8.b.sc 10 = true) :
    COk Tryz.prog 3 52 [.ptr 4 0, I c] (mem2 n q g6 g8 c) (.tup []) (mem2 n q g6 g8 (c + 1)) := by
  refine COk_of_ev Tryz.f52 Tryz.func52 (by kernel_rfl) (by show 10 ≤ 10; omega) rfl (.inr (sc_mem2 _ _ _ _ _ h6 h8)) ?_
  obtain ⟨v, rfl⟩ : ∃ v, c = v + 1 := ⟨c - 1, by omega⟩
  have hb : v + 1 + 1 ≤ 10000 := by
    have : n * n ≤ 32 * 32 := Nat.mul_le_mul hn' hn'
    omega
  conv => whnf
  refine ⟨_, area_c hn hn' hc _, ?_⟩
  conv => whnf
  refine ⟨⟨rfl, rfl, (by show (arL n (v + 1)).length = (v + 1) * 1; rw [arL_len]; omega), (by show (v + 1 + 1) * 8 ≤ _; omega)⟩, ?_⟩
  conv => whnf
  exact ⟨rfl, [_], rfl⟩

/-- An edge: Left, Side, Right, Back. -/
abbrev Ed : Type := Nat × Nat × Nat × Nat
def flatE : List Ed → List Int
  | [] => []
  | x :: l => (x.1 : Int) :: (x.2.1 : Int) :: (x.2.2.1 : Int) :: (x.2.2.2 : Int) :: flatE l
theorem flatE_len : ∀ l : List Ed, (flatE l).length = 4 * l.length
  | [] => rfl
  | x :: l => by simp only [flatE, List.length_cons, flatE_len l]; omega
theorem flatE_app : ∀ l r : List Ed, flatE (l ++ r) = flatE l ++ flatE r
  | [], r => rfl
  | x :: l, r => by simp only [List.cons_append, flatE, flatE_app l r]
theorem flatE_get : ∀ (l : List Ed) (e : Nat) (x : Ed), l[e]? = some x → (flatE l).getD (e * 4) 0 = x.1 ∧ (flatE l).getD (e * 4 + 1) 0 = x.2.1 ∧ (flatE l).getD (e * 4 + 1 + 1) 0 = x.2.2.1 ∧ (flatE l).getD (e * 4 + 1 + 1 + 1) 0 = x.2.2.2
  | [], e, x, h => by simp at h
  | y :: l, 0, x, h => by simp at h; subst h; exact ⟨rfl, rfl, rfl, rfl⟩
  | y :: l, e + 1, x, h => by
    have h : l[e]? = some x := by simpa using h
    obtain ⟨h1, h2, h3, h4⟩ := flatE_get l e x h
    have k : ∀ j, (flatE (y :: l)).getD (4 + j) 0 = (flatE l).getD j 0 := by
      intro j
      simp only [flatE, List.getD_eq_getElem?_getD]
      rw [show 4 + j = j + 1 + 1 + 1 + 1 by omega]
      simp only [List.getElem?_cons_succ]
    rw [show (e + 1) * 4 = 4 + e * 4 by omega, show 4 + e * 4 + 1 = 4 + (e * 4 + 1) by omega, show 4 + (e * 4 + 1) + 1 = 4 + (e * 4 + 1 + 1) by omega, show 4 + (e * 4 + 1 + 1) + 1 = 4 + (e * 4 + 1 + 1 + 1) by omega, k, k, k, k]
    exact ⟨h1, h2, h3, h4⟩
def esC (n c s : Nat) : List Ed := if (nbC n c s).1 < c then [] else [(c, s, (nbC n c s).1, (nbC n c s).2)]
def esS (n c : Nat) : Nat → List Ed
  | 0 => []
  | s + 1 => esS n c s ++ esC n c s
/-- The edges of the cells ahead of c. -/
def esU (n : Nat) : Nat → List Ed
  | 0 => []
  | c + 1 => esU n c ++ esS n c 4
/-- The net's edges. -/
def edges (n : Nat) : List Ed := esU n (6 * (n * n))
def edq (n : Nat) : Nat → St
  | 0 => q0
  | c + 1 => stps n c 4 (edq n c)
theorem stps_es (n c : Nat) (q : St) (es : List Ed) (h1 : q.l = flatE es) (h2 : q.k = es.length) : ∀ s, (stps n c s q).l = flatE (es ++ esS n c s) ∧ (stps n c s q).k = (es ++ esS n c s).length
  | 0 => by simp [stps, esS, h1, h2]
  | s + 1 => by
    obtain ⟨k1, k2⟩ := stps_es n c q es h1 h2 s
    show (stp n c s (stps n c s q)).l = _ ∧ (stp n c s (stps n c s q)).k = _
    unfold stp esS esC
    split
    · simp [k1, k2]
    · refine ⟨?_, ?_⟩
      · simp only [k1]
        rw [← List.append_assoc, flatE_app (es ++ esS n c s) [(c, s, (nbC n c s).1, (nbC n c s).2)]]; rfl
      · simp only [k2, ← List.append_assoc, List.length_append, List.length_cons, List.length_nil]
theorem edq_es (n : Nat) : ∀ c, (edq n c).l = flatE (esU n c) ∧ (edq n c).k = (esU n c).length
  | 0 => ⟨rfl, rfl⟩
  | c + 1 => stps_es n c (edq n c) (esU n c) (edq_es n c).1 (edq_es n c).2 4
theorem edq_bound (n : Nat) : ∀ c, (edq n c).l.length = 4 * (edq n c).k ∧ (edq n c).k ≤ 4 * c
  | 0 => ⟨rfl, Nat.le_refl _⟩
  | c + 1 => by
    obtain ⟨h1, h2⟩ := edq_bound n c
    obtain ⟨k1, k2, k3⟩ := stps_k n c (edq n c) h1 4
    exact ⟨k1, by show (stps n c 4 (edq n c)).k ≤ _; omega⟩
theorem edq_pos (n c : Nat) (hc : 1 ≤ c) : 1 ≤ (edq n c).k := by
  obtain ⟨d, rfl⟩ : ∃ d, c = d + 1 := ⟨c - 1, by omega⟩
  clear hc
  induction d with
  | zero =>
    rw [(edq_es n 1).2]
    show 1 ≤ ([] ++ esS n 0 4).length
    unfold esS esS esS esS
    simp only [List.nil_append, List.length_append]
    have : (esC n 0 0).length = 1 := by unfold esC; rw [if_neg (by omega)]; rfl
    have e : (esS n 0 0).length = 0 := rfl
    omega
  | succ d ih =>
    have h1 := (edq_bound n (d + 1)).1
    have := (stps_k n (d + 1) (edq n (d + 1)) h1 4).2.1
    exact Nat.le_trans ih this
theorem esC_mem {n c s : Nat} (hn : 1 ≤ n) (hc : c < 6 * (n * n)) (hs : s < 4) {x : Ed} (hx : x ∈ esC n c s) : x.1 < 6 * (n * n) ∧ x.2.1 < 4 ∧ x.2.2.1 < 6 * (n * n) ∧ x.2.2.2 < 4 := by
  unfold esC at hx
  split at hx
  · simp at hx
  · simp only [List.mem_cons, List.not_mem_nil, or_false] at hx
    subst hx
    obtain ⟨h1, h2⟩ := nbC_lt (s := s) hn hc
    exact ⟨hc, hs, h1, h2⟩
theorem esU_mem {n : Nat} (hn : 1 ≤ n) : ∀ {c : Nat}, c ≤ 6 * (n * n) → ∀ {x : Ed}, x ∈ esU n c → x.1 < 6 * (n * n) ∧ x.2.1 < 4 ∧ x.2.2.1 < 6 * (n * n) ∧ x.2.2.2 < 4
  | 0, _, x, hx => by simp [esU] at hx
  | c + 1, hc, x, hx => by
    simp only [esU, List.mem_append] at hx
    rcases hx with hx | hx
    · exact esU_mem hn (by omega) hx
    · unfold esS esS esS esS esS at hx
      simp only [List.nil_append, List.mem_append] at hx
      rcases hx with ((hx | hx) | hx) | hx
      · exact esC_mem hn hc (by decide) hx
      · exact esC_mem hn hc (by decide) hx
      · exact esC_mem hn hc (by decide) hx
      · exact esC_mem hn hc (by decide) hx
/-- What is kept of an edge beside its own numbers. -/
def bhE (n : Nat) (x : Ed) : List Int := [((nbC n x.1 ((x.2.1 + 2) % 4)).1 : Int), ((nbC n x.2.2.1 ((x.2.2.2 + 2) % 4)).1 : Int)]
def lnE (n : Nat) (x : Ed) : Nat := lenC n x.1 x.2.1
def gpE (n : Nat) (x : Ed) : Nat := gapC n x.1 x.2.1
def bhL (n : Nat) : List Ed → List Int
  | [] => []
  | x :: l => bhE n x ++ bhL n l
theorem bhL_len (n : Nat) : ∀ l : List Ed, (bhL n l).length = l.length * 2
  | [] => rfl
  | x :: l => by simp [bhL, bhE, bhL_len n l]; omega
theorem bhL_app (n : Nat) : ∀ l r : List Ed, bhL n (l ++ r) = bhL n l ++ bhL n r
  | [], r => rfl
  | x :: l, r => by simp only [List.cons_append, bhL, bhL_app n l r, List.append_assoc]
theorem rdN_edge {v off : Nat} {l : List Int} {a b c d : Int} {K : List V → Prop} (h : off + 4 ≤ l.length) (ha : l.getD off 0 = a) (hb : l.getD (off + 1) 0 = b) (hc : l.getD (off + 1 + 1) 0 = c) (hd : l.getD (off + 1 + 1 + 1) 0 = d)
    (hk : K [I a, I b, I c, I d]) : rdN (.gints v .i64 l) off 4 K := by
  have hb' : ∀ j, j < l.length → Nat.blt j l.length = true := fun j hj => by simpa using hj
  refine br_yes (hb' off (by omega)) ?_
  refine br_yes (hb' (off + 1) (by omega)) ?_
  refine br_yes (hb' (off + 1 + 1) (by omega)) ?_
  refine br_yes (hb' (off + 1 + 1 + 1) (by omega)) ?_
  show K [V.int .i64 (l.getD off 0), V.int .i64 (l.getD (off + 1) 0), V.int .i64 (l.getD (off + 1 + 1) 0), V.int .i64 (l.getD (off + 1 + 1 + 1) 0)]
  rw [ha, hb, hc, hd]
  exact hk
theorem cells_c (n : Nat) (h1 : 1 ≤ n) (h2 : n ≤ 32) (m : List Blk) : COk Tryz.prog 3 50 [I n] m (I (6 * (n * n) : Nat)) m := by
  have := cells_ok n m
  rwa [show cellsI n = ((6 * (n * n) : Nat) : Int) by rw [cellsI, if_pos ⟨by omega, by omega⟩]; simp] at this
/-- The net in the making, behind e + 1 of its edges. -/
def mem3 (n : Nat) (q : St) (g6 g8 g10 g11 g13 g15 : Blk) (e : Nat) (es : List Ed) : List Blk :=
  GG [⟨true, .mpI q.f⟩, gridC n (.gs 7 (q.k - 1) 4 q.k) (.gs 12 (e - 1) 2 e) (.gs 9 (6 * (n * n) - 1) 1 (6 * (n * n))) (.gs 14 (e - 1) 1 e) (.gs 16 (e - 1) 1 e), closC, g6, edC q, g8, ⟨true, .gints (6 * (n * n) - 1) .i64 (arL n (6 * (n * n)))⟩,
    g10, g11, ⟨true, .gints (e - 1) .i64 (bhL n es)⟩, g13, ⟨true, .gflts (e - 1) (es.map (lnE n))⟩, g15, ⟨true, .gflts (e - 1) (es.map (gpE n))⟩]
theorem sc_mem3 (n : Nat) (q : St) (g6 g8 g10 g11 g13 g15 : Blk) (e : Nat) (es : List Ed) (h6 : g6.b.sc 17 = true) (h8 : g8.b.sc 17 = true) (h10 : g10.b.sc 17 = true) (h11 : g11.b.sc 17 = true) (h13 : g13.b.sc 17 = true) (h15 : g15.b.sc 17 = true) :
    scM (mem3 n q g6 g8 g10 g11 g13 g15 e es).length (mem3 n q g6 g8 g10 g11 g13 g15 e es) = true := by
  show (_ && (_ && (_ && (_ && (_ && (_ && (g6.b.sc 17 && (_ && (g8.b.sc 17 && (_ && (g10.b.sc 17 && (g11.b.sc 17 && (_ && (g13.b.sc 17 && (_ && (g15.b.sc 17 && _)))))))))))))))) = true
  rw [h6, h8, h10, h11, h13, h15]
  rfl
theorem wrap4 (s : Nat) (h : s < 4) : (IntKind.i64.wrap ((s : Int) + 2)).tmod 4 = (((s + 2) % 4 : Nat) : Int) := by
  have e : IntKind.i64.wrap ((s : Int) + 2) = ((s + 2 : Nat) : Int) := by rw [wrap_id (by omega) (by omega)]; omega
  rw [e]
  exact (Int.ofNat_tmod (s + 2) 4).symm
def g10C (x : Ed) : Blk := ⟨true, .cells [I x.1, I x.2.1, I x.2.2.1, I x.2.2.2]⟩
def g11C (n : Nat) (x : Ed) : Blk := ⟨true, .cells [I (nbC n x.1 ((x.2.1 + 2) % 4)).1, I (nbC n x.2.2.1 ((x.2.2.2 + 2) % 4)).1]⟩
def g13C (n : Nat) (x : Ed) : Blk := ⟨true, .cells [F (lnE n x)]⟩
def g15C (n : Nat) (x : Ed) : Blk := ⟨true, .cells [F (gpE n x)]⟩
abbrev clo70 : V := .clo (.func 51) [.ptr 4 0] []
abbrev clo71 : V := .clo (.func 52) [.ptr 4 0] []
set_option maxHeartbeats 0 in
theorem new_raw (n : Nat) (hn : 1 ≤ n) (hn' : n ≤ 32) (x0 : Ed) (hx0 : (edges n)[0]? = some x0) :
    COk Tryz.prog 3 15 [I n] (GG []) (.tup [.ptr 4 0, I 0]) (mem3 n (edq n (6 * (n * n))) (g6C n 0) (g8C n 0) (g10C x0) (g11C n x0) (g13C n x0) (g15C n x0) (edges n).length (edges n)) := by
  have hN : 6 ≤ 6 * (n * n) ∧ 6 * (n * n) ≤ 6144 := by
    have h1 := Nat.mul_pos hn hn
    have h2 : n * n ≤ 32 * 32 := Nat.mul_le_mul hn' hn'
    omega
  refine COk_of_ev Tryz.f15 Tryz.func15 (by kernel_rfl) (by show 3 ≤ 17; omega) rfl (.inr (sc_mem3 _ _ _ _ _ _ _ _ _ _ rfl rfl rfl rfl rfl rfl)) ?_
  conv => whnf
  refine ⟨_, _, cells_c n hn hn' _, ?_⟩
  have hpos : 0 < (edges n).length := (List.getElem?_eq_some_iff.1 hx0).1
  have hes : ∀ x ∈ edges n, x.1 < 6 * (n * n) ∧ x.2.1 < 4 ∧ x.2.2.1 < 6 * (n * n) ∧ x.2.2.2 < 4 := fun x hx => esU_mem hn (Nat.le_refl _) hx
  have hql : (edq n (6 * (n * n))).l = flatE (edges n) := (edq_es n _).1
  have hqk : (edq n (6 * (n * n))).k = (edges n).length := (edq_es n _).2
  have hkb : (edges n).length ≤ 4 * (6 * (n * n)) := by rw [← hqk]; exact (edq_bound n _).2
  generalize hNe : 6 * (n * n) = N at hN hql hqk hkb ⊢
  conv => whnf
  refine br_neq (by omega) ?_
  conv => whnf
  refine lr ?_
  conv => whnf
  refine loop_to (fun k => [I n, .any, .any, .any, I N, .ptr 4 0, .any, clo70, .any, .any, .any, .any, .any, .any, .any, .any, .any, .any, .any, .any, .any, .any, .any, .any, .any, .any, .any, .any, .any, .sl 5 0 2, I 2, I 0, .any, .any, .any, I N, I k, .any, .any, .any, .any, .any, .any, .any, .any, .any, .any, .any, .any, .any, .any, .any, .any, .any, .any, .any, .any, .any, .any, .any, .any, .any, .any, .any, .any, .any, .any, .any, .any, .any, .any, .any, .any, .any, .any, .any, .any, .any, .any, .any, .any, .any, .any, .any, .any, .any, .any, .any, .any, .any, .any, .any, .any, .any, .any, .any, .any, .any, .any, .any, .any, .any, .any, .any, .any, .any, .any, .any, .any, .any, .any, .any, .any, .any, .any, .any, .any, .any, .any]) (fun k => if k = 0 then GG [⟨true, .mpI fun _ _ => none⟩, gridC n nilS nilS nilS nilS nilS, closC] else mem1 n (edq n k) (g6C n 0)) 0 N (by omega) ?_ ?_ ?_
  · rw [if_pos rfl]
    refine Fg.of [] ?_ rfl rfl rfl rfl
    conv => whnf
    exact ⟨rfl, rfl, rfl, rfl, rfl, rfl, rfl, rfl, rfl, rfl⟩
  · intro k _ hk
    have hc : k < 6 * (n * n) := by omega
    by_cases h0 : k = 0
    · rw [if_pos h0, if_neg (by omega)]
      conv => whnf
      refine br_d (by omega) ?_
      conv => whnf
      refine ⟨_, _, addEdges_first n k h0 hn hn', ?_⟩
      conv => whnf
      have e1 : mem1 n (stps n k 4 q0) (g6C n k) = mem1 n (edq n (k + 1)) (g6C n 0) := by subst h0; rfl
      refine Fg.of [] ?_ (by rw [List.append_nil]; exact e1) rfl rfl (sc_mem1 _ _ _ rfl)
      conv => whnf
      exact ⟨rfl, rfl, rfl, rfl, rfl, rfl, rfl, rfl, wrapKV (by omega), rfl⟩
    · rw [if_neg h0, if_neg (by omega)]
      conv => whnf
      refine br_d (by omega) ?_
      conv => whnf
      refine ⟨_, _, addEdges_ok n k (edq n k) (g6C n 0) hn hn' hc (edq_bound n k).1 (edq_pos n k (by omega)) (by have := (edq_bound n k).2; omega) rfl, ?_⟩
      conv => whnf
      refine Fg.of [] ?_ (by rw [List.append_nil]; rfl) rfl rfl (sc_mem1 _ _ _ rfl)
      conv => whnf
      exact ⟨rfl, rfl, rfl, rfl, rfl, rfl, rfl, rfl, wrapKV (by omega), rfl⟩
  · rw [if_neg (by omega)]
    conv => whnf
    refine br_nd (by omega) ?_
    conv => whnf
    refine lr ?_
    conv => whnf
    refine loop_to (fun k => [I n, .any, .any, .any, I N, .ptr 4 0, .any, clo71, .any, .any, .any, .any, .any, .any, .any, .any, .any, .any, .any, .any, .any, .any, .any, .any, .any, .any, .any, .any, .any, .sl 5 0 2, I 2, I 1, .any, .any, .any, I N, I k, .any, .any, .any, .any, .any, .any, .any, .any, .any, .any, .any, .any, .any, .any, .any, .any, .any, .any, .any, .any, .any, .any, .any, .any, .any, .any, .any, .any, .any, .any, .any, .any, .any, .any, .any, .any, .any, .any, .any, .any, .any, .any, .any, .any, .any, .any, .any, .any, .any, .any, .any, .any, .any, .any, .any, .any, .any, .any, .any, .any, .any, .any, .any, .any, .any, .any, .any, .any, .any, .any, .any, .any, .any, .any, .any, .any, .any, .any, .any, .any, .any, .any]) (fun k => if k = 0 then mem1 n (edq n N) (g6C n 0) else mem2 n (edq n N) (g6C n 0) (g8C n 0) k) 0 N (by omega) ?_ ?_ ?_
    · rw [if_pos rfl]
      refine Fg.of [] ?_ rfl rfl rfl (sc_mem1 _ _ _ rfl)
      conv => whnf
      exact ⟨rfl, rfl, rfl, rfl, rfl, rfl, rfl, rfl, rfl, rfl⟩
    · intro k _ hk
      have hc : k < 6 * (n * n) := by omega
      by_cases h0 : k = 0
      · rw [if_pos h0, if_neg (by omega)]
        conv => whnf
        refine br_d (by omega) ?_
        conv => whnf
        refine ⟨_, _, addArea_first n k h0 _ _ hn hn' rfl, ?_⟩
        conv => whnf
        refine Fg.of [] ?_ (by rw [List.append_nil]; subst h0; rfl) rfl rfl (sc_mem2 _ _ _ _ _ rfl rfl)
        conv => whnf
        exact ⟨rfl, rfl, rfl, rfl, rfl, rfl, rfl, rfl, wrapKV (by omega), rfl⟩
      · rw [if_neg h0, if_neg (by omega)]
        conv => whnf
        refine br_d (by omega) ?_
        conv => whnf
        refine ⟨_, _, addArea_ok n k _ _ _ hn hn' (by omega) hc rfl rfl, ?_⟩
        conv => whnf
        refine Fg.of [] ?_ (by rw [List.append_nil]) rfl rfl (sc_mem2 _ _ _ _ _ rfl rfl)
        conv => whnf
        exact ⟨rfl, rfl, rfl, rfl, rfl, rfl, rfl, rfl, wrapKV (by omega), rfl⟩
    · rw [if_neg (by omega)]
      conv => whnf
      refine br_nd (by omega) ?_
      conv => whnf
      refine lr ?_
      conv => whnf
      generalize hq : edq n N = q at hql hqk ⊢
      obtain ⟨k, l, f⟩ := q
      simp only at hql hqk
      subst hql hqk
      refine loop_to (fun e => [I n, .any, .any, .any, .any, .ptr 4 0, .any, .any, .any, .any, .any, .any, .any, .any, .any, .any, .any, .any, .any, .any, .any, .any, .any, .any, .any, .any, .any, .any, .any, .any, .any, .any, .any, .any, .any, .any, .any, .any, .any, .any, .any, .any, .any, .any, .any, .any, .any, .gs 7 ((edges n).length - 1) 4 (edges n).length, I (edges n).length, I e, .any, .any, .any, .any, .any, .any, .any, .any, .any, .any, .any, .any, .any, .any, .any, .any, .any, .any, .any, .any, .any, .any, .any, .any, .any, .any, .any, .any, .any, .any, .any, .any, .any, .any, .any, .any, .any, .any, .any, .any, .any, .any, .any, .any, .any, .any, .any, .any, .any, .any, .any, .any, .any, .any, .any, .any, .any, .any, .any, .any, .any, .any, .any, .any, .any, .any, .any, .any, .any]) (fun e => if e = 0 then mem2 n ⟨(edges n).length, flatE (edges n), f⟩ (g6C n 0) (g8C n 0) N else mem3 n ⟨(edges n).length, flatE (edges n), f⟩ (g6C n 0) (g8C n 0) (g10C x0) (g11C n x0) (g13C n x0) (g15C n x0) e ((edges n).take e)) 0 (edges n).length (Nat.zero_le _) ?_ ?_ ?_
      · rw [if_pos rfl]
        refine Fg.of [] ?_ rfl rfl rfl (sc_mem2 _ _ _ _ _ rfl rfl)
        conv => whnf
        exact ⟨rfl, rfl, rfl, rfl, rfl, rfl⟩
      · intro e _ he
        have hx : (edges n)[e]? = some (edges n)[e] := List.getElem?_eq_getElem he
        obtain ⟨hb1, hb2, hb3, hb4⟩ := hes _ (List.getElem_mem he)
        have htk : (edges n).take (e + 1) = (edges n).take e ++ [(edges n)[e]] := by rw [List.take_add_one, hx]; rfl
        have hlen : ((edges n).take e).length = e := by rw [List.length_take]; omega
        generalize hxx : (edges n)[e] = x at *
        obtain ⟨L, S, R, B⟩ := x
        obtain ⟨r1, r2, r3, r4⟩ := flatE_get (edges n) e _ hx
        simp only at r1 r2 r3 r4 hb1 hb2 hb3 hb4
        have hfl := flatE_len (edges n)
        by_cases h0 : e = 0
        · rw [if_pos h0, if_neg (by omega)]
          conv => whnf
          refine br_d (by omega) ?_
          conv => whnf
          refine br_d (by omega) ?_
          conv => whnf
          refine ⟨rfl, ?_⟩
          refine rdN_edge (by show e * 4 + 4 ≤ (flatE (edges n)).length; omega) r1 r2 r3 r4 ?_
          conv => whnf
          rw [wrap4 S hb2]
          refine ⟨_, _, beside_c hn hn' hb1 (by omega) _, ?_⟩
          conv => whnf
          rw [wrap4 B hb4]
          refine ⟨_, _, beside_c hn hn' hb3 (by omega) _, ?_⟩
          conv => whnf
          refine ⟨⟨by decide, (by show 1 * 16 ≤ _; omega)⟩, ?_⟩
          conv => whnf
          refine ⟨_, len_c hn hn' hb1 hb2 _, ?_⟩
          conv => whnf
          refine ⟨⟨by decide, (by show 1 * 8 ≤ _; omega)⟩, ?_⟩
          conv => whnf
          refine ⟨_, gap_c hn hn' hb1 hb2 _, ?_⟩
          conv => whnf
          refine ⟨⟨by decide, (by show 1 * 8 ≤ _; omega)⟩, ?_⟩
          conv => whnf
          obtain rfl : x0 = (L, S, R, B) := by rw [h0, hx0] at hx; exact Option.some.inj hx
          rw [show (edges n).take (e + 1) = [(L, S, R, B)] by rw [htk, h0]; rfl]
          subst hNe
          subst h0
          refine Fg.of [] ?_ rfl rfl rfl (sc_mem3 _ _ _ _ _ _ _ _ _ _ rfl rfl rfl rfl rfl rfl)
          conv => whnf
          exact ⟨rfl, rfl, rfl, rfl, wrapKV (k := 0) (by omega), rfl⟩
        · rw [if_neg h0, if_neg (by omega)]
          rw [htk]
          obtain ⟨u, rfl⟩ : ∃ u, e = u + 1 := ⟨e - 1, by omega⟩
          generalize (edges n).take (u + 1) = T at hlen ⊢
          conv => whnf
          refine br_d (by omega) ?_
          conv => whnf
          refine br_d (by omega) ?_
          conv => whnf
          refine ⟨rfl, ?_⟩
          refine rdN_edge (by show (u + 1) * 4 + 4 ≤ (flatE (edges n)).length; omega) r1 r2 r3 r4 ?_
          conv => whnf
          rw [wrap4 S hb2]
          refine ⟨_, _, beside_c hn hn' hb1 (by omega) _, ?_⟩
          conv => whnf
          rw [wrap4 B hb4]
          refine ⟨_, _, beside_c hn hn' hb3 (by omega) _, ?_⟩
          conv => whnf
          refine ⟨⟨rfl, rfl, (by show (bhL n T).length = (u + 1) * 2; rw [bhL_len, hlen]), (by show (u + 1 + 1) * 16 ≤ _; omega)⟩, ?_⟩
          conv => whnf
          refine ⟨_, len_c hn hn' hb1 hb2 _, ?_⟩
          conv => whnf
          refine ⟨⟨rfl, rfl, (by show (T.map (lnE n)).length = (u + 1) * 1; rw [List.length_map, hlen]; omega), (by show (u + 1 + 1) * 8 ≤ _; omega)⟩, ?_⟩
          conv => whnf
          refine ⟨_, gap_c hn hn' hb1 hb2 _, ?_⟩
          conv => whnf
          refine ⟨⟨rfl, rfl, (by show (T.map (gpE n)).length = (u + 1) * 1; rw [List.length_map, hlen]; omega), (by show (u + 1 + 1) * 8 ≤ _; omega)⟩, ?_⟩
          conv => whnf
          have e1 : bhL n (T ++ [(L, S, R, B)]) = bhL n T ++ [((nbC n L ((S + 2) % 4)).1 : Int), ((nbC n R ((B + 2) % 4)).1 : Int)] := by rw [bhL_app]; rfl
          have e2 : (T ++ [(L, S, R, B)]).map (lnE n) = T.map (lnE n) ++ [lenC n L S] := by rw [List.map_append]; rfl
          have e3 : (T ++ [(L, S, R, B)]).map (gpE n) = T.map (gpE n) ++ [gapC n L S] := by rw [List.map_append]; rfl
          subst hNe
          refine Fg.of [_, _, _, _] ?_ (by unfold mem3; rw [e1, e2, e3]; rfl) rfl rfl (sc_mem3 _ _ _ _ _ _ _ _ _ _ rfl rfl rfl rfl rfl rfl)
          conv => whnf
          exact ⟨rfl, rfl, rfl, rfl, wrapKV (by omega), rfl⟩
      · rw [if_neg (by omega), List.take_length]
        conv => whnf
        refine br_nd (by omega) ?_
        conv => whnf
        subst hNe
        exact ⟨rfl, [], rfl⟩

/-- The edge over a side of a cell, by the pair of both. -/
def numF (n : Nat) : Int → Int → Option Int := (edq n (6 * (n * n))).f
abbrev Bdead : Blk := ⟨false, .dead⟩
/-- A net's blocks; the first of them has the number b. -/
def netAt (n b : Nat) : List Blk :=
  [⟨false, .mpI (numF n)⟩, ⟨false, .cells [I n, .sl (b + 4) 0 (edges n).length, .mp b, .sl (b + 9) 0 (edges n).length, .sl (b + 6) 0 (6 * (n * n)), .sl (b + 11) 0 (edges n).length, .sl (b + 13) 0 (edges n).length]⟩,
    Bdead, Bdead, ⟨false, .ints .i64 (flatE (edges n))⟩, Bdead, ⟨false, .ints .i64 (arL n (6 * (n * n)))⟩, Bdead, Bdead, ⟨false, .ints .i64 (bhL n (edges n))⟩, Bdead, ⟨false, .flts ((edges n).map (lnE n))⟩, Bdead, ⟨false, .flts ((edges n).map (gpE n))⟩]
def stlC (n : Nat) (i : Nat) : Option Nat :=
  match i with
  | 7 => some ((edges n).length - 1)
  | 9 => some (6 * (n * n) - 1)
  | 12 => some ((edges n).length - 1)
  | 14 => some ((edges n).length - 1)
  | 16 => some ((edges n).length - 1)
  | _ => none
theorem stlC_big (n i : Nat) (h : 17 ≤ i) : stlC n i = none := by
  unfold stlC
  split <;> first | omega | rfl
theorem edges_pos (n : Nat) (hn : 1 ≤ n) : 0 < (edges n).length := by
  have h1 := Nat.mul_pos hn hn
  have := edq_pos n (6 * (n * n)) (by omega)
  rw [(edq_es n _).2] at this
  exact this
/-- A net lies in memory, its first block at b. -/
structure Net (m : List Blk) (b n : Nat) : Prop where
  mp : getB m b = ⟨false, .mpI (numF n)⟩
  gr : getB m (b + 1) = ⟨false, .cells [I n, .sl (b + 4) 0 (edges n).length, .mp b, .sl (b + 9) 0 (edges n).length, .sl (b + 6) 0 (6 * (n * n)), .sl (b + 11) 0 (edges n).length, .sl (b + 13) 0 (edges n).length]⟩
  ed : getB m (b + 4) = ⟨false, .ints .i64 (flatE (edges n))⟩
  ar : getB m (b + 6) = ⟨false, .ints .i64 (arL n (6 * (n * n)))⟩
  bh : getB m (b + 9) = ⟨false, .ints .i64 (bhL n (edges n))⟩
  ln : getB m (b + 11) = ⟨false, .flts ((edges n).map (lnE n))⟩
  gp : getB m (b + 13) = ⟨false, .flts ((edges n).map (gpE n))⟩
  lt : b + 14 ≤ m.length
theorem Net.more {m : List Blk} {b n : Nat} (h : Net m b n) (x : List Blk) : Net (m ++ x) b n := by
  have hlt := h.lt
  have e : ∀ i, i < m.length → getB (m ++ x) i = getB m i := fun i hi => by
    rw [getB_eq, getB_eq, List.getD_eq_getElem?_getD, List.getD_eq_getElem?_getD, List.getElem?_append_left hi]
  exact ⟨by rw [e _ (by omega)]; exact h.mp, by rw [e _ (by omega)]; exact h.gr, by rw [e _ (by omega)]; exact h.ed, by rw [e _ (by omega)]; exact h.ar, by rw [e _ (by omega)]; exact h.bh, by rw [e _ (by omega)]; exact h.ln, by rw [e _ (by omega)]; exact h.gp, by simp; omega⟩
theorem addB_of {m : List Blk} {b : Blk} {K : Nat → List Blk → Prop} (h : K m.length (m ++ [b])) : addB m b K := by rw [addB_eq]; exact h
theorem setB_of {m : List Blk} {b c : Blk} {K : List Blk → Prop} (h : K (m ++ [c])) : setB (m ++ [b]) m.length c K := by rw [setB_eq]; simpa using h
theorem getB_last (m : List Blk) (b : Blk) : getB (m ++ [b]) m.length = b := by
  rw [getB_eq, List.getD_eq_getElem?_getD]; simp
theorem arL_get (n : Nat) : ∀ (k c : Nat), c < k → (arL n k).getD c 0 = areaC n c
  | 0, c, h => absurd h (Nat.not_lt_zero c)
  | k + 1, c, h => by
    simp only [arL, List.getD_eq_getElem?_getD]
    rcases Nat.lt_or_ge c k with h1 | h1
    · rw [List.getElem?_append_left (by rw [arL_len]; exact h1), ← List.getD_eq_getElem?_getD]
      exact arL_get n k c h1
    · obtain rfl : c = k := by omega
      rw [List.getElem?_append_right (by rw [arL_len]; exact Nat.le_refl _), arL_len]
      simp
section
variable {m : List Blk} {b n : Nat} (N : Net m b n)
include N
theorem gcells_ok : COk Tryz.prog 3 35 [.ptr (b + 1) 0] m (I (6 * (n * n) : Nat)) m := by
  refine COk_quiet Tryz.f35 Tryz.func35 (by kernel_rfl) rfl ?_
  conv => whnf
  rw [N.gr]
  conv => whnf
  exact ⟨rfl, [], by simp⟩
theorem gedges_ok : COk Tryz.prog 3 47 [.ptr (b + 1) 0] m (I (edges n).length) m := by
  refine COk_quiet Tryz.f47 Tryz.func47 (by kernel_rfl) rfl ?_
  conv => whnf
  rw [N.gr]
  conv => whnf
  exact ⟨rfl, [], by simp⟩
theorem is_ok (e : Int) : COk Tryz.prog 3 107 [.ptr (b + 1) 0, I e] m (Bo (decide (0 ≤ e ∧ e < (edges n).length))) m := by
  refine COk_quiet Tryz.f107 Tryz.func107 (by kernel_rfl) rfl ?_
  conv => whnf
  refine br_intro (fun h => ?_) (fun h => ?_) <;> conv => whnf
  · rw [N.gr]
    conv => whnf
    refine ⟨?_, [], by simp⟩
    congr 1
    have h : 0 ≤ e := of_decide_eq_true h
    simp [h]
  · refine ⟨?_, [], by simp⟩
    congr 1
    have h : ¬ 0 ≤ e := of_decide_eq_false h
    simp [h]
theorem edge_ok (e : Nat) (x : Ed) (hx : (edges n)[e]? = some x) : COk Tryz.prog 3 48 [.ptr (b + 1) 0, I e] m (.tup [.agg [I x.1, I x.2.1, I x.2.2.1, I x.2.2.2], Bo true]) m := by
  have he : e < (edges n).length := (List.getElem?_eq_some_iff.1 hx).1
  obtain ⟨r1, r2, r3, r4⟩ := flatE_get (edges n) e _ hx
  have hfl := flatE_len (edges n)
  refine COk_quiet Tryz.f48 Tryz.func48 (by kernel_rfl) rfl ?_
  conv => whnf
  refine addB_of ?_
  conv => whnf
  refine ⟨_, _, is_ok (N.more _) e, ?_⟩
  rw [decide_eq_true ⟨by omega, by omega⟩]
  conv => whnf
  rw [(N.more _).gr]
  conv => whnf
  refine br_d ⟨by omega, by omega⟩ ?_
  conv => whnf
  rw [(N.more _).ed]
  have hbl : ∀ j, j < (flatE (edges n)).length → Nat.blt j (flatE (edges n)).length = true := fun j hj => by simpa using hj
  conv => whnf
  refine br_yes (hbl (0 + e * 4) (by omega)) ?_
  conv => whnf
  refine br_yes (hbl (0 + e * 4 + 1) (by omega)) ?_
  conv => whnf
  refine br_yes (hbl (0 + e * 4 + 1 + 1) (by omega)) ?_
  conv => whnf
  refine br_yes (hbl (0 + e * 4 + 1 + 1 + 1) (by omega)) ?_
  conv => whnf
  rw [getB_last]
  conv => whnf
  refine setB_of ?_
  conv => whnf
  rw [getB_last]
  conv => whnf
  refine ⟨?_, _, rfl⟩
  show V.tup [.agg [I ((flatE (edges n)).getD (0 + e * 4) 0), I ((flatE (edges n)).getD (0 + e * 4 + 1) 0), I ((flatE (edges n)).getD (0 + e * 4 + 1 + 1) 0), I ((flatE (edges n)).getD (0 + e * 4 + 1 + 1 + 1) 0)], Bo true] = _
  rw [Nat.zero_add, r1, r2, r3, r4]
theorem area_ok (c : Nat) (hc : c < 6 * (n * n)) : COk Tryz.prog 3 43 [.ptr (b + 1) 0, I c] m (I (areaC n c)) m := by
  refine COk_quiet Tryz.f43 Tryz.func43 (by kernel_rfl) rfl ?_
  conv => whnf
  rw [N.gr]
  conv => whnf
  refine br_nd (by omega) ?_
  conv => whnf
  rw [N.gr]
  conv => whnf
  refine br_d ⟨by omega, by omega⟩ ?_
  conv => whnf
  rw [N.ar]
  conv => whnf
  refine br_yes (show Nat.blt (0 + c * 1) (arL n (6 * (n * n))).length = true by rw [arL_len]; simp; omega) ?_
  conv => whnf
  refine ⟨?_, [], by simp⟩
  show I ((arL n (6 * (n * n))).getD (0 + c * 1) 0) = _
  rw [show 0 + c * 1 = c by omega, arL_get n _ c hc]
theorem around_ok (c s : Int) (e : Nat) (x : Ed) (h : numF n c s = some (e : Int)) (hx : (edges n)[e]? = some x) : COk Tryz.prog 3 38 [.ptr (b + 1) 0, I c, I s] m (.tup [I e, I (if (x.1 : Int) = c then 1 else -1)]) m := by
  have he : e < (edges n).length := (List.getElem?_eq_some_iff.1 hx).1
  obtain ⟨r1, _, _, _⟩ := flatE_get (edges n) e _ hx
  have hfl := flatE_len (edges n)
  refine COk_quiet Tryz.f38 Tryz.func38 (by kernel_rfl) rfl ?_
  conv => whnf
  rw [N.gr]
  conv => whnf
  refine ⟨⟨_, pm⟩, ?_⟩
  rw [N.mp]
  conv => whnf
  rw [h]
  conv => whnf
  rw [N.gr]
  conv => whnf
  refine br_d ⟨by omega, by omega⟩ ?_
  conv => whnf
  rw [N.ed]
  conv => whnf
  refine br_yes (show Nat.blt (0 + e * 4 + 0) (flatE (edges n)).length = true by simp; omega) ?_
  conv => whnf
  show br ((flatE (edges n)).getD (0 + e * 4 + 0) 0 == c) _ _
  rw [show (flatE (edges n)).getD (0 + e * 4 + 0) 0 = (x.1 : Int) by rw [show 0 + e * 4 + 0 = e * 4 by omega]; exact r1]
  by_cases hc : (x.1 : Int) = c
  · rw [if_pos hc]
    refine br_eq hc ?_
    conv => whnf
    exact ⟨rfl, [], by simp⟩
  · rw [if_neg hc]
    refine br_neq hc ?_
    conv => whnf
    exact ⟨rfl, [], by simp⟩
end
theorem cellN_parts {n f i j : Nat} (hi : i < n) (hj : j < n) : cellN n f i j / (n * n) = f ∧ cellN n f i j % n = i ∧ cellN n f i j / n % n = j := by
  have hn : 0 < n := by omega
  unfold cellN
  have e1 : ((f * n + j) * n + i) / n = f * n + j := by
    rw [Nat.mul_comm (f * n + j) n, Nat.mul_add_div hn, Nat.div_eq_of_lt hi, Nat.add_zero]
  have e2 : (f * n + j) / n = f := by
    rw [Nat.mul_comm f n, Nat.mul_add_div hn, Nat.div_eq_of_lt hj, Nat.add_zero]
  refine ⟨?_, ?_, ?_⟩
  · rw [← Nat.div_div_eq_div_mul, e1, e2]
  · rw [Nat.mul_comm (f * n + j) n, Nat.mul_add_mod, Nat.mod_eq_of_lt hi]
  · rw [e1, Nat.mul_comm f n, Nat.mul_add_mod, Nat.mod_eq_of_lt hj]
section
variable {n : Nat} (hn : 1 ≤ n)
include hn
theorem nbC_back {c s : Nat} (hc : c < 6 * (n * n)) (hs : s < 4) : nbC n (nbC n c s).1 (nbC n c s).2 = (c, s) := by
  obtain ⟨h0, h1, h2, h3⟩ := cell_parts hn hc
  obtain ⟨k1, k2, k3, k4⟩ := nb_lt (s := s) h1 h2 h3
  obtain ⟨p1, p2, p3⟩ := cellN_parts (f := (nb n (c / (n * n)) (c % n) (c / n % n) s).1) k2 k3
  have hb := nb_back h1 h2 h3 hs
  show (cellQ n (nb n _ _ _ _), (nb n _ _ _ _).2.2.2) = (c, s)
  unfold nbC
  simp only
  rw [p1, p2, p3, hb]
  exact Prod.ext h0.symm rfl
theorem nbC_ne {c s : Nat} (hc : c < 6 * (n * n)) (hs : s < 4) : (nbC n c s).1 ≠ c ∧ (nbC n c s).1 ≠ (nbC n c ((s + 2) % 4)).1 := by
  obtain ⟨h0, h1, h2, h3⟩ := cell_parts hn hc
  obtain ⟨k1, k2, k3, k4⟩ := nb_lt (s := s) h1 h2 h3
  obtain ⟨l1, l2, l3, l4⟩ := nb_lt (s := (s + 2) % 4) h1 h2 h3
  obtain ⟨p1, p2, p3⟩ := cellN_parts (f := (nb n (c / (n * n)) (c % n) (c / n % n) s).1) k2 k3
  obtain ⟨q1, q2, q3⟩ := cellN_parts (f := (nb n (c / (n * n)) (c % n) (c / n % n) ((s + 2) % 4)).1) l2 l3
  obtain ⟨m1, m2⟩ := nb_cell h1 h2 h3 hs
  refine ⟨fun e => ?_, fun e => ?_⟩
  · have e : cellN n (nb n (c / (n * n)) (c % n) (c / n % n) s).1 (nb n (c / (n * n)) (c % n) (c / n % n) s).2.1 (nb n (c / (n * n)) (c % n) (c / n % n) s).2.2.1 = c := e
    rw [e] at p1 p2 p3
    exact m1 (by rw [← p1, ← p2, ← p3])
  · have e : cellN n (nb n (c / (n * n)) (c % n) (c / n % n) s).1 (nb n (c / (n * n)) (c % n) (c / n % n) s).2.1 (nb n (c / (n * n)) (c % n) (c / n % n) s).2.2.1 = cellN n (nb n (c / (n * n)) (c % n) (c / n % n) ((s + 2) % 4)).1 (nb n (c / (n * n)) (c % n) (c / n % n) ((s + 2) % 4)).2.1 (nb n (c / (n * n)) (c % n) (c / n % n) ((s + 2) % 4)).2.2.1 := e
    rw [e] at p1 p2 p3
    refine m2 ?_
    rw [← p1, ← p2, ← p3, q1, q2, q3]
end

/-! ### The edges' numbers -/
/-- The number of the edge whose Left is c, over its side s. -/
def iC (n c s : Nat) : Nat := (esU n c).length + (esS n c s).length
theorem esS_pre (n c : Nat) : ∀ s t, s ≤ t → ∃ r, esS n c t = esS n c s ++ r
  | s, 0, h => ⟨[], by obtain rfl : s = 0 := by omega
                       simp⟩
  | s, t + 1, h => by
    by_cases e : s = t + 1
    · subst e; exact ⟨[], by simp⟩
    · obtain ⟨r, hr⟩ := esS_pre n c s t (by omega)
      exact ⟨r ++ esC n c t, by simp [esS, hr]⟩
theorem esU_pre (n : Nat) : ∀ c d, c ≤ d → ∃ r, esU n d = esU n c ++ r
  | c, 0, h => ⟨[], by obtain rfl : c = 0 := by omega
                       simp⟩
  | c, d + 1, h => by
    by_cases e : c = d + 1
    · subst e; exact ⟨[], by simp⟩
    · obtain ⟨r, hr⟩ := esU_pre n c d (by omega)
      exact ⟨r ++ esS n d 4, by simp [esU, hr]⟩
theorem edge_at {n c s : Nat} (hc : c < 6 * (n * n)) (hs : s < 4) (h : c < (nbC n c s).1) : (edges n)[iC n c s]? = some (c, s, (nbC n c s).1, (nbC n c s).2) := by
  obtain ⟨r, hr⟩ := esU_pre n (c + 1) (6 * (n * n)) hc
  obtain ⟨q, hq⟩ := esS_pre n c (s + 1) 4 hs
  unfold edges
  rw [hr]
  simp only [esU]
  rw [hq]
  simp only [esS]
  rw [show esC n c s = [(c, s, (nbC n c s).1, (nbC n c s).2)] from if_neg (by omega)]
  unfold iC
  simp only [List.append_assoc]
  rw [List.getElem?_append_right (by omega), show (esU n c).length + (esS n c s).length - (esU n c).length = (esS n c s).length by omega, List.getElem?_append_right (Nat.le_refl _), Nat.sub_self]
  rfl
/-- Every edge has such a place. -/
theorem edge_of {n : Nat} (hn : 1 ≤ n) {k : Nat} {x : Ed} (hx : (edges n)[k]? = some x) : x.1 < 6 * (n * n) ∧ x.2.1 < 4 ∧ x.1 < x.2.2.1 ∧ x.2.2.1 < 6 * (n * n) ∧ x.2.2.2 < 4 ∧ nbC n x.1 x.2.1 = (x.2.2.1, x.2.2.2) ∧ k = iC n x.1 x.2.1 := by
  have keyS : ∀ c, c < 6 * (n * n) → ∀ s, s ≤ 4 → ∀ k, (esS n c s)[k]? = some x → x.1 = c ∧ x.2.1 < s ∧ c < x.2.2.1 ∧ nbC n c x.2.1 = (x.2.2.1, x.2.2.2) ∧ k = (esS n c x.2.1).length := by
    intro c hc s
    induction s with
    | zero => intro _ k h; simp [esS] at h
    | succ s ih =>
      intro hs k h
      simp only [esS] at h
      rcases Nat.lt_or_ge k (esS n c s).length with h1 | h1
      · rw [List.getElem?_append_left h1] at h
        obtain ⟨a1, a2, a3⟩ := ih (by omega) k h
        exact ⟨a1, by omega, a3⟩
      · rw [List.getElem?_append_right h1] at h
        unfold esC at h
        split at h
        · simp at h
        · rename_i hno
          have hk : k - (esS n c s).length = 0 := by
            have := (List.getElem?_eq_some_iff.1 h).1; simp at this; omega
          rw [hk] at h
          simp only [List.getElem?_cons_zero, Option.some.injEq] at h
          subst h
          have := (nbC_ne hn hc (show s < 4 by omega)).1
          refine ⟨rfl, Nat.lt_succ_self _, by simp only; omega, rfl, by simp only; omega⟩
  have keyU : ∀ c, c ≤ 6 * (n * n) → ∀ k, (esU n c)[k]? = some x → x.1 < c ∧ x.2.1 < 4 ∧ x.1 < x.2.2.1 ∧ nbC n x.1 x.2.1 = (x.2.2.1, x.2.2.2) ∧ k = iC n x.1 x.2.1 := by
    intro c
    induction c with
    | zero => intro _ k h; simp [esU] at h
    | succ c ih =>
      intro hc k h
      simp only [esU] at h
      rcases Nat.lt_or_ge k (esU n c).length with h1 | h1
      · rw [List.getElem?_append_left h1] at h
        obtain ⟨a1, a2⟩ := ih (by omega) k h
        exact ⟨by omega, a2⟩
      · rw [List.getElem?_append_right h1] at h
        obtain ⟨a1, a2, a3, a4, a5⟩ := keyS c hc 4 (Nat.le_refl _) _ h
        rw [a1]
        exact ⟨Nat.lt_succ_self _, a2, a3, a4, by unfold iC; omega⟩
  obtain ⟨a1, a2, a3, a4, a5⟩ := keyU _ (Nat.le_refl _) k hx
  have hl := nbC_lt (s := x.2.1) hn a1
  rw [a4] at hl
  exact ⟨a1, a2, a3, hl.1, hl.2, a4, a5⟩

/-! ### The number over a side -/
/-- What the map knows when the cells ahead of c are through, and of c the sides ahead of s. -/
def Known (n c s : Nat) (f : Int → Int → Option Int) : Prop :=
  ∀ a t, a < 6 * (n * n) → t < 4 → a < (nbC n a t).1 → (a < c ∨ (a = c ∧ t < s)) → f a t = some ((iC n a t : Nat) : Int) ∧ f (nbC n a t).1 (nbC n a t).2 = some ((iC n a t : Nat) : Int)
theorem known_step {n c s : Nat} (hn : 1 ≤ n) (hc : c < 6 * (n * n)) (hs : s < 4) {q : St} (hk : q.k = iC n c s) (h : Known n c s q.f) : Known n c (s + 1) (stp n c s q).f := by
  intro a t ha ht hlt hab
  obtain ⟨hne, _⟩ := nbC_ne hn hc hs
  by_cases hact : a = c ∧ t = s
  · obtain ⟨rfl, rfl⟩ := hact
    rw [show stp n a t q = ⟨q.k + 1, q.l ++ [(a : Int), (t : Int), ((nbC n a t).1 : Int), ((nbC n a t).2 : Int)], updM (updM q.f a t q.k) (nbC n a t).1 (nbC n a t).2 q.k⟩ from if_neg (by omega)]
    simp only
    rw [hk]
    constructor
    · unfold updM
      rw [if_neg (by omega), if_pos ⟨rfl, rfl⟩]
    · unfold updM
      rw [if_pos ⟨rfl, rfl⟩]
  · have hold := h a t ha ht hlt (by omega)
    unfold stp
    split
    · exact hold
    · rename_i hno
      have hb := nbC_back hn hc hs
      have hb2 := nbC_back hn ha ht
      -- the four keys are apart
      have key : ∀ p r : Nat, ((p = a ∧ r = t) ∨ (p = (nbC n a t).1 ∧ r = (nbC n a t).2)) → updM (updM q.f c s q.k) (nbC n c s).1 (nbC n c s).2 q.k (p : Int) (r : Int) = q.f p r := by
        intro p r hpr
        unfold updM
        rw [if_neg, if_neg]
        · rintro ⟨e1, e2⟩
          have e1 : p = c := by omega
          have e2 : r = s := by omega
          rcases hpr with ⟨rfl, rfl⟩ | ⟨rfl, rfl⟩
          · exact hact ⟨e1, e2⟩
          · rw [e1, e2] at hb2
            rw [hb2] at hno
            simp only at hno
            omega
        · rintro ⟨e1, e2⟩
          have e1 : p = (nbC n c s).1 := by omega
          have e2 : r = (nbC n c s).2 := by omega
          rcases hpr with ⟨rfl, rfl⟩ | ⟨rfl, rfl⟩
          · rw [← e1, ← e2] at hb
            rw [hb] at hlt
            simp only at hlt
            omega
          · rw [e1, e2] at hb2
            rw [hb] at hb2
            simp only [Prod.mk.injEq] at hb2
            exact hact ⟨hb2.1.symm, hb2.2.symm⟩
      exact ⟨by simp only; rw [key a t (.inl ⟨rfl, rfl⟩)]; exact hold.1, by simp only; rw [key _ _ (.inr ⟨rfl, rfl⟩)]; exact hold.2⟩
theorem stps_known {n c : Nat} (hn : 1 ≤ n) (hc : c < 6 * (n * n)) {q : St} (h1 : q.l = flatE (esU n c)) (h2 : q.k = (esU n c).length) (h : Known n c 0 q.f) : ∀ s, s ≤ 4 → Known n c s (stps n c s q).f
  | 0, _ => h
  | s + 1, hs => known_step hn hc (by omega) (by rw [(stps_es n c q _ h1 h2 s).2, List.length_append]; rfl) (stps_known hn hc h1 h2 h s (by omega))
theorem edq_known {n : Nat} (hn : 1 ≤ n) : ∀ c, c ≤ 6 * (n * n) → Known n c 0 (edq n c).f
  | 0, _ => fun a t _ _ _ h => by omega
  | c + 1, hc => by
    have ih := edq_known hn c (by omega)
    have := stps_known hn hc (edq_es n c).1 (edq_es n c).2 ih 4 (Nat.le_refl _)
    intro a t ha ht hlt hab
    exact this a t ha ht hlt (by omega)
/-- The number over a side of a cell is that of the edge that lies there. -/
theorem num_at {n c s : Nat} (hn : 1 ≤ n) (hc : c < 6 * (n * n)) (hs : s < 4) : ∃ e x, numF n c s = some ((e : Nat) : Int) ∧ (edges n)[e]? = some x ∧
    ((x = (c, s, (nbC n c s).1, (nbC n c s).2) ∧ c < (nbC n c s).1) ∨ (x = ((nbC n c s).1, (nbC n c s).2, c, s) ∧ (nbC n c s).1 < c)) := by
  have hK := edq_known hn _ (Nat.le_refl (6 * (n * n)))
  obtain ⟨hl1, hl2⟩ := nbC_lt (s := s) hn hc
  have hb := nbC_back hn hc hs
  rcases Nat.lt_or_ge c (nbC n c s).1 with h | h
  · exact ⟨iC n c s, _, (hK c s hc hs h (.inl hc)).1, edge_at hc hs h, .inl ⟨rfl, h⟩⟩
  · have hne := (nbC_ne hn hc hs).1
    have hlt : (nbC n c s).1 < (nbC n (nbC n c s).1 (nbC n c s).2).1 := by rw [hb]; simp only; omega
    have h1 := (hK _ _ hl1 hl2 hlt (.inl hl1)).2
    have h2 := edge_at hl1 hl2 hlt
    rw [hb] at h1 h2
    exact ⟨_, _, h1, h2, .inr ⟨rfl, by omega⟩⟩
theorem num_left {n k : Nat} {x : Ed} (hn : 1 ≤ n) (hx : (edges n)[k]? = some x) : numF n x.1 x.2.1 = some (k : Int) ∧ numF n x.2.2.1 x.2.2.2 = some (k : Int) := by
  obtain ⟨h1, h2, h3, h4, h5, h6, h7⟩ := edge_of hn hx
  have hK := edq_known hn _ (Nat.le_refl (6 * (n * n)))
  have := hK x.1 x.2.1 h1 h2 (by rw [h6]; exact h3) (.inl h1)
  rw [h6, ← h7] at this
  exact this

/-! ### How many edges -/
theorem nodup_le {α : Type} [DecidableEq α] : ∀ {l r : List α}, l.Nodup → (∀ x ∈ l, x ∈ r) → l.length ≤ r.length
  | [], r, _, _ => Nat.zero_le _
  | a :: l, r, hd, hs => by
    rw [List.nodup_cons] at hd
    have h1 := hs a (List.mem_cons_self ..)
    have h2 := nodup_le (l := l) (r := r.erase a) hd.2 (fun x hx => (List.mem_erase_of_ne (fun e => hd.1 (by rw [← e]; exact hx))).2 (hs x (List.mem_cons_of_mem _ hx)))
    rw [List.length_erase_of_mem h1] at h2
    have := List.length_pos_of_mem h1
    rw [List.length_cons]; omega
theorem nodup_map {α β : Type} {f : α → β} {l : List α} (h : l.Nodup) (hf : ∀ a ∈ l, ∀ b ∈ l, f a = f b → a = b) : (l.map f).Nodup := by
  unfold List.Nodup
  rw [List.pairwise_map]
  exact List.Pairwise.imp_of_mem (fun ha hb hne e => hne (hf _ ha _ hb e)) h
/-- All pairs of a cell and a side. -/
def keys (n : Nat) : List (Nat × Nat) := (List.range (6 * (n * n))).flatMap fun c => (List.range 4).map fun s => (c, s)
theorem keys_mem {n : Nat} {k : Nat × Nat} : k ∈ keys n ↔ k.1 < 6 * (n * n) ∧ k.2 < 4 := by
  unfold keys
  simp only [List.mem_flatMap, List.mem_range, List.mem_map]
  constructor
  · rintro ⟨c, hc, s, hs, rfl⟩; exact ⟨hc, hs⟩
  · rintro ⟨h1, h2⟩; exact ⟨k.1, h1, k.2, h2, rfl⟩
theorem keysU_len : ∀ N : Nat, ((List.range N).flatMap fun c => (List.range 4).map fun s => (c, s)).length = 4 * N
  | 0 => rfl
  | N + 1 => by rw [List.range_succ (n := N), List.flatMap_append, List.length_append, keysU_len N]; simp; omega
theorem keysU_nodup : ∀ N : Nat, ((List.range N).flatMap fun c => (List.range 4).map fun s => (c, s)).Nodup
  | 0 => List.Pairwise.nil
  | N + 1 => by
    rw [List.range_succ (n := N), List.flatMap_append, List.nodup_append]
    refine ⟨keysU_nodup N, ?_, ?_⟩
    · simp only [List.flatMap_cons, List.flatMap_nil, List.append_nil]
      exact nodup_map List.nodup_range fun a _ b _ h => (Prod.mk.inj h).2
    · intro a ha b hb e
      simp only [List.mem_flatMap, List.mem_range, List.mem_map, List.flatMap_cons, List.flatMap_nil, List.append_nil] at ha hb
      obtain ⟨c, hc, s, hs, rfl⟩ := ha
      obtain ⟨s', hs', rfl⟩ := hb
      have := (Prod.mk.inj e).1
      omega
def isL (n : Nat) (k : Nat × Nat) : Bool := decide (k.1 < (nbC n k.1 k.2).1)
theorem edges_count (n : Nat) : ∀ N, (esU n N).length = (((List.range N).flatMap fun c => (List.range 4).map fun s => (c, s)).filter fun k => !decide ((nbC n k.1 k.2).1 < k.1)).length
  | 0 => rfl
  | N + 1 => by
    rw [List.range_succ (n := N), List.flatMap_append, List.filter_append, List.length_append, ← edges_count n N]
    simp only [esU, List.length_append, List.flatMap_cons, List.flatMap_nil, List.append_nil]
    congr 1
    have hc : ∀ s, (esC n N s).length = if (nbC n N s).1 < N then 0 else 1 := by
      intro s; unfold esC; split <;> rfl
    have h4 : (List.range 4).map (fun s => (N, s)) = [(N, 0), (N, 1), (N, 2), (N, 3)] := rfl
    rw [h4]
    have e0 : (esS n N 0).length = 0 := rfl
    simp only [esS, List.length_append, hc, List.filter_cons, List.filter_nil]
    by_cases c0 : (nbC n N 0).1 < N <;> by_cases c1 : (nbC n N 1).1 < N <;> by_cases c2 : (nbC n N 2).1 < N <;> by_cases c3 : (nbC n N 3).1 < N <;> simp [c0, c1, c2, c3]
theorem edges_len {n : Nat} (hn : 1 ≤ n) : (edges n).length = 12 * (n * n) := by
  have hno : ∀ k ∈ keys n, (!decide ((nbC n k.1 k.2).1 < k.1)) = isL n k := by
    intro k hk
    obtain ⟨h1, h2⟩ := keys_mem.1 hk
    have := (nbC_ne hn h1 h2).1
    unfold isL
    by_cases h : (nbC n k.1 k.2).1 < k.1
    · have h' : ¬ k.1 < (nbC n k.1 k.2).1 := by omega
      simp [h, h']
    · have h' : k.1 < (nbC n k.1 k.2).1 := by omega
      simp [h, h']
  have hE : (edges n).length = ((keys n).filter (isL n)).length := by
    rw [show (edges n).length = (esU n (6 * (n * n))).length from rfl, edges_count]
    show ((keys n).filter _).length = _
    rw [List.filter_congr hno]
  have hinj : ∀ a ∈ keys n, ∀ b ∈ keys n, nbC n a.1 a.2 = nbC n b.1 b.2 → a = b := by
    intro a ha b hb e
    obtain ⟨h1, h2⟩ := keys_mem.1 ha
    obtain ⟨h3, h4⟩ := keys_mem.1 hb
    have e1 := nbC_back hn h1 h2
    have e2 := nbC_back hn h3 h4
    rw [e, e2] at e1
    exact e1.symm
  have hnd : (keys n).Nodup := keysU_nodup _
  have himg : ∀ k ∈ keys n, (nbC n k.1 k.2) ∈ keys n ∧ isL n (nbC n k.1 k.2) = !isL n k := by
    intro k hk
    obtain ⟨h1, h2⟩ := keys_mem.1 hk
    refine ⟨keys_mem.2 (nbC_lt hn h1), ?_⟩
    have hb := nbC_back hn h1 h2
    have := (nbC_ne hn h1 h2).1
    unfold isL
    rw [hb]
    simp only
    by_cases h : k.1 < (nbC n k.1 k.2).1
    · have h' : ¬ (nbC n k.1 k.2).1 < k.1 := by omega
      simp [h, h']
    · have h' : (nbC n k.1 k.2).1 < k.1 := by omega
      simp [h, h']
  have key : ∀ p q : Nat × Nat → Bool, (∀ k ∈ keys n, p k = true → q (nbC n k.1 k.2) = true) → ((keys n).filter p).length ≤ ((keys n).filter q).length := by
    intro p q hpq
    have := nodup_le (l := ((keys n).filter p).map fun k => nbC n k.1 k.2) (r := (keys n).filter q)
      (nodup_map (List.Pairwise.filter _ hnd) fun a ha b hb => hinj a (List.mem_filter.1 ha).1 b (List.mem_filter.1 hb).1) (fun x hx => by
        obtain ⟨k, hk, rfl⟩ := List.mem_map.1 hx
        obtain ⟨h1, h2⟩ := List.mem_filter.1 hk
        exact List.mem_filter.2 ⟨(himg k h1).1, hpq k h1 h2⟩)
    rwa [List.length_map] at this
  have h1 := key (isL n) (fun k => !isL n k) (fun k hk h => by rw [(himg k hk).2, h]; rfl)
  have h2 := key (fun k => !isL n k) (isL n) (fun k hk h => by rw [(himg k hk).2]; exact h)
  have h3 : ((keys n).filter (isL n)).length + ((keys n).filter fun k => !isL n k).length = (keys n).length := by
    generalize keys n = l
    induction l with
    | nil => rfl
    | cons a l ih =>
      simp only [List.filter_cons, List.length_cons]
      cases isL n a <;> simp <;> omega
  have h4 : (keys n).length = 4 * (6 * (n * n)) := keysU_len _
  omega

/-! ### New, wherever memory stands -/
theorem net_here (n : Nat) (M x : List Blk) : Net (M ++ (netAt n M.length ++ x)) M.length n := by
  have e : ∀ j, j < 14 → getB (M ++ (netAt n M.length ++ x)) (M.length + j) = getB (netAt n M.length ++ x) j := by
    intro j hj
    rw [getB_eq, getB_eq, List.getD_eq_getElem?_getD, List.getD_eq_getElem?_getD, List.getElem?_append_right (by omega), show M.length + j - M.length = j by omega]
  exact ⟨e 0 (by decide), e 1 (by decide), e 4 (by decide), e 6 (by decide), e 9 (by decide), e 11 (by decide), e 13 (by decide), by simp [netAt]⟩
/-- A call that makes its blocks behind the globals makes them behind any memory. -/
theorem COk.shift {f : FuncId} {args : List V} {N : List Blk} {r : V} (h : COk Tryz.prog 3 f args (GG []) r (GG [] ++ N)) (hs : scM (GG [] ++ N).length (GG [] ++ N) = true) (hw : ∀ b ∈ N, b.w = true)
    (ha : scL 3 args = true) (hr : r.sc (GG [] ++ N).length = true) (x : List Blk) :
    COk Tryz.prog 3 f (renL (fun i => i) args) (GG x) (r.ren (rho1 (fun i => i) 3 (GG x).length)) (GG x ++ N.map (Blk.ren (rho1 (fun i => i) 3 (GG x).length))) := by
  refine COk.reloc (M := GG x) (fun i => i) h ?_ ha hr
  have hro : ∀ i, 3 ≤ i → rho1 (fun i => i) (GG []).length (GG x).length i = (GG x).length + (i - 3) := by
    intro i hi
    unfold rho1
    rw [if_neg (by show ¬ i < 3; omega)]; rfl
  refine ⟨Nat.le_refl 3, fun _ _ => rfl, fun _ _ _ _ h => h, fun i hi => ?_, fun i b hb => ?_, rfl, fun i b hb hw => ?_, by rw [List.length_append]; omega, by simp; omega, hs, fun i b hb => ?_, fun k hk _ => List.getElem?_append_left hk, fun i b hb => ?_⟩
  · have hi : i < 3 := hi
    show i < x.length + 1 + 1 + 1
    omega
  · have hi : i < 3 := (List.getElem?_eq_some_iff.1 hb).1
    obtain rfl | rfl | rfl : i = 0 ∨ i = 1 ∨ i = 2 := by omega
    all_goals
      cases hb
      rfl
  · have hi : i < 3 := (List.getElem?_eq_some_iff.1 hb).1
    obtain rfl | rfl | rfl : i = 0 ∨ i = 1 ∨ i = 2 := by omega
    all_goals
      cases hb
      exact nomatch hw
  · obtain rfl | rfl | rfl | h3 : i = 0 ∨ i = 1 ∨ i = 2 ∨ 3 ≤ i := by omega
    · cases hb; rfl
    · cases hb; rfl
    · cases hb; rfl
    · rw [hro i h3, List.getElem?_append_right (by omega), show (GG x).length + (i - 3) - (GG x).length = i - 3 by omega, List.getElem?_map]
      rw [List.getElem?_append_right (by show 3 ≤ i; omega)] at hb
      rw [show i - (GG []).length = i - 3 from rfl] at hb
      rw [hb]; rfl
  · rcases Nat.lt_or_ge i 3 with h3 | h3
    · rw [List.getElem?_append_left (by show i < 3; exact h3)] at hb
      exact .inr ⟨h3, hb⟩
    · rw [List.getElem?_append_right (by show 3 ≤ i; exact h3)] at hb
      exact .inl (hw b (List.mem_of_getElem? hb))
/-- Which of a net's blocks have grown, by their place behind its first. -/
def stlN (n : Nat) (j : Nat) : Option Nat := stlC n (j + 3)
def stlB (n b i : Nat) : Option Nat := if i < b then none else stlN n (i - b)
theorem stlB_at (n b j : Nat) : stlB n b (b + j) = stlN n j := by
  unfold stlB
  rw [if_neg (by omega), show b + j - b = j by omega]
set_option maxHeartbeats 0 in
theorem new_at (n : Nat) (hn : 1 ≤ n) (hn' : n ≤ 32) (x : List Blk) : COk Tryz.prog 3 15 [I n] (GG x) (.tup [.ptr ((GG x).length + 1) 0, I 0]) (GG x ++ netAt n (GG x).length) := by
  have hpos := edges_pos n hn
  have h := new_raw n hn hn' _ (List.getElem?_eq_getElem hpos)
  generalize (edges n)[0] = x0 at h
  have hq1 : (edq n (6 * (n * n))).l = flatE (edges n) := (edq_es n _).1
  have hq2 : (edq n (6 * (n * n))).k = (edges n).length := (edq_es n _).2
  have hq3 : (edq n (6 * (n * n))).f = numF n := rfl
  have hs := sc_mem3 n (edq n (6 * (n * n))) (g6C n 0) (g8C n 0) (g10C x0) (g11C n x0) (g13C n x0) (g15C n x0) (edges n).length (edges n) rfl rfl rfl rfl rfl rfl
  have h1 := COk.shift (N := (mem3 n (edq n (6 * (n * n))) (g6C n 0) (g8C n 0) (g10C x0) (g11C n x0) (g13C n x0) (g15C n x0) (edges n).length (edges n)).drop 3) h hs (by
    intro b hb
    have hb : b ∈ [_, _, _, _, _, _, _, _, _, _, _, _, _, _] := hb
    simp only [List.mem_cons, List.not_mem_nil, or_false] at hb
    obtain rfl | rfl | rfl | rfl | rfl | rfl | rfl | rfl | rfl | rfl | rfl | rfl | rfl | rfl := hb
    all_goals rfl) rfl rfl x
  have h2 := COk.settle (N' := netAt n (GG x).length) (stlB n (GG x).length) h1 ?_ ?_ ?_ ?_
  · exact h2
  · intro i hi
    exact if_pos hi
  · intro i hi
    have hi : (GG x).length + 14 ≤ i := hi
    obtain ⟨j, rfl⟩ : ∃ j, i = (GG x).length + (14 + j) := ⟨i - (GG x).length - 14, by omega⟩
    rw [stlB_at]
    exact stlC_big n _ (by omega)
  · exact ⟨trivial, trivial, trivial⟩
  · generalize (GG x).length = B
    have hat := stlB_at n B
    unfold mem3
    rw [hq3]
    have hk : (edq n (6 * (n * n))).k - 1 = (edges n).length - 1 := by rw [hq2]
    refine ⟨.same (hat 0) (fun h => nomatch h) (fun j v hv => nomatch hv), ?_⟩
    refine ⟨.row (hat 1) (fun h => nomatch h) ⟨trivial, ?_, trivial, ?_, ?_, ?_, ?_, trivial⟩ ?_, ?_⟩
    · intro u hu; rw [hk]; exact (Option.some.inj ((hat 4).symm.trans hu)).symm
    · intro u hu; exact (Option.some.inj ((hat 9).symm.trans hu)).symm
    · intro u hu; exact (Option.some.inj ((hat 6).symm.trans hu)).symm
    · intro u hu; exact (Option.some.inj ((hat 11).symm.trans hu)).symm
    · intro u hu; exact (Option.some.inj ((hat 13).symm.trans hu)).symm
    · rw [hq2]
      show _ = stlL (stlB n B) [I n, .gs (B + 4) ((edges n).length - 1) 4 (edges n).length, .mp (B + 0), .gs (B + 9) ((edges n).length - 1) 2 (edges n).length, .gs (B + 6) (6 * (n * n) - 1) 1 (6 * (n * n)), .gs (B + 11) ((edges n).length - 1) 1 (edges n).length, .gs (B + 13) ((edges n).length - 1) 1 (edges n).length]
      simp only [stlL, V.stl, hat]
      rfl
    refine ⟨.gone (.inl (hat 2)) (.inl rfl), .gone (.inl (hat 3)) (.inl rfl), ?_, .gone (.inl (hat 5)) (.inl rfl), .ints (hat 6) (fun h => nomatch h), .gone (.inl (hat 7)) (.inl rfl), .gone (.inl (hat 8)) (.inl rfl), .ints (hat 9) (fun h => nomatch h), .gone (.inl (hat 10)) (.inl rfl), .flts (hat 11) (fun h => nomatch h), .gone (.inl (hat 12)) (.inl rfl), .flts (hat 13) (fun h => nomatch h), trivial⟩
    unfold edC
    rw [hq1, hk]
    exact .ints (hat 4) (fun h => nomatch h)

mutual
theorem V.sc_mono {k l : Nat} (h : k ≤ l) : ∀ v : V, v.sc k = true → v.sc l = true
  | .bool b, _ => rfl
  | .int _ _, _ => rfl
  | .fl o, _ => rfl
  | .raw v, _ => rfl
  | .any, _ => rfl
  | .ptr i off, hv => by simp only [V.sc] at *; simp at *; omega
  | .sl i off len, hv => by simp only [V.sc] at *; simp at *; omega
  | .mp i, hv => by simp only [V.sc] at *; simp at *; omega
  | .sk i off len k, hv => by simp only [V.sc] at *; simp at *; omega
  | .gp i v off, hv => by simp only [V.sc] at *; simp at *; omega
  | .gs i v e len, hv => by simp only [V.sc] at *; simp at *; omega
  | .agg cs, hv => scL_mono h cs hv
  | .tup cs, hv => scL_mono h cs hv
  | .clo fn a b, hv => by
    simp only [V.sc, Bool.and_eq_true] at *
    exact ⟨scL_mono h a hv.1, scL_mono h b hv.2⟩
theorem scL_mono {k l : Nat} (h : k ≤ l) : ∀ vs : List V, scL k vs = true → scL l vs = true
  | [], _ => rfl
  | v :: vs, hv => by
    simp only [scL, Bool.and_eq_true] at *
    exact ⟨V.sc_mono h v hv.1, scL_mono h vs hv.2⟩
end
theorem B.sc_mono {k l : Nat} (h : k ≤ l) (b : B) (hb : b.sc k = true) : b.sc l = true := by
  cases b <;> first
    | exact scL_mono h _ hb
    | exact hb
    | rfl
theorem scM_mono {k l : Nat} (h : k ≤ l) : ∀ m : List Blk, scM k m = true → scM l m = true
  | [], _ => rfl
  | b :: m, hb => by
    simp only [scM, Bool.and_eq_true] at *
    exact ⟨B.sc_mono h b.b hb.1, scM_mono h m hb.2⟩
theorem scM_app {k : Nat} : ∀ {l r : List Blk}, scM k l = true → scM k r = true → scM k (l ++ r) = true
  | [], r, _, h => h
  | b :: l, r, h, h' => by
    simp only [scM, List.cons_append, Bool.and_eq_true] at *
    exact ⟨h.1, scM_app h.2 h'⟩
theorem netAt_sc (n b : Nat) : scM (b + 14) (netAt n b) = true := by
  simp [netAt, scM, B.sc, scL, V.sc]
theorem new_shut_sc (n : Nat) (hn : 1 ≤ n) (hn' : n ≤ 32) (x : List Blk) (hx : scM (GG x).length (GG x) = true) : ∃ b M, COk Tryz.prog 3 15 [I n] (GG x) (.tup [.ptr (b + 1) 0, I 0]) M ∧ Net M b n ∧ scM M.length M = true ∧ ∃ y, M = GG (x ++ y) := by
  refine ⟨_, _, new_at n hn hn' x, ?_, ?_, _, rfl⟩
  · have := net_here n (GG x) []
    rwa [List.append_nil] at this
  · exact scM_app (scM_mono (by simp) _ hx) (by rw [List.length_append]; exact netAt_sc n _)
end Go.Proofs.YtgoljofmbidkfaaGreatDoor
