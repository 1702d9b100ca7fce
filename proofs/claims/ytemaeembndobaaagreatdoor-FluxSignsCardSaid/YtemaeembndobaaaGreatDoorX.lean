/- Package grid: New. No condition. -/
import Derived.Test.YtemaeembndobaaaGreatDoorW
namespace Go.Proofs.YtemaeembndobaaaGreatDoor
open Go Go.Eng
set_option maxRecDepth 100000
set_option linter.unusedSimpArgs false
set_option linter.unusedVariables false

/-- An edge: Left, Side, Right, Back. -/
abbrev Ed : Type := Nat × Nat × Nat × Nat
def flatE : List Ed → List Int
  | [] => []
  | x :: l => (x.1 : Int) :: (x.2.1 : Int) :: (x.2.2.1 : Int) :: (x.2.2.2 : Int) :: flatE l
theorem flatE_len : ∀ l : List Ed, (flatE l).length = 4 * l.length
  | [] => rfl
  | x :: l => by simp only [flatE, List.length_cons, flatE_len l]; omega
theorem flatE_app : ∀ l r : List Ed, flatE (l ++ r) = flatE l ++ flatE r
  | [], r => rfl
  | x :: l, r => by simp only [List.cons_append, flatE, flatE_app l r]
theorem flatE_get : ∀ (l : List Ed) (e : Nat) (x : Ed), l[e]? = some x → (flatE l).getD (e * 4) 0 = x.1 ∧ (flatE l).getD (e * 4 + 1) 0 = x.2.1 ∧ (flatE l).getD (e * 4 + 1 + 1) 0 = x.2.2.1 ∧ (flatE l).getD (e * 4 + 1 + 1 + 1) 0 = x.2.2.2
  | [], e, x, h => by simp at h
  | y :: l, 0, x, h => by simp at h; subst h; exact ⟨rfl, rfl, rfl, rfl⟩
  | y :: l, e + 1, x, h => by
    have h : l[e]? = some x := by simpa using h
    obtain ⟨h1, h2, h3, h4⟩ := flatE_get l e x h
    have k : ∀ j, (flatE (y :: l)).getD (4 + j) 0 = (flatE l).getD j 0 := by
      intro j
      simp only [flatE, List.getD_eq_getElem?_getD]
      rw [show 4 + j = j + 1 + 1 + 1 + 1 by omega]
      simp only [List.getElem?_cons_succ]
    rw [show (e + 1) * 4 = 4 + e * 4 by omega, show 4 + e * 4 + 1 = 4 + (e * 4 + 1) by omega, show 4 + (e * 4 + 1) + 1 = 4 + (e * 4 + 1 + 1) by omega, show 4 + (e * 4 + 1 + 1) + 1 = 4 + (e * 4 + 1 + 1 + 1) by omega, k, k, k, k]
    exact ⟨h1, h2, h3, h4⟩
def esC (n c s : Nat) : List Ed := if (nbC n c s).1 < c then [] else [(c, s, (nbC n c s).1, (nbC n c s).2)]
def esS (n c : Nat) : Nat → List Ed
  | 0 => []
  | s + 1 => esS n c s ++ esC n c s
/-- The edges of the cells ahead of c. -/
def esU (n : Nat) : Nat → List Ed
  | 0 => []
  | c + 1 => esU n c ++ esS n c 4
/-- The net's edges. -/
def edges (n : Nat) : List Ed := esU n (6 * (n * n))
def edq (n : Nat) : Nat → St
  | 0 => q0
  | c + 1 => stps n c 4 (edq n c)
theorem stps_es (n c : Nat) (q : St) (es : List Ed) (h1 : q.l = flatE es) (h2 : q.k = es.length) : ∀ s, (stps n c s q).l = flatE (es ++ esS n c s) ∧ (stps n c s q).k = (es ++ esS n c s).length
  | 0 => by simp [stps, esS, h1, h2]
  | s + 1 => by
    obtain ⟨k1, k2⟩ := stps_es n c q es h1 h2 s
    show (stp n c s (stps n c s q)).l = _ ∧ (stp n c s (stps n c s q)).k = _
    unfold stp esS esC
    split
    · simp [k1, k2]
    · refine ⟨?_, ?_⟩
      · simp only [k1]
        rw [← List.append_assoc, flatE_app (es ++ esS n c s) [(c, s, (nbC n c s).1, (nbC n c s).2)]]; rfl
      · simp only [k2, ← List.append_assoc, List.length_append, List.length_cons, List.length_nil]
theorem edq_es (n : Nat) : ∀ c, (edq n c).l = flatE (esU n c) ∧ (edq n c).k = (esU n c).length
  | 0 => ⟨rfl, rfl⟩
  | c + 1 => stps_es n c (edq n c) (esU n c) (edq_es n c).1 (edq_es n c).2 4
theorem edq_bound (n : Nat) : ∀ c, (edq n c).l.length = 4 * (edq n c).k ∧ (edq n c).k ≤ 4 * c
  | 0 => ⟨rfl, Nat.le_refl _⟩
  | c + 1 => by
    obtain ⟨h1, h2⟩ := edq_bound n c
    obtain ⟨k1, k2, k3⟩ := stps_k n c (edq n c) h1 4
    exact ⟨k1, by show (stps n c 4 (edq n c)).k ≤ _; omega⟩
theorem edq_pos (n c : Nat) (hc : 1 ≤ c) : 1 ≤ (edq n c).k := by
  obtain ⟨d, rfl⟩ : ∃ d, c = d + 1 := ⟨c - 1, by omega⟩
  clear hc
  induction d with
  | zero =>
    rw [(edq_es n 1).2]
    show 1 ≤ ([] ++ esS n 0 4).length
    unfold esS esS esS esS
    simp only [List.nil_append, List.length_append]
    have : (esC n 0 0).length = 1 := by unfold esC; rw [if_neg (by omega)]; rfl
    have e : (esS n 0 0).length = 0 := rfl
    omega
  | succ d ih =>
    have h1 := (edq_bound n (d + 1)).1
    have := (stps_k n (d + 1) (edq n (d + 1)) h1 4).2.1
    exact Nat.le_trans ih this
theorem esC_mem {n c s : Nat} (hn : 1 ≤ n) (hc : c < 6 * (n * n)) (hs : s < 4) {x : Ed} (hx : x ∈ esC n c s) : x.1 < 6 * (n * n) ∧ x.2.1 < 4 ∧ x.2.2.1 < 6 * (n * n) ∧ x.2.2.2 < 4 := by
  unfold esC at hx
  split at hx
  · simp at hx
  · simp only [List.mem_cons, List.not_mem_nil, or_false] at hx
    subst hx
    obtain ⟨h1, h2⟩ := nbC_lt (s := s) hn hc
    exact ⟨hc, hs, h1, h2⟩
theorem esU_mem {n : Nat} (hn : 1 ≤ n) : ∀ {c : Nat}, c ≤ 6 * (n * n) → ∀ {x : Ed}, x ∈ esU n c → x.1 < 6 * (n * n) ∧ x.2.1 < 4 ∧ x.2.2.1 < 6 * (n * n) ∧ x.2.2.2 < 4
  | 0, _, x, hx => by simp [esU] at hx
  | c + 1, hc, x, hx => by
    simp only [esU, List.mem_append] at hx
    rcases hx with hx | hx
    · exact esU_mem hn (by omega) hx
    · unfold esS esS esS esS esS at hx
      simp only [List.nil_append, List.mem_append] at hx
      rcases hx with ((hx | hx) | hx) | hx
      · exact esC_mem hn hc (by decide) hx
      · exact esC_mem hn hc (by decide) hx
      · exact esC_mem hn hc (by decide) hx
      · exact esC_mem hn hc (by decide) hx
/-- What is kept of an edge beside its own numbers. -/
def bhE (n : Nat) (x : Ed) : List Int := [((nbC n x.1 ((x.2.1 + 2) % 4)).1 : Int), ((nbC n x.2.2.1 ((x.2.2.2 + 2) % 4)).1 : Int)]
def lnE (n : Nat) (x : Ed) : Nat := lenC n x.1 x.2.1
def gpE (n : Nat) (x : Ed) : Nat := gapC n x.1 x.2.1
def bhL (n : Nat) : List Ed → List Int
  | [] => []
  | x :: l => bhE n x ++ bhL n l
theorem bhL_len (n : Nat) : ∀ l : List Ed, (bhL n l).length = l.length * 2
  | [] => rfl
  | x :: l => by simp [bhL, bhE, bhL_len n l]; omega
theorem bhL_app (n : Nat) : ∀ l r : List Ed, bhL n (l ++ r) = bhL n l ++ bhL n r
  | [], r => rfl
  | x :: l, r => by simp only [List.cons_append, bhL, bhL_app n l r, List.append_assoc]
theorem rdN_edge {v off : Nat} {l : List Int} {a b c d : Int} {K : List V → Prop} (h : off + 4 ≤ l.length) (ha : l.getD off 0 = a) (hb : l.getD (off + 1) 0 = b) (hc : l.getD (off + 1 + 1) 0 = c) (hd : l.getD (off + 1 + 1 + 1) 0 = d)
    (hk : K [I a, I b, I c, I d]) : rdN (.gints v .i64 l) off 4 K := by
  have hb' : ∀ j, j < l.length → Nat.blt j l.length = true := fun j hj => by simpa using hj
  refine br_yes (hb' off (by omega)) ?_
  refine br_yes (hb' (off + 1) (by omega)) ?_
  refine br_yes (hb' (off + 1 + 1) (by omega)) ?_
  refine br_yes (hb' (off + 1 + 1 + 1) (by omega)) ?_
  show K [V.int .i64 (l.getD off 0), V.int .i64 (l.getD (off + 1) 0), V.int .i64 (l.getD (off + 1 + 1) 0), V.int .i64 (l.getD (off + 1 + 1 + 1) 0)]
  rw [ha, hb, hc, hd]
  exact hk
theorem cells_c (n : Nat) (h1 : 1 ≤ n) (h2 : n ≤ 32) (m : List Blk) : COk Tryz.prog 3 50 [I n] m (I (6 * (n * n) : Nat)) m := by
  have := cells_ok n m
  rwa [show cellsI n = ((6 * (n * n) : Nat) : Int) by rw [cellsI, if_pos ⟨by omega, by omega⟩]; simp] at this
/-- The net in the making, behind e + 1 of its edges. -/
def mem3 (n : Nat) (q : St) (g6 g8 g10 g11 g13 g15 : Blk) (e : Nat) (es : List Ed) : List Blk :=
  GG [⟨true, .mpI q.f⟩, gridC n (.gs 7 (q.k - 1) 4 q.k) (.gs 12 (e - 1) 2 e) (.gs 9 (6 * (n * n) - 1) 1 (6 * (n * n))) (.gs 14 (e - 1) 1 e) (.gs 16 (e - 1) 1 e), closC, g6, edC q, g8, ⟨true, .gints (6 * (n * n) - 1) .i64 (arL n (6 * (n * n)))⟩,
    g10, g11, ⟨true, .gints (e - 1) .i64 (bhL n es)⟩, g13, ⟨true, .gflts (e - 1) (es.map (lnE n))⟩, g15, ⟨true, .gflts (e - 1) (es.map (gpE n))⟩]
theorem sc_mem3 (n : Nat) (q : St) (g6 g8 g10 g11 g13 g15 : Blk) (e : Nat) (es : List Ed) (h6 : g6.b.sc 17 = true) (h8 : g8.b.sc 17 = true) (h10 : g10.b.sc 17 = true) (h11 : g11.b.sc 17 = true) (h13 : g13.b.sc 17 = true) (h15 : g15.b.sc 17 = true) :
    scM (mem3 n q g6 g8 g10 g11 g13 g15 e es).length (mem3 n q g6 g8 g10 g11 g13 g15 e es) = true := by
  show (_ && (_ && (_ && (_ && (_ && (_ && (g6.b.sc 17 && (_ && (g8.b.sc 17 && (_ && (g10.b.sc 17 && (g11.b.sc 17 && (_ && (g13.b.sc 17 && (_ && (g15.b.sc 17 && _)))))))))))))))) = true
  rw [h6, h8, h10, h11, h13, h15]
  rfl
theorem wrap4 (s : Nat) (h : s < 4) : (IntKind.i64.wrap ((s : Int) + 2)).tmod 4 = (((s + 2) % 4 : Nat) : Int) := by
  have e : IntKind.i64.wrap ((s : Int) + 2) = ((s + 2 : Nat) : Int) := by rw [wrap_id (by omega) (by omega)]; omega
  rw [e]
  exact (Int.ofNat_tmod (s + 2) 4).symm
def g10C (x : Ed) : Blk := ⟨true, .cells [I x.1, I x.2.1, I x.2.2.1, I x.2.2.2]⟩
def g11C (n : Nat) (x : Ed) : Blk := ⟨true, .cells [I (nbC n x.1 ((x.2.1 + 2) % 4)).1, I (nbC n x.2.2.1 ((x.2.2.2 + 2) % 4)).1]⟩
def g13C (n : Nat) (x : Ed) : Blk := ⟨true, .cells [F (lnE n x)]⟩
def g15C (n : Nat) (x : Ed) : Blk := ⟨true, .cells [F (gpE n x)]⟩
abbrev clo70 : V := .clo (.func 51) [.ptr 4 0] []
abbrev clo71 : V := .clo (.func 52) [.ptr 4 0] []
set_option maxHeartbeats 0 in
theorem new_raw (n : Nat) (hn : 1 ≤ n) (hn' : n ≤ 32) (x0 : Ed) (hx0 : (edges n)[0]? = some x0) :
    COk Tryz.prog 3 14 [I n] (GG []) (.tup [.ptr 4 0, I 0]) (mem3 n (edq n (6 * (n * n))) (g6C n 0) (g8C n 0) (g10C x0) (g11C n x0) (g13C n x0) (g15C n x0) (edges n).length (edges n)) := by
  have hN : 6 ≤ 6 * (n * n) ∧ 6 * (n * n) ≤ 6144 := by
    have h1 := Nat.mul_pos hn hn
    have h2 : n * n ≤ 32 * 32 := Nat.mul_le_mul hn' hn'
    omega
  refine COk_of_ev Tryz.f14 Tryz.func14 (by kernel_rfl) (by show 3 ≤ 17; omega) rfl (.inr (sc_mem3 _ _ _ _ _ _ _ _ _ _ rfl rfl rfl rfl rfl rfl)) ?_
  conv => whnf
  refine ⟨_, _, cells_c n hn hn' _, ?_⟩
  have hpos : 0 < (edges n).length := (List.getElem?_eq_some_iff.1 hx0).1
  have hes : ∀ x ∈ edges n, x.1 < 6 * (n * n) ∧ x.2.1 < 4 ∧ x.2.2.1 < 6 * (n * n) ∧ x.2.2.2 < 4 := fun x hx => esU_mem hn (Nat.le_refl _) hx
  have hql : (edq n (6 * (n * n))).l = flatE (edges n) := (edq_es n _).1
  have hqk : (edq n (6 * (n * n))).k = (edges n).length := (edq_es n _).2
  have hkb : (edges n).length ≤ 4 * (6 * (n * n)) := by rw [← hqk]; exact (edq_bound n _).2
  generalize hNe : 6 * (n * n) = N at hN hql hqk hkb ⊢
  conv => whnf
  refine br_neq (by omega) ?_
  conv => whnf
  refine lr ?_
  conv => whnf
  refine loop_to (fun k => [I n, .any, .any, .any, I N, .ptr 4 0, .any, clo70, .any, .any, .any, .any, .any, .any, .any, .any, .any, .any, .any, .any, .any, .any, .any, .any, .any, .any, .any, .any, .any, .sl 5 0 2, I 2, I 0, .any, .any, .any, I N, I k, .any, .any, .any, .any, .any, .any, .any, .any, .any, .any, .any, .any, .any, .any, .any, .any, .any, .any, .any, .any, .any, .any, .any, .any, .any, .any, .any, .any, .any, .any, .any, .any, .any, .any, .any, .any, .any, .any, .any, .any, .any, .any, .any, .any, .any, .any, .any, .any, .any, .any, .any, .any, .any, .any, .any, .any, .any, .any, .any, .any, .any, .any, .any, .any, .any, .any, .any, .any, .any, .any, .any, .any, .any, .any, .any, .any, .any, .any, .any, .any, .any, .any]) (fun k => if k = 0 then GG [⟨true, .mpI fun _ _ => none⟩, gridC n nilS nilS nilS nilS nilS, closC] else mem1 n (edq n k) (g6C n 0)) 0 N (by omega) ?_ ?_ ?_
  · rw [if_pos rfl]
    refine Fg.of [] ?_ rfl rfl rfl rfl
    conv => whnf
    exact ⟨rfl, rfl, rfl, rfl, rfl, rfl, rfl, rfl, rfl, rfl⟩
  · intro k _ hk
    have hc : k < 6 * (n * n) := by omega
    by_cases h0 : k = 0
    · rw [if_pos h0, if_neg (by omega)]
      conv => whnf
      refine br_d (by omega) ?_
      conv => whnf
      refine ⟨_, _, addEdges_first n k h0 hn hn', ?_⟩
      conv => whnf
      have e1 : mem1 n (stps n k 4 q0) (g6C n k) = mem1 n (edq n (k + 1)) (g6C n 0) := by subst h0; rfl
      refine Fg.of [] ?_ (by rw [List.append_nil]; exact e1) rfl rfl (sc_mem1 _ _ _ rfl)
      conv => whnf
      exact ⟨rfl, rfl, rfl, rfl, rfl, rfl, rfl, rfl, wrapKV (by omega), rfl⟩
    · rw [if_neg h0, if_neg (by omega)]
      conv => whnf
      refine br_d (by omega) ?_
      conv => whnf
      refine ⟨_, _, addEdges_ok n k (edq n k) (g6C n 0) hn hn' hc (edq_bound n k).1 (edq_pos n k (by omega)) (by have := (edq_bound n k).2; omega) rfl, ?_⟩
      conv => whnf
      refine Fg.of [] ?_ (by rw [List.append_nil]; rfl) rfl rfl (sc_mem1 _ _ _ rfl)
      conv => whnf
      exact ⟨rfl, rfl, rfl, rfl, rfl, rfl, rfl, rfl, wrapKV (by omega), rfl⟩
  · rw [if_neg (by omega)]
    conv => whnf
    refine br_nd (by omega) ?_
    conv => whnf
    refine lr ?_
    conv => whnf
    refine loop_to (fun k => [I n, .any, .any, .any, I N, .ptr 4 0, .any, clo71, .any, .any, .any, .any, .any, .any, .any, .any, .any, .any, .any, .any, .any, .any, .any, .any, .any, .any, .any, .any, .any, .sl 5 0 2, I 2, I 1, .any, .any, .any, I N, I k, .any, .any, .any, .any, .any, .any, .any, .any, .any, .any, .any, .any, .any, .any, .any, .any, .any, .any, .any, .any, .any, .any, .any, .any, .any, .any, .any, .any, .any, .any, .any, .any, .any, .any, .any, .any, .any, .any, .any, .any, .any, .any, .any, .any, .any, .any, .any, .any, .any, .any, .any, .any, .any, .any, .any, .any, .any, .any, .any, .any, .any, .any, .any, .any, .any, .any, .any, .any, .any, .any, .any, .any, .any, .any, .any, .any, .any, .any, .any, .any, .any, .any]) (fun k => if k = 0 then mem1 n (edq n N) (g6C n 0) else mem2 n (edq n N) (g6C n 0) (g8C n 0) k) 0 N (by omega) ?_ ?_ ?_
    · rw [if_pos rfl]
      refine Fg.of [] ?_ rfl rfl rfl (sc_mem1 _ _ _ rfl)
      conv => whnf
      exact ⟨rfl, rfl, rfl, rfl, rfl, rfl, rfl, rfl, rfl, rfl⟩
    · intro k _ hk
      have hc : k < 6 * (n * n) := by omega
      by_cases h0 : k = 0
      · rw [if_pos h0, if_neg (by omega)]
        conv => whnf
        refine br_d (by omega) ?_
        conv => whnf
        refine ⟨_, _, addArea_first n k h0 _ _ hn hn' rfl, ?_⟩
        conv => whnf
        refine Fg.of [] ?_ (by rw [List.append_nil]; subst h0; rfl) rfl rfl (sc_mem2 _ _ _ _ _ rfl rfl)
        conv => whnf
        exact ⟨rfl, rfl, rfl, rfl, rfl, rfl, rfl, rfl, wrapKV (by omega), rfl⟩
      · rw [if_neg h0, if_neg (by omega)]
        conv => whnf
        refine br_d (by omega) ?_
        conv => whnf
        refine ⟨_, _, addArea_ok n k _ _ _ hn hn' (by omega) hc rfl rfl, ?_⟩
        conv => whnf
        refine Fg.of [] ?_ (by rw [List.append_nil]) rfl rfl (sc_mem2 _ _ _ _ _ rfl rfl)
        conv => whnf
        exact ⟨rfl, rfl, rfl, rfl, rfl, rfl, rfl, rfl, wrapKV (by omega), rfl⟩
    · rw [if_neg (by omega)]
      conv => whnf
      refine br_nd (by omega) ?_
      conv => whnf
      refine lr ?_
      conv => whnf
      generalize hq : edq n N = q at hql hqk ⊢
      obtain ⟨k, l, f⟩ := q
      simp only at hql hqk
      subst hql hqk
      refine loop_to (fun e => [I n, .any, .any, .any, .any, .ptr 4 0, .any, .any, .any, .any, .any, .any, .any, .any, .any, .any, .any, .any, .any, .any, .any, .any, .any, .any, .any, .any, .any, .any, .any, .any, .any, .any, .any, .any, .any, .any, .any, .any, .any, .any, .any, .any, .any, .any, .any, .any, .any, .gs 7 ((edges n).length - 1) 4 (edges n).length, I (edges n).length, I e, .any, .any, .any, .any, .any, .any, .any, .any, .any, .any, .any, .any, .any, .any, .any, .any, .any, .any, .any, .any, .any, .any, .any, .any, .any, .any, .any, .any, .any, .any, .any, .any, .any, .any, .any, .any, .any, .any, .any, .any, .any, .any, .any, .any, .any, .any, .any, .any, .any, .any, .any, .any, .any, .any, .any, .any, .any, .any, .any, .any, .any, .any, .any, .any, .any, .any, .any, .any, .any]) (fun e => if e = 0 then mem2 n ⟨(edges n).length, flatE (edges n), f⟩ (g6C n 0) (g8C n 0) N else mem3 n ⟨(edges n).length, flatE (edges n), f⟩ (g6C n 0) (g8C n 0) (g10C x0) (g11C n x0) (g13C n x0) (g15C n x0) e ((edges n).take e)) 0 (edges n).length (Nat.zero_le _) ?_ ?_ ?_
      · rw [if_pos rfl]
        refine Fg.of [] ?_ rfl rfl rfl (sc_mem2 _ _ _ _ _ rfl rfl)
        conv => whnf
        exact ⟨rfl, rfl, rfl, rfl, rfl, rfl⟩
      · intro e _ he
        have hx : (edges n)[e]? = some (edges n)[e] := List.getElem?_eq_getElem he
        obtain ⟨hb1, hb2, hb3, hb4⟩ := hes _ (List.getElem_mem he)
        have htk : (edges n).take (e + 1) = (edges n).take e ++ [(edges n)[e]] := by rw [List.take_add_one, hx]; rfl
        have hlen : ((edges n).take e).length = e := by rw [List.length_take]; omega
        generalize hxx : (edges n)[e] = x at *
        obtain ⟨L, S, R, B⟩ := x
        obtain ⟨r1, r2, r3, r4⟩ := flatE_get (edges n) e _ hx
        simp only at r1 r2 r3 r4 hb1 hb2 hb3 hb4
        have hfl := flatE_len (edges n)
        by_cases h0 : e = 0
        · rw [if_pos h0, if_neg (by omega)]
          conv => whnf
          refine br_d (by omega) ?_
          conv => whnf
          refine br_d (by omega) ?_
          conv => whnf
          refine ⟨rfl, ?_⟩
          refine rdN_edge (by show e * 4 + 4 ≤ (flatE (edges n)).length; omega) r1 r2 r3 r4 ?_
          conv => whnf
          rw [wrap4 S hb2]
          refine ⟨_, _, beside_c hn hn' hb1 (by omega) _, ?_⟩
          conv => whnf
          rw [wrap4 B hb4]
          refine ⟨_, _, beside_c hn hn' hb3 (by omega) _, ?_⟩
          conv => whnf
          refine ⟨⟨by decide, (by show 1 * 16 ≤ _; omega)⟩, ?_⟩
          conv => whnf
          refine ⟨_, len_c hn hn' hb1 hb2 _, ?_⟩
          conv => whnf
          refine ⟨⟨by decide, (by show 1 * 8 ≤ _; omega)⟩, ?_⟩
          conv => whnf
          refine ⟨_, gap_c hn hn' hb1 hb2 _, ?_⟩
          conv => whnf
          refine ⟨⟨by decide, (by show 1 * 8 ≤ _; omega)⟩, ?_⟩
          conv => whnf
          obtain rfl : x0 = (L, S, R, B) := by rw [h0, hx0] at hx; exact Option.some.inj hx
          rw [show (edges n).take (e + 1) = [(L, S, R, B)] by rw [htk, h0]; rfl]
          subst hNe
          subst h0
          refine Fg.of [] ?_ rfl rfl rfl (sc_mem3 _ _ _ _ _ _ _ _ _ _ rfl rfl rfl rfl rfl rfl)
          conv => whnf
          exact ⟨rfl, rfl, rfl, rfl, wrapKV (k := 0) (by omega), rfl⟩
        · rw [if_neg h0, if_neg (by omega)]
          rw [htk]
          obtain ⟨u, rfl⟩ : ∃ u, e = u + 1 := ⟨e - 1, by omega⟩
          generalize (edges n).take (u + 1) = T at hlen ⊢
          conv => whnf
          refine br_d (by omega) ?_
          conv => whnf
          refine br_d (by omega) ?_
          conv => whnf
          refine ⟨rfl, ?_⟩
          refine rdN_edge (by show (u + 1) * 4 + 4 ≤ (flatE (edges n)).length; omega) r1 r2 r3 r4 ?_
          conv => whnf
          rw [wrap4 S hb2]
          refine ⟨_, _, beside_c hn hn' hb1 (by omega) _, ?_⟩
          conv => whnf
          rw [wrap4 B hb4]
          refine ⟨_, _, beside_c hn hn' hb3 (by omega) _, ?_⟩
          conv => whnf
          refine ⟨⟨rfl, rfl, (by show (bhL n T).length = (u + 1) * 2; rw [bhL_len, hlen]), (by show (u + 1 + 1) * 16 ≤ _; omega)⟩, ?_⟩
          conv => whnf
          refine ⟨_, len_c hn hn' hb1 hb2 _, ?_⟩
          conv => whnf
          refine ⟨⟨rfl, rfl, (by show (T.map (lnE n)).length = (u + 1) * 1; rw [List.length_map, hlen]; omega), (by show (u + 1 + 1) * 8 ≤ _; omega)⟩, ?_⟩
          conv => whnf
          refine ⟨_, gap_c hn hn' hb1 hb2 _, ?_⟩
          conv => whnf
          refine ⟨⟨rfl, rfl, (by show (T.map (gpE n)).length = (u + 1) * 1; rw [List.length_map, hlen]; omega), (by show (u + 1 + 1) * 8 ≤ _; omega)⟩, ?_⟩
          conv => whnf
          have e1 : bhL n (T ++ [(L, S, R, B)]) = bhL n T ++ [((nbC n L ((S + 2) % 4)).1 : Int), ((nbC n R ((B + 2) % 4)).1 : Int)] := by rw [bhL_app]; rfl
          have e2 : (T ++ [(L, S, R, B)]).map (lnE n) = T.map (lnE n) ++ [lenC n L S] := by rw [List.map_append]; rfl
          have e3 : (T ++ [(L, S, R, B)]).map (gpE n) = T.map (gpE n) ++ [gapC n L S] := by rw [List.map_append]; rfl
          subst hNe
          refine Fg.of [_, _, _, _] ?_ (by unfold mem3; rw [e1, e2, e3]; rfl) rfl rfl (sc_mem3 _ _ _ _ _ _ _ _ _ _ rfl rfl rfl rfl rfl rfl)
          conv => whnf
          exact ⟨rfl, rfl, rfl, rfl, wrapKV (by omega), rfl⟩
      · rw [if_neg (by omega), List.take_length]
        conv => whnf
        refine br_nd (by omega) ?_
        conv => whnf
        subst hNe
        exact ⟨rfl, [], rfl⟩
end Go.Proofs.YtemaeembndobaaaGreatDoor
