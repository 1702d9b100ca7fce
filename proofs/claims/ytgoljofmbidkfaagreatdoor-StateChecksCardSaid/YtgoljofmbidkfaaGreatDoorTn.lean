/- Turned nets in plain numbers: cells, edges, two turns at once. No condition. -/
import Derived.Test.YtgoljofmbidkfaaGreatDoorTd0
import Derived.Test.YtgoljofmbidkfaaGreatDoorTb
namespace Go.Proofs.YtgoljofmbidkfaaGreatDoor
open Go Go.Eng
set_option maxRecDepth 100000
set_option linter.unusedSimpArgs false
set_option linter.unusedVariables false

/-- One turn behind another; the turn back. -/
def aftT : List (List Nat) := [[0, 1, 2, 3, 4, 5, 6, 7, 8, 9, 10, 11, 12, 13, 14, 15, 16, 17, 18, 19, 20, 21, 22, 23],
  [1, 0, 3, 2, 12, 13, 15, 14, 9, 8, 11, 10, 4, 5, 7, 6, 20, 23, 22, 21, 16, 19, 18, 17],
  [2, 3, 1, 0, 16, 18, 19, 17, 10, 11, 9, 8, 20, 22, 23, 21, 12, 14, 13, 15, 4, 6, 5, 7],
  [3, 2, 0, 1, 20, 22, 21, 23, 11, 10, 8, 9, 16, 18, 17, 19, 4, 7, 5, 6, 12, 15, 13, 14],
  [4, 5, 7, 6, 0, 1, 3, 2, 12, 13, 15, 14, 8, 9, 11, 10, 21, 20, 23, 22, 17, 16, 19, 18],
  [5, 4, 6, 7, 8, 9, 10, 11, 13, 12, 14, 15, 0, 1, 2, 3, 17, 18, 19, 16, 21, 22, 23, 20],
  [6, 7, 4, 5, 17, 19, 16, 18, 14, 15, 12, 13, 21, 23, 20, 22, 0, 2, 1, 3, 8, 10, 9, 11],
  [7, 6, 5, 4, 21, 23, 22, 20, 15, 14, 13, 12, 17, 19, 18, 16, 8, 11, 9, 10, 0, 3, 1, 2],
  [8, 9, 11, 10, 5, 4, 7, 6, 0, 1, 3, 2, 13, 12, 15, 14, 22, 21, 20, 23, 18, 17, 16, 19],
  [9, 8, 10, 11, 13, 12, 14, 15, 1, 0, 2, 3, 5, 4, 6, 7, 18, 19, 16, 17, 22, 23, 20, 21],
  [10, 11, 8, 9, 18, 16, 17, 19, 2, 3, 0, 1, 22, 20, 21, 23, 5, 6, 4, 7, 13, 14, 12, 15],
  [11, 10, 9, 8, 22, 20, 23, 21, 3, 2, 1, 0, 18, 16, 19, 17, 13, 15, 12, 14, 5, 7, 4, 6],
  [12, 13, 14, 15, 1, 0, 2, 3, 4, 5, 6, 7, 9, 8, 10, 11, 19, 16, 17, 18, 23, 20, 21, 22],
  [13, 12, 15, 14, 9, 8, 11, 10, 5, 4, 7, 6, 1, 0, 3, 2, 23, 22, 21, 20, 19, 18, 17, 16],
  [14, 15, 13, 12, 19, 17, 18, 16, 6, 7, 5, 4, 23, 21, 22, 20, 9, 10, 8, 11, 1, 2, 0, 3],
  [15, 14, 12, 13, 23, 21, 20, 22, 7, 6, 4, 5, 19, 17, 16, 18, 1, 3, 0, 2, 9, 11, 8, 10],
  [16, 18, 17, 19, 2, 3, 0, 1, 20, 22, 21, 23, 10, 11, 8, 9, 6, 4, 7, 5, 14, 12, 15, 13],
  [17, 19, 18, 16, 6, 7, 5, 4, 21, 23, 22, 20, 14, 15, 13, 12, 10, 8, 11, 9, 2, 0, 3, 1],
  [18, 16, 19, 17, 10, 11, 9, 8, 22, 20, 23, 21, 2, 3, 1, 0, 14, 13, 15, 12, 6, 5, 7, 4],
  [19, 17, 16, 18, 14, 15, 12, 13, 23, 21, 20, 22, 6, 7, 4, 5, 2, 1, 3, 0, 10, 9, 11, 8],
  [20, 22, 23, 21, 3, 2, 1, 0, 16, 18, 19, 17, 11, 10, 9, 8, 15, 12, 14, 13, 7, 4, 6, 5],
  [21, 23, 20, 22, 7, 6, 4, 5, 17, 19, 16, 18, 15, 14, 12, 13, 3, 0, 2, 1, 11, 8, 10, 9],
  [22, 20, 21, 23, 11, 10, 8, 9, 18, 16, 17, 19, 3, 2, 0, 1, 7, 5, 6, 4, 15, 13, 14, 12],
  [23, 21, 22, 20, 15, 14, 13, 12, 19, 17, 18, 16, 7, 6, 5, 4, 11, 9, 10, 8, 3, 1, 2, 0]]
def invT : List Nat := [0, 1, 3, 2, 4, 12, 16, 20, 8, 9, 10, 11, 5, 13, 22, 18, 6, 21, 15, 19, 7, 17, 14, 23]
def aft (u t : Nat) : Nat := (aftT.getD u []).getD t 0
def inv (t : Nat) : Nat := invT.getD t 0
theorem aft_ok : ∀ u, u < 24 → ∀ t, t < 24 → aft u t < 24 ∧ ∀ f, f < 6 → fa u (fa t f) = fa (aft u t) f ∧ (qu t f + qu u (fa t f)) % 4 = qu (aft u t) f := by decide +kernel
theorem aft_lt {u t : Nat} (hu : u < 24) (ht : t < 24) : aft u t < 24 := (aft_ok u hu t ht).1
theorem aft_0 : ∀ t, t < 24 → aft t 0 = t := by decide +kernel
theorem inv_ok : ∀ t, t < 24 → inv t < 24 ∧ aft (inv t) t = 0 ∧ aft t (inv t) = 0 := by decide +kernel
theorem fa_0 : ∀ f, f < 6 → fa 0 f = f ∧ qu 0 f = 0 := by decide +kernel
theorem rot_two {n q r i j : Nat} (hi : i < n) (hj : j < n) (hq : q < 4) (hr : r < 4) : rotI n r (rotI n q i j) (rotJ n q i j) = rotI n ((q + r) % 4) i j ∧ rotJ n r (rotI n q i j) (rotJ n q i j) = rotJ n ((q + r) % 4) i j := by
  obtain rfl | rfl | rfl | rfl := four hq <;> obtain rfl | rfl | rfl | rfl := four hr <;> (constructor <;> simp only [rotI, rotJ, if_true, if_false, Nat.reduceEqDiff, Nat.reduceAdd, Nat.reduceMod, reduceIte] <;> omega)
section
variable {n t u c : Nat} (hn : 1 ≤ n) (hu : u < 24) (ht : t < 24) (hc : c < 6 * (n * n))
include hn hu ht hc
theorem tC_two : tC n u (tC n t c) = tC n (aft u t) c ∧ (tQ n t c + tQ n u (tC n t c)) % 4 = tQ n (aft u t) c := by
  obtain ⟨_, a2, a3, a4⟩ := cell_parts hn hc
  obtain ⟨u1, u2, u3⟩ := tC_parts (t := t) hn hc
  obtain ⟨hg, hq⟩ := fa_lt t ht _ a2
  obtain ⟨_, hq'⟩ := fa_lt u hu _ hg
  obtain ⟨e1, e2⟩ := (aft_ok u hu t ht).2 _ a2
  obtain ⟨r1, r2⟩ := rot_two a3 a4 hq hq'
  refine ⟨?_, by unfold tQ; rw [u1, e2]⟩
  have e0 : ∀ X, tC n u X = cellN n (fa u (X / (n * n))) (rotI n (qu u (X / (n * n))) (X % n) (X / n % n)) (rotJ n (qu u (X / (n * n))) (X % n) (X / n % n)) := fun _ => rfl
  rw [e0 (tC n t c), u1, u2, u3, r1, r2, e1, e2]
  rfl
end
theorem tC_0 {n c : Nat} (hn : 1 ≤ n) (hc : c < 6 * (n * n)) : tC n 0 c = c ∧ tQ n 0 c = 0 := by
  obtain ⟨a1, a2, a3, a4⟩ := cell_parts hn hc
  obtain ⟨e1, e2⟩ := fa_0 _ a2
  unfold tC tQ
  rw [e1, e2]
  exact ⟨a1.symm, rfl⟩
theorem tC_inv {n t c : Nat} (hn : 1 ≤ n) (ht : t < 24) (hc : c < 6 * (n * n)) : tC n t (tC n (inv t) c) = c ∧ tC n (inv t) (tC n t c) = c := by
  obtain ⟨i1, i2, i3⟩ := inv_ok t ht
  rw [(tC_two hn ht i1 hc).1, (tC_two hn i1 ht hc).1, i2, i3]
  exact ⟨(tC_0 hn hc).1, (tC_0 hn hc).1⟩

/-! ### Numbers of edges -/
def nu (n c s : Nat) : Nat := ((numF n c s).getD 0).toNat
/-- Is a cell the left of the edge over its side? -/
def fw (n c s : Nat) : Bool := decide (c < (nbC n c s).1)
section
variable {n : Nat} (hn : 1 ≤ n)
include hn
theorem nu_at {c s : Nat} (hc : c < 6 * (n * n)) (hs : s < 4) : numF n c s = some ((nu n c s : Nat) : Int) ∧ ∃ x, (edges n)[nu n c s]? = some x ∧
    ((fw n c s = true ∧ x = (c, s, (nbC n c s).1, (nbC n c s).2)) ∨ (fw n c s = false ∧ x = ((nbC n c s).1, (nbC n c s).2, c, s))) := by
  obtain ⟨e, x, h1, h2, h3⟩ := num_at hn hc hs
  have e1 : nu n c s = e := by unfold nu; rw [h1]; rfl
  rw [e1]
  refine ⟨h1, x, h2, ?_⟩
  unfold fw
  rcases h3 with ⟨h3, h4⟩ | ⟨h3, h4⟩
  · exact .inl ⟨decide_eq_true h4, h3⟩
  · exact .inr ⟨decide_eq_false (by omega), h3⟩
theorem nu_left {k : Nat} {x : Ed} (hx : (edges n)[k]? = some x) : nu n x.1 x.2.1 = k ∧ nu n x.2.2.1 x.2.2.2 = k ∧ fw n x.1 x.2.1 = true := by
  obtain ⟨h1, h2⟩ := num_left hn hx
  obtain ⟨_, _, c12, _, _, hnb, _⟩ := edge_of hn hx
  unfold nu
  rw [h1, h2]
  refine ⟨rfl, rfl, ?_⟩
  unfold fw
  rw [hnb]
  exact decide_eq_true c12
theorem nu_lt {c s : Nat} (hc : c < 6 * (n * n)) (hs : s < 4) : nu n c s < (edges n).length := by
  obtain ⟨_, x, h, _⟩ := nu_at hn hc hs
  exact (List.getElem?_eq_some_iff.1 h).1
theorem nu_nb {c s : Nat} (hc : c < 6 * (n * n)) (hs : s < 4) : nu n (nbC n c s).1 (nbC n c s).2 = nu n c s := by
  obtain ⟨_, x, h, h2⟩ := nu_at hn hc hs
  obtain ⟨l1, l2, _⟩ := nu_left hn h
  rcases h2 with ⟨_, rfl⟩ | ⟨_, rfl⟩
  · exact l2
  · exact l1
theorem fw_nb {c s : Nat} (hc : c < 6 * (n * n)) (hs : s < 4) : fw n (nbC n c s).1 (nbC n c s).2 = !fw n c s := by
  have hb := nbC_back hn hc hs
  have hne := (nbC_ne hn hc hs).1
  unfold fw
  rw [hb]
  by_cases h : c < (nbC n c s).1
  · rw [decide_eq_true h, decide_eq_false (by simp only; omega)]; rfl
  · rw [decide_eq_false h, decide_eq_true (by simp only; omega)]; rfl
end
/-- The edge that an edge becomes; does it lie the other way about? -/
def tE (n t e : Nat) : Nat := match (edges n)[e]? with
  | some x => nu n (tC n t x.1) ((x.2.1 + tQ n t x.1) % 4)
  | none => 0
def tR (n t e : Nat) : Bool := match (edges n)[e]? with
  | some x => !fw n (tC n t x.1) ((x.2.1 + tQ n t x.1) % 4)
  | none => false
section
variable {n t : Nat} (hn : 1 ≤ n) (ht : t < 24)
include hn ht
/-- The edge over a side of a cell becomes the one over the turned side of the turned cell. -/
theorem tE_nu {c s : Nat} (hc : c < 6 * (n * n)) (hs : s < 4) : tE n t (nu n c s) = nu n (tC n t c) ((s + tQ n t c) % 4) ∧ (tR n t (nu n c s) ^^ !fw n c s) = !fw n (tC n t c) ((s + tQ n t c) % 4) := by
  obtain ⟨_, x, h, h2⟩ := nu_at hn hc hs
  have hm : (s + tQ n t c) % 4 < 4 := Nat.mod_lt _ (by decide)
  have hl := (tC_lt hn ht hc).1
  have e1 := tC_nb hn ht hc hs
  unfold tE tR
  rw [h]
  rcases h2 with ⟨f, rfl⟩ | ⟨f, rfl⟩
  · rw [f]
    exact ⟨rfl, by simp⟩
  · rw [f]
    simp only
    have hn1 := nu_nb hn hl hm
    have hn2 := fw_nb hn hl hm
    rw [e1] at hn1 hn2
    simp only at hn1 hn2
    rw [hn1, hn2]
    exact ⟨rfl, by simp⟩
theorem tE_lt {e : Nat} (he : e < (edges n).length) : tE n t e < (edges n).length := by
  have hx := List.getElem?_eq_getElem he
  generalize (edges n)[e] = x at hx
  obtain ⟨c1, s1, _⟩ := edge_of hn hx
  unfold tE
  rw [hx]
  exact nu_lt hn (tC_lt hn ht c1).1 (Nat.mod_lt _ (by decide))
end
theorem tE_two {n t u e : Nat} (hn : 1 ≤ n) (hu : u < 24) (ht : t < 24) (he : e < (edges n).length) : tE n u (tE n t e) = tE n (aft u t) e ∧ (tR n t e ^^ tR n u (tE n t e)) = tR n (aft u t) e := by
  have hx := List.getElem?_eq_getElem he
  generalize (edges n)[e] = x at hx
  obtain ⟨c1, s1, _⟩ := edge_of hn hx
  obtain ⟨l1, _, l3⟩ := nu_left hn hx
  obtain ⟨q1, q2⟩ := tC_two hn hu ht c1
  have hl := (tC_lt hn ht c1).1
  have hm : (x.2.1 + tQ n t x.1) % 4 < 4 := Nat.mod_lt _ (by decide)
  obtain ⟨a1, a2⟩ := tE_nu hn ht c1 s1
  obtain ⟨b1, b2⟩ := tE_nu hn hu hl hm
  obtain ⟨d1, d2⟩ := tE_nu hn (aft_lt hu ht) c1 s1
  have em : ((x.2.1 + tQ n t x.1) % 4 + tQ n u (tC n t x.1)) % 4 = (x.2.1 + tQ n (aft u t) x.1) % 4 := by rw [← q2]; omega
  rw [q1, em] at b1 b2
  rw [l1] at a1 a2 d1 d2
  rw [l3] at a2 d2
  rw [a1, d1, b1]
  refine ⟨rfl, ?_⟩
  revert a2 b2 d2
  cases tR n t e <;> cases tR n (aft u t) e <;> cases tR n u (nu n (tC n t x.1) ((x.2.1 + tQ n t x.1) % 4)) <;> cases fw n (tC n t x.1) ((x.2.1 + tQ n t x.1) % 4) <;> cases fw n (tC n (aft u t) x.1) ((x.2.1 + tQ n (aft u t) x.1) % 4) <;> simp
theorem tE_0 {n e : Nat} (hn : 1 ≤ n) (he : e < (edges n).length) : tE n 0 e = e ∧ tR n 0 e = false := by
  have hx := List.getElem?_eq_getElem he
  generalize (edges n)[e] = x at hx
  obtain ⟨c1, s1, _⟩ := edge_of hn hx
  obtain ⟨l1, _, l3⟩ := nu_left hn hx
  obtain ⟨q1, q2⟩ := tC_0 hn c1
  unfold tE tR
  rw [hx]
  simp only
  rw [q1, q2, Nat.add_zero, Nat.mod_eq_of_lt s1, l1, l3]
  exact ⟨rfl, rfl⟩
theorem tE_inv {n t e : Nat} (hn : 1 ≤ n) (ht : t < 24) (he : e < (edges n).length) : tE n t (tE n (inv t) e) = e ∧ tE n (inv t) (tE n t e) = e := by
  obtain ⟨i1, i2, i3⟩ := inv_ok t ht
  rw [(tE_two hn ht i1 he).1, (tE_two hn i1 ht he).1, i2, i3]
  exact ⟨(tE_0 hn he).1, (tE_0 hn he).1⟩
/-! ### Lists that are put elsewhere, number by number -/
/-- Behind k of them: what went by 'to' stands at its place, elsewhere what was there. -/
def movT {α : Type} (N : Nat) (bk : Nat → Nat) (v z : Nat → α) (k : Nat) : List α := tab N fun j => if bk j < k then v (bk j) else z j
theorem mov_0 {α : Type} (N : Nat) (bk : Nat → Nat) (v z : Nat → α) : movT N bk v z 0 = tab N z := tab_congr fun i _ => if_neg (Nat.not_lt_zero _)
theorem mov_set {α : Type} {N k : Nat} {to bk : Nat → Nat} (v z : Nat → α) (hb : ∀ j, j < N → to (bk j) = j) (h : bk (to k) = k) : (movT N bk v z k).set (to k) (v k) = movT N bk v z (k + 1) := by
  unfold movT
  rw [tab_set]
  refine tab_congr fun j hj => ?_
  by_cases e : j = to k
  · subst e
    rw [if_pos rfl, if_pos (by omega), h]
  · rw [if_neg e]
    have : bk j ≠ k := fun h' => e (by rw [← h', hb j hj])
    by_cases hl : bk j < k
    · rw [if_pos hl, if_pos (by omega)]
    · rw [if_neg hl, if_neg (by omega)]
theorem mov_end {α : Type} {N : Nat} {bk : Nat → Nat} (v z : Nat → α) (hb : ∀ j, j < N → bk j < N) : movT N bk v z N = tab N fun j => v (bk j) := tab_congr fun j hj => if_pos (hb j hj)
end Go.Proofs.YtgoljofmbidkfaaGreatDoor
