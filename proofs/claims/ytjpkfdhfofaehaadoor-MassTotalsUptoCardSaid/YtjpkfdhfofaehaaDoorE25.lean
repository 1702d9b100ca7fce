/- The engine, part 25: rows that grow no more; small tools for callers. No condition. -/
import Derived.Test.YtjpkfdhfofaehaaDoorE24
namespace Go.Eng
open Go

/-! ### Rows that grow no more -/
mutual
/-- 'c i = some u': block i has grown to version u and stays so. -/
def V.stl (c : Nat → Option Nat) : V → V
  | .gs i v e n => match c i with
    | some _ => .sl i 0 n
    | none => .gs i v e n
  | .gp i v o => match c i with
    | some _ => .ptr i o
    | none => .gp i v o
  | .agg cs => .agg (stlL c cs)
  | .tup cs => .tup (stlL c cs)
  | .clo f a b => .clo f (stlL c a) (stlL c b)
  | v => v
def stlL (c : Nat → Option Nat) : List V → List V
  | [] => []
  | v :: vs => v.stl c :: stlL c vs
end
mutual
def V.cur (c : Nat → Option Nat) : V → Prop
  | .gs i v _ _ => ∀ u, c i = some u → u = v
  | .gp i v _ => ∀ u, c i = some u → u = v
  | .agg cs => curL c cs
  | .tup cs => curL c cs
  | .clo _ a b => curL c a ∧ curL c b
  | _ => True
def curL (c : Nat → Option Nat) : List V → Prop
  | [] => True
  | v :: vs => v.cur c ∧ curL c vs
end
theorem stlL_get (c : Nat → Option Nat) : ∀ (l : List V) (j : Nat), (stlL c l)[j]? = (l[j]?).map (V.stl c)
  | [], j => by simp [stlL]
  | v :: l, 0 => by simp [stlL]
  | v :: l, j + 1 => by simp [stlL, stlL_get c l j]
theorem curL_get (c : Nat → Option Nat) : ∀ (l : List V) (j : Nat) (v : V), curL c l → l[j]? = some v → v.cur c
  | [], j, v, _, h => by simp at h
  | u :: l, 0, v, hc, h => by simp at h; subst h; exact hc.1
  | u :: l, j + 1, v, hc, h => curL_get c l j v hc.2 (by simpa using h)
def stlP (c : Option Nat) (p : Pl) : Pl :=
  match c with
  | some _ => ⟨p.1, p.2, p.3, 0⟩
  | none => p
section
variable {n : Nat} {g : Nat → Pl} {c : Nat → Option Nat}
mutual
theorem Rv_stl (hc : ∀ i u, c i = some u → (g i).4 = u + 1) : ∀ (v : V) {x : Value}, v.cur c → Rv n g v x → Rv n (fun i => stlP (c i) (g i)) (v.stl c) x
  | .bool b, x, _, h => h
  | .int _ _, x, _, h => h
  | .fl o, x, _, h => h
  | .raw v, x, _, h => h
  | .any, x, _, h => h
  | .ptr i off, x, _, h => by
    simp only [V.stl, Rv] at *
    cases hi : c i with
    | none => simpa [stlP, hi] using h
    | some u => have := hc i u hi; omega
  | .sl i off len, x, _, h => by
    simp only [V.stl, Rv] at *
    cases hi : c i with
    | none => simpa [stlP, hi] using h
    | some u => have := hc i u hi; omega
  | .mp i, x, _, h => by
    simp only [V.stl, Rv] at *
    cases hi : c i with
    | none => simpa [stlP, hi] using h
    | some u => have := hc i u hi; omega
  | .sk i off len k, x, _, h => by
    simp only [V.stl, Rv] at *
    cases hi : c i with
    | none => simpa [stlP, hi] using h
    | some u => have := hc i u hi; omega
  | .gp i v off, x, hv, h => by
    simp only [V.cur] at hv
    cases hi : c i with
    | none => simp only [V.stl, hi, Rv] at *; simpa [stlP, hi] using h
    | some u =>
      have h1 := hc i u hi
      have h2 := hv u hi
      subst h2
      simp only [V.stl, hi, Rv] at *
      obtain ⟨e1, e2, a, e3, e4⟩ := h
      simp only [stlP]
      exact ⟨e1, trivial, by rw [e3, e4 h1.symm]⟩
  | .gs i v e len, x, hv, h => by
    simp only [V.cur] at hv
    cases hi : c i with
    | none => simp only [V.stl, hi, Rv] at *; simpa [stlP, hi] using h
    | some u =>
      have h1 := hc i u hi
      have h2 := hv u hi
      subst h2
      simp only [V.stl, hi, Rv] at *
      obtain ⟨e1, e2, a, k, e3, e5, e4⟩ := h
      simp only [stlP]
      exact ⟨e1, trivial, some a, k, e3, e5, fun _ => by rw [(e4 h1.symm).1]; rfl⟩
  | .agg cs, x, hv, h => by
    simp only [V.stl, V.cur, Rv] at *
    obtain ⟨xs, h1, h2⟩ := h
    exact ⟨xs, h1, Rvs_stl hc cs hv h2⟩
  | .tup cs, x, hv, h => by
    simp only [V.stl, V.cur, Rv] at *
    obtain ⟨xs, h1, h2⟩ := h
    exact ⟨xs, h1, Rvs_stl hc cs hv h2⟩
  | .clo fn a b, x, hv, h => by
    simp only [V.stl, V.cur, Rv] at *
    obtain ⟨xs, ys, h1, h2, h3⟩ := h
    exact ⟨xs, ys, h1, Rvs_stl hc a hv.1 h2, Rvs_stl hc b hv.2 h3⟩
theorem Rvs_stl (hc : ∀ i u, c i = some u → (g i).4 = u + 1) : ∀ (vs : List V) {xs : List Value}, curL c vs → Rvs n g vs xs → Rvs n (fun i => stlP (c i) (g i)) (stlL c vs) xs
  | [], xs, _, h => h
  | v :: vs, xs, hv, h => by
    simp only [stlL, curL, Rvs] at *
    obtain ⟨y, ys, h1, h2, h3⟩ := h
    exact ⟨y, ys, h1, Rv_stl hc v hv.1 h2, Rvs_stl hc vs hv.2 h3⟩
end
mutual
theorem V.stl_old {k : Nat} (hc : ∀ i, i < k → c i = none) : ∀ v : V, v.sc k = true → v.stl c = v ∧ v.cur c
  | .bool b, _ => ⟨rfl, trivial⟩
  | .int _ _, _ => ⟨rfl, trivial⟩
  | .fl o, _ => ⟨rfl, trivial⟩
  | .raw v, _ => ⟨rfl, trivial⟩
  | .any, _ => ⟨rfl, trivial⟩
  | .ptr i off, _ => ⟨rfl, trivial⟩
  | .sl i off len, _ => ⟨rfl, trivial⟩
  | .mp i, _ => ⟨rfl, trivial⟩
  | .sk i off len k, _ => ⟨rfl, trivial⟩
  | .gp i v off, h => by
    have hi : i < k := by simpa [V.sc] using h
    exact ⟨by simp only [V.stl, hc i hi], fun u hu => by rw [hc i hi] at hu; exact nomatch hu⟩
  | .gs i v e len, h => by
    have hi : i < k := by simpa [V.sc] using h
    exact ⟨by simp only [V.stl, hc i hi], fun u hu => by rw [hc i hi] at hu; exact nomatch hu⟩
  | .agg cs, h => by
    obtain ⟨h1, h2⟩ := stlL_old hc cs h
    exact ⟨by simp only [V.stl, h1], h2⟩
  | .tup cs, h => by
    obtain ⟨h1, h2⟩ := stlL_old hc cs h
    exact ⟨by simp only [V.stl, h1], h2⟩
  | .clo fn a b, h => by
    simp only [V.sc, Bool.and_eq_true] at h
    obtain ⟨h1, h2⟩ := stlL_old hc a h.1
    obtain ⟨h3, h4⟩ := stlL_old hc b h.2
    exact ⟨by simp only [V.stl, h1, h3], h2, h4⟩
theorem stlL_old {k : Nat} (hc : ∀ i, i < k → c i = none) : ∀ vs : List V, scL k vs = true → stlL c vs = vs ∧ curL c vs
  | [], _ => ⟨rfl, trivial⟩
  | v :: vs, h => by
    simp only [scL, Bool.and_eq_true] at h
    obtain ⟨h1, h2⟩ := V.stl_old hc v h.1
    obtain ⟨h3, h4⟩ := stlL_old hc vs h.2
    exact ⟨by simp only [stlL, h1, h3], h2, h4⟩
end
end
/-- What a block has become: a row that grows no more is a plain row, cells are settled; it may be closed to writing, or forgotten. -/
inductive StlB (c : Nat → Option Nat) (i : Nat) : Blk → Blk → Prop
  | ints {w w' : Bool} {v : Nat} {k : IntKind} {l : List Int} (h : c i = some v) (hw : w' = true → w = true) : StlB c i ⟨w, .gints v k l⟩ ⟨w', .ints k l⟩
  | flts {w w' : Bool} {v : Nat} {l : List Nat} (h : c i = some v) (hw : w' = true → w = true) : StlB c i ⟨w, .gflts v l⟩ ⟨w', .flts l⟩
  | cells {w w' : Bool} {v : Nat} {l l' : List V} (h : c i = some v) (hw : w' = true → w = true) (hl : curL c l) (e : l' = stlL c l) : StlB c i ⟨w, .gcells v l⟩ ⟨w', .cells l'⟩
  | row {w w' : Bool} {l l' : List V} (h : c i = none) (hw : w' = true → w = true) (hl : curL c l) (e : l' = stlL c l) : StlB c i ⟨w, .cells l⟩ ⟨w', .cells l'⟩
  | same {w w' : Bool} {b : B} (h : c i = none) (hw : w' = true → w = true) (hb : ∀ j v, b.get j = some v → v.stl c = v ∧ v.cur c) : StlB c i ⟨w, b⟩ ⟨w', b⟩
  | gone {b : Blk} (h : c i = none ∨ ∃ v, c i = some v ∧ b.b.vof = v + 1) : b.b.vof = 0 ∨ (∃ v, c i = some v ∧ b.b.vof = v + 1) → StlB c i b ⟨false, .dead⟩
theorem StlB.w {c : Nat → Option Nat} {i : Nat} {b b' : Blk} (h : StlB c i b b') : (b'.w = true → b.w = true) ∧ (b'.b.live = true → b.b.live = true) := by
  cases h with
  | ints h hw => exact ⟨hw, fun _ => rfl⟩
  | flts h hw => exact ⟨hw, fun _ => rfl⟩
  | cells h hw hl e => exact ⟨hw, fun _ => rfl⟩
  | row h hw hl e => exact ⟨hw, fun _ => rfl⟩
  | same h hw hb => exact ⟨hw, fun h => h⟩
  | gone h => exact ⟨(fun h => nomatch h), (fun h => nomatch h)⟩
theorem StlB.ver {c : Nat → Option Nat} {i : Nat} {b b' : Blk} (h : StlB c i b b') : (∀ u, c i = some u → b.b.vof = u + 1) ∧ b'.b.vof = (match c i with | some _ => 0 | none => b.b.vof) := by
  cases h with
  | ints h hw => exact ⟨fun u hu => by rw [h] at hu; cases hu; rfl, by rw [h]; rfl⟩
  | flts h hw => exact ⟨fun u hu => by rw [h] at hu; cases hu; rfl, by rw [h]; rfl⟩
  | cells h hw hl e => exact ⟨fun u hu => by rw [h] at hu; cases hu; rfl, by rw [h]; rfl⟩
  | row h hw hl e => exact ⟨fun u hu => absurd hu (by rw [h]; simp), by rw [h]; rfl⟩
  | same h hw hb => exact ⟨fun u hu => absurd hu (by rw [h]; simp), by rw [h]⟩
  | gone h h' =>
    rcases h with h | ⟨v, h, h1⟩
    · refine ⟨fun u hu => absurd hu (by rw [h]; simp), ?_⟩
      rw [h]
      rcases h' with h' | ⟨v, h', _⟩
      · exact h'.symm
      · rw [h] at h'; exact nomatch h'
    · exact ⟨fun u hu => by rw [h] at hu; cases hu; exact h1, by rw [h]; rfl⟩
theorem StlB.cell {c : Nat → Option Nat} {i : Nat} {b b' : Blk} (h : StlB c i b b') (j : Nat) (v : V) (hv : b'.b.get j = some v) : ∃ u, b.b.get j = some u ∧ v = u.stl c ∧ u.cur c := by
  cases h with
  | ints h hw =>
    have hv : ((‹List Int›)[j]?).map (V.int _) = some v := hv
    refine ⟨v, hv, ?_⟩
    simp only [Option.map_eq_some_iff] at hv
    obtain ⟨_, _, rfl⟩ := hv
    exact ⟨rfl, trivial⟩
  | flts h hw =>
    have hv : ((‹List Nat›)[j]?).map (fun b => V.fl (some b)) = some v := hv
    refine ⟨v, hv, ?_⟩
    simp only [Option.map_eq_some_iff] at hv
    obtain ⟨_, _, rfl⟩ := hv
    exact ⟨rfl, trivial⟩
  | @cells _ _ _ l l' h hw hl e =>
    subst e
    have hv : (stlL c l)[j]? = some v := hv
    rw [stlL_get] at hv
    cases hu : l[j]? with
    | none => rw [hu] at hv; exact nomatch hv
    | some u => rw [hu] at hv; cases hv; exact ⟨u, hu, rfl, curL_get c l j u hl hu⟩
  | @row _ _ l l' h hw hl e =>
    subst e
    have hv : (stlL c l)[j]? = some v := hv
    rw [stlL_get] at hv
    cases hu : l[j]? with
    | none => rw [hu] at hv; exact nomatch hv
    | some u => rw [hu] at hv; cases hv; exact ⟨u, hu, rfl, curL_get c l j u hl hu⟩
  | same h hw hb =>
    obtain ⟨h1, h2⟩ := hb j v hv
    exact ⟨v, hv, h1.symm, h2⟩
  | gone h => exact nomatch hv
theorem StlB.map {c : Nat → Option Nat} {i : Nat} {b b' : Blk} (h : StlB c i b b') (f : Int → Int → Option Int) (hf : b'.b = .mpI f) : b.b = .mpI f := by
  cases h with
  | same h hw hb => exact hf
  | _ => exact nomatch hf
/-- The blocks that a call has made, looked at anew. -/
def AllStl (c : Nat → Option Nat) : Nat → List Blk → List Blk → Prop
  | _, [], [] => True
  | k, b :: m, b' :: m' => StlB c k b b' ∧ AllStl c (k + 1) m m'
  | _, _, _ => False
theorem AllStl.get {c : Nat → Option Nat} : ∀ {m m' : List Blk} {k : Nat}, AllStl c k m m' → m'.length = m.length ∧ ∀ i b', m'[i]? = some b' → ∃ b, m[i]? = some b ∧ StlB c (k + i) b b'
  | [], [], k, _ => ⟨rfl, fun i b' h => by simp at h⟩
  | [], _ :: _, k, h => h.elim
  | _ :: _, [], k, h => h.elim
  | b :: m, b' :: m', k, h => by
    obtain ⟨h1, h2⟩ := AllStl.get h.2
    refine ⟨by simp [h1], fun i d hd => ?_⟩
    cases i with
    | zero => simp at hd; subst hd; exact ⟨b, rfl, h.1⟩
    | succ i =>
      obtain ⟨d0, h3, h4⟩ := h2 i d (by simpa using hd)
      exact ⟨d0, by simpa using h3, by rw [show k + (i + 1) = k + 1 + i by omega]; exact h4⟩
theorem COk.settle {P : Program} {ng : Nat} {f : FuncId} {args : List V} {m N N' : List Blk} {r : V} (c : Nat → Option Nat) (h : COk P ng f args m r (m ++ N)) (hc : ∀ i, i < m.length → c i = none) (hbig : ∀ i, m.length + N.length ≤ i → c i = none) (hr : r.cur c) (hN : AllStl c m.length N N') :
    COk P ng f args m (r.stl c) (m ++ N') := by
  rw [COk_iff] at *
  intro g w xs hg R hx
  refine (h g w xs hg R hx).mono ?_
  rintro x w' ⟨g1, k1, k2, k3⟩
  obtain ⟨hlen, hget⟩ := hN.get
  have hL : (m ++ N').length = (m ++ N).length := by simp [hlen]
  have hold : ∀ (i : Nat) b, m[i]? = some b → ∀ j v, b.b.get j = some v → v.stl c = v ∧ v.cur c := by
    intro i b hb j v hv
    obtain ⟨y, _, hr⟩ := (R.blk i b hb).cell j v hv
    exact V.stl_old hc v (Rv_sc v hr)
  have hblk : ∀ i b', (m ++ N')[i]? = some b' → ∃ b, (m ++ N)[i]? = some b ∧ StlB c i b b' := by
    intro i b' hb'
    rcases Nat.lt_or_ge i m.length with hi | hi
    · rw [List.getElem?_append_left hi] at hb' ⊢
      obtain ⟨w0, b0⟩ := b'
      exact ⟨_, hb', .same (hc i hi) (fun h => h) (hold i _ hb')⟩
    · rw [List.getElem?_append_right hi] at hb' ⊢
      obtain ⟨b, h1, h2⟩ := hget _ _ hb'
      exact ⟨b, h1, by rw [show m.length + (i - m.length) = i by omega] at h2; exact h2⟩
  have hcv : ∀ i u, c i = some u → (g1 i).4 = u + 1 := by
    intro i u hu
    have hi : i < (m ++ N').length := by
      rcases Nat.lt_or_ge i (m.length + N.length) with h1 | h1
      · simp [hlen]; omega
      · rw [hbig i h1] at hu; exact nomatch hu
    obtain ⟨b, h1, h2⟩ := hblk i _ (List.getElem?_eq_getElem hi)
    rw [← (k2.blk i b h1).ver]
    exact h2.ver.1 u hu
  have hpl : ∀ i, (stlP (c i) (g1 i)).1 = (g1 i).1 ∧ (stlP (c i) (g1 i)).2 = (g1 i).2 ∧ (stlP (c i) (g1 i)).3 = (g1 i).3 := by
    intro i; cases c i <;> exact ⟨rfl, rfl, rfl⟩
  refine ⟨fun i => stlP (c i) (g1 i), by rw [hL]; exact Rv_stl hcv r hr k1, ⟨fun i b' hb' => ?_, fun i j b' d' hij hb' hd' hw hl hl' => ?_⟩, ⟨by simp, fun i hi => ?_, k3.os, k3.tape, k3.output, k3.size, k3.same, fun p hp hf => ?_⟩⟩
  · obtain ⟨b, hb, hs⟩ := hblk i b' hb'
    have R1 := k2.blk i b hb
    obtain ⟨p1, p2, p3⟩ := hpl i
    refine ⟨by rw [p1]; exact R1.size, fun j v hv => ?_, fun hw hl j => by rw [p1]; exact R1.free (hs.w.1 hw) (hs.w.2 hl) j, fun hl j hj => ?_, fun f hf => by rw [p1]; exact R1.map f (hs.map f hf), ?_⟩
    · obtain ⟨u, h1, rfl, h3⟩ := hs.cell j v hv
      obtain ⟨y, h4, h5⟩ := R1.cell j u h1
      exact ⟨y, by rw [p1, p2]; exact h4, by rw [hL]; exact Rv_stl hcv u h3 h5⟩
    · rw [p3] at hj
      rw [p1, p2]
      exact R1.room (hs.w.2 hl) j hj
    · rw [hs.ver.2]
      cases hci : c i with
      | none => exact R1.ver
      | some u => rfl
  · obtain ⟨b, hb, hs⟩ := hblk i b' hb'
    obtain ⟨d, hd, hs'⟩ := hblk j d' hd'
    show (stlP (c i) (g1 i)).1 ≠ (stlP (c j) (g1 j)).1
    rw [(hpl i).1, (hpl j).1]
    exact k2.apart i j b d hij hb hd (hs.w.1 hw) (hs.w.2 hl) (hs'.w.2 hl')
  · have e : ∀ N : List Blk, getB (m ++ N) i = getB m i := by
      intro N
      rw [getB_eq, getB_eq, List.getD_eq_getElem?_getD, List.getD_eq_getElem?_getD, List.getElem?_append_left hi]
    have := k3.agree i hi
    rw [e] at this ⊢
    simp only [hc i hi, stlP]
    exact this
  · obtain ⟨i, b', hb', hw, he⟩ := hf
    obtain ⟨b, hb, hs⟩ := hblk i b' hb'
    have he : (stlP (c i) (g1 i)).1 = p := he
    rw [(hpl i).1] at he
    exact k3.foot p hp ⟨i, b, hb, hs.w.1 hw, he⟩
end Go.Eng
