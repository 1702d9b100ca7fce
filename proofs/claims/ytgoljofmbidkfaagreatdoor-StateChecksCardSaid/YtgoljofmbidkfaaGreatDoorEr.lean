/- The engine: a contract for rows that do not grow, asked of rows that do, where nothing is written; memory with a block more of which nobody knows; slices that may be none. No condition. -/
import Derived.Test.YtgoljofmbidkfaaGreatDoorE25
import Derived.Test.YtgoljofmbidkfaaGreatDoorE21
namespace Go.Eng
open Go
set_option linter.unusedSimpArgs false
set_option linter.unusedVariables false

theorem COk.ro {P : Program} {ng : Nat} {f : FuncId} {args : List V} {m m' : List Blk} {r : V} (c : Nat → Option Nat) (h : COk P ng f (stlL c args) m' r m') (hcur : curL c args) (hN : AllStl c 0 m m')
    (hbig : ∀ i, m.length ≤ i → c i = none) (hng : ∀ i, i < ng → c i = none) (hro : roM m' = true) (hr : r.sc 0 = true) : COk P ng f args m r m := by
  rw [COk_iff] at *
  intro g w xs hg R hx
  obtain ⟨hlen, hget⟩ := hN.get
  have hblk : ∀ i b', m'[i]? = some b' → ∃ b, m[i]? = some b ∧ StlB c i b b' := fun i b' hb' => by
    obtain ⟨b, h1, h2⟩ := hget i b' hb'
    exact ⟨b, h1, by rwa [Nat.zero_add] at h2⟩
  have hcv : ∀ i u, c i = some u → (g i).4 = u + 1 := by
    intro i u hu
    have hi : i < m'.length := by
      rcases Nat.lt_or_ge i m.length with h1 | h1
      · omega
      · rw [hbig i h1] at hu; exact nomatch hu
    obtain ⟨b, h1, h2⟩ := hblk i _ (List.getElem?_eq_getElem hi)
    rw [← (R.blk i b h1).ver]
    exact h2.ver.1 u hu
  have hpl : ∀ i, (stlP (c i) (g i)).1 = (g i).1 ∧ (stlP (c i) (g i)).2 = (g i).2 ∧ (stlP (c i) (g i)).3 = (g i).3 := by
    intro i; cases c i <;> exact ⟨rfl, rfl, rfl⟩
  have R' : Rep (fun i => stlP (c i) (g i)) m' w := by
    refine ⟨fun i b' hb' => ?_, fun i j b' d' hij hb' hd' hw hl hl' => ?_⟩
    · obtain ⟨b, hb, hs⟩ := hblk i b' hb'
      have R1 := R.blk i b hb
      obtain ⟨p1, p2, p3⟩ := hpl i
      refine ⟨by rw [p1]; exact R1.size, fun j v hv => ?_, fun hw hl j => by rw [p1]; exact R1.free (hs.w.1 hw) (hs.w.2 hl) j, fun hl j hj => ?_, fun f hf => by rw [p1]; exact R1.map f (hs.map f hf), ?_⟩
      · obtain ⟨u, h1, rfl, h3⟩ := hs.cell j v hv
        obtain ⟨y, h4, h5⟩ := R1.cell j u h1
        exact ⟨y, by rw [p1, p2]; exact h4, by rw [hlen]; exact Rv_stl hcv u h3 h5⟩
      · rw [p3] at hj
        rw [p1, p2]
        exact R1.room (hs.w.2 hl) j hj
      · rw [hs.ver.2]
        cases hci : c i with
        | none => exact R1.ver
        | some u => rfl
    · rw [roM_get hro hb'] at hw; cases hw
  refine (h _ w xs ⟨by rw [hlen]; exact hg.1, fun i hi => by show stlP (c i) (g i) = _; rw [hng i hi]; exact hg.2 i hi⟩ R' (by rw [hlen]; exact Rvs_stl hcv args hcur hx)).mono ?_
  rintro x w' ⟨g1, k1, k2, k3⟩
  have hsame : ∀ p, p < w.heap.size → w'.heap[p]? = w.heap[p]? := fun p hp => k3.same p hp (by
    rintro ⟨i, b, hb, hw, _⟩
    rw [roM_get hro hb] at hw; cases hw)
  exact ⟨g, Rv_mono (Nat.zero_le _) (fun i hi => absurd hi (Nat.not_lt_zero i)) r (Rv_shrink r hr k1), ⟨fun i b hb => (R.blk i b hb).congr (hsame _ (R.blk i b hb).size) (Nat.le_refl _) (fun i _ => .inl rfl), R.apart⟩,
    ⟨Nat.le_refl _, fun i hi => ⟨Nat.le_refl _, .inl rfl⟩, k3.os, k3.tape, k3.output, k3.size, fun p hp _ => hsame p hp, fun p hp h => h⟩⟩
theorem shutM_ro : ∀ m : List Blk, roM (shutM m) = true
  | [] => rfl
  | _ :: m => by simp [shutM, roM, shutM_ro m]
theorem shutM_app : ∀ (m l : List Blk), shutM (m ++ l) = shutM m ++ shutM l
  | [], l => rfl
  | b :: m, l => by simp [shutM, shutM_app m l]
theorem shutM_sc (n : Nat) : ∀ m : List Blk, scM n m = true → scM n (shutM m) = true
  | [], _ => rfl
  | b :: m, h => by
    simp only [scM, shutM, Bool.and_eq_true] at *
    exact ⟨h.1, shutM_sc n m h.2⟩
theorem AllStl.app {c : Nat → Option Nat} : ∀ {m l m' l' : List Blk} {k : Nat}, AllStl c k m m' → AllStl c (k + m.length) l l' → AllStl c k (m ++ l) (m' ++ l')
  | [], l, [], l', k, _, h => h
  | [], _, _ :: _, _, k, h, _ => h.elim
  | _ :: _, _, [], _, k, h, _ => h.elim
  | b :: m, l, b' :: m', l', k, h, h' => ⟨h.1, AllStl.app h.2 (by rwa [show k + 1 + m.length = k + (b :: m).length by simp; omega])⟩
theorem AllStl.shut {c : Nat → Option Nat} {n : Nat} (hc : ∀ i, i < n → c i = none) : ∀ (m : List Blk) (k : Nat), k + m.length ≤ n → (∀ (i : Nat) b, m[i]? = some b → ∀ (j : Nat) v, b.b.get j = some v → v.sc n = true) → AllStl c k m (shutM m)
  | [], k, _, _ => trivial
  | b :: m, k, hk, hs => by
    refine ⟨.same (b := b.b) (w := b.w) (hc k (by simp at hk; omega)) (fun h => nomatch h) (fun j v hv => V.stl_old hc v (hs 0 b rfl j v hv)), AllStl.shut hc m (k + 1) (by simp at hk ⊢; omega) (fun i d hd j v hv => hs (i + 1) d (by simpa using hd) j v hv)⟩
theorem AllStl.keep {c : Nat → Option Nat} {n : Nat} (hc : ∀ i, i < n → c i = none) : ∀ (m : List Blk) (k : Nat), (∀ i, k ≤ i → i < k + m.length → c i = none) → scM n m = true → AllStl c k m m
  | [], k, _, _ => trivial
  | b :: m, k, hk, hs => by
    simp only [scM, Bool.and_eq_true] at hs
    exact ⟨.same (b := b.b) (w := b.w) (hk k (Nat.le_refl _) (by simp only [List.length_cons]; omega)) (fun h => h) (fun j v hv => V.stl_old hc v (B.sc_get hs.1 hv)), AllStl.keep hc m (k + 1) (fun i h1 h2 => hk i (by omega) (by simp only [List.length_cons]; omega)) hs.2⟩
/-- A block more, of which nobody knows. -/
theorem COk.pad {P : Program} {ng : Nat} {f : FuncId} {args : List V} {m m' : List Blk} {r : V} (h : COk P ng f args m r m') (hng : 0 < ng) : COk P ng f args m r (m' ++ [⟨false, .dead⟩]) := by
  rw [COk_iff] at *
  intro g w xs hg R hx
  refine (h g w xs hg R hx).mono ?_
  rintro x w' ⟨g1, k1, k2, k3⟩
  have hlen := k3.len
  have hg1 := hg.1
  obtain ⟨G, hat, hG⟩ : ∃ G : Nat → Pl, (∀ i, i < m'.length → G i = g1 i) ∧ G m'.length = ⟨0, 0, 0, 0⟩ := ⟨fun i => if i = m'.length then ⟨0, 0, 0, 0⟩ else g1 i, fun i hi => if_neg (by omega), if_pos rfl⟩
  have hag : ∀ i, i < m'.length → Ag (g1 i) (G i) := fun i hi => .inl (hat i hi)
  have hsz : 0 < w'.heap.size := by
    obtain ⟨b, hb⟩ : ∃ b, m'[0]? = some b := ⟨_, List.getElem?_eq_getElem (by omega)⟩
    have := (k2.blk 0 b hb).size
    omega
  have hsplit : ∀ i b, (m' ++ [(⟨false, .dead⟩ : Blk)])[i]? = some b → (i < m'.length ∧ m'[i]? = some b) ∨ (i = m'.length ∧ b = ⟨false, .dead⟩) := by
    intro i b hb
    rcases Nat.lt_or_ge i m'.length with hi | hi
    · rw [List.getElem?_append_left hi] at hb; exact .inl ⟨hi, hb⟩
    · have := (List.getElem?_eq_some_iff.1 hb).1
      simp at this
      have e : i = m'.length := by omega
      subst e
      rw [List.getElem?_append_right (Nat.le_refl _)] at hb
      simp at hb
      exact .inr ⟨rfl, hb.symm⟩
  refine ⟨G, Rv_monoA (by simp) hag r k1, ⟨fun i b hb => ?_, fun i j b d hij hb hd hw hl hl' => ?_⟩, ⟨by simp; omega, fun i hi => ?_, k3.os, k3.tape, k3.output, k3.size, k3.same, fun p hp hf => ?_⟩⟩
  · rcases hsplit i b hb with ⟨hi, hb⟩ | ⟨rfl, rfl⟩
    · rw [hat i hi]
      exact (k2.blk i b hb).congr rfl (by simp) hag
    · rw [hG]
      exact ⟨hsz, fun j v hv => (nomatch hv), fun h => (nomatch h), fun h => (nomatch h), fun f hf => (nomatch hf), rfl⟩
  · rcases hsplit i b hb with ⟨hi, hb⟩ | ⟨rfl, rfl⟩
    · rcases hsplit j d hd with ⟨hj, hd⟩ | ⟨rfl, rfl⟩
      · rw [hat i hi, hat j hj]
        exact k2.apart i j b d hij hb hd hw hl hl'
      · exact nomatch hl'
    · exact nomatch hw
  · have hi' : i < m'.length := by omega
    have e : getB (m' ++ [⟨false, .dead⟩]) i = getB m' i := by
      rw [getB_eq, getB_eq, List.getD_eq_getElem?_getD, List.getD_eq_getElem?_getD, List.getElem?_append_left hi']
    rw [e, hat i hi']
    exact k3.agree i hi
  · obtain ⟨i, b, hb, hw, he⟩ := hf
    rcases hsplit i b hb with ⟨hi, hb⟩ | ⟨rfl, rfl⟩
    · rw [hat i hi] at he
      exact k3.foot p hp ⟨i, b, hb, hw, he⟩
    · exact nomatch hw
theorem nums_Rv {b : B} (hnum : b.nums = true) {j : Nat} {u : V} {y : Value} (hu : b.get j = some u) {n n' : Nat} {G G' : Nat → Pl} (h : Rv n G u y) : Rv n' G' u y := by
  cases b <;> first
    | (cases hnum; done)
    | (simp only [B.get, Option.map_eq_some_iff] at hu; obtain ⟨_, _, rfl⟩ := hu; simpa [Rv] using h)
/-- A new row that the caller gets, ahead of which lies what nobody knows any more. -/
theorem COk.drop1 {P : Program} {ng : Nat} {f : FuncId} {args : List V} {m : List Blk} {d b : Blk} {n : Nat} (h : COk P ng f args m (.sl (m.length + 1) 0 n) (m ++ [d, b])) (hb : b.b.nums = true) : COk P ng f args m (.sl m.length 0 n) (m ++ [b]) := by
  rw [COk_iff] at *
  intro g w xs hg R hx
  refine (h g w xs hg R hx).mono ?_
  rintro x w' ⟨g1, k1, k2, k3⟩
  obtain ⟨G, hat, hG⟩ : ∃ G : Nat → Pl, (∀ i, i < m.length → G i = g1 i) ∧ G m.length = g1 (m.length + 1) := ⟨fun i => if i = m.length then g1 (m.length + 1) else g1 i, fun i hi => if_neg (by omega), if_pos rfl⟩
  have hsplit : ∀ (i : Nat) (c : Blk), (m ++ [b])[i]? = some c → (i < m.length ∧ m[i]? = some c) ∨ (i = m.length ∧ c = b) := fun i c hc => snoc_get hc
  have up : ∀ (i : Nat) (c : Blk), i < m.length → m[i]? = some c → (m ++ [d, b])[i]? = some c := fun i c hi hc => by rw [List.getElem?_append_left hi]; exact hc
  have top : (m ++ [d, b])[m.length + 1]? = some b := by rw [List.getElem?_append_right (by omega)]; simp
  have hsc : ∀ (i : Nat) (c : Blk), m[i]? = some c → ∀ (j : Nat) (v : V), c.b.get j = some v → v.sc m.length = true := fun i c hc j v hv => by
    obtain ⟨y, _, hr⟩ := (R.blk i c hc).cell j v hv
    exact Rv_sc v hr
  simp only [Rv] at k1
  refine ⟨G, ?_, ⟨fun i c hc => ?_, fun i j c e hij hc he hw hl hl' => ?_⟩, ⟨by simp, fun i hi => ?_, k3.os, k3.tape, k3.output, k3.size, k3.same, fun p hp hf => ?_⟩⟩
  · simp only [Rv]
    rw [hG]
    exact ⟨by simp, k1.2⟩
  · rcases hsplit i c hc with ⟨hi, hc⟩ | ⟨rfl, rfl⟩
    · have R1 := k2.blk i c (up i c hi hc)
      rw [hat i hi]
      refine ⟨R1.size, fun j v hv => ?_, R1.free, R1.room, R1.map, R1.ver⟩
      obtain ⟨y, h1, h2⟩ := R1.cell j v hv
      exact ⟨y, h1, Rv_mono (by simp) hat v (Rv_shrink v (hsc i c hc j v hv) h2)⟩
    · have R1 := k2.blk _ _ top
      rw [hG]
      refine ⟨R1.size, fun j v hv => ?_, R1.free, R1.room, R1.map, R1.ver⟩
      obtain ⟨y, h1, h2⟩ := R1.cell j v hv
      exact ⟨y, h1, nums_Rv hb hv h2⟩
  · rcases hsplit i c hc with ⟨hi, hc'⟩ | ⟨hi, rfl⟩
    · rcases hsplit j e he with ⟨hj, he'⟩ | ⟨hj, rfl⟩
      · rw [hat i hi, hat j hj]
        exact k2.apart i j c e hij (up i c hi hc') (up j e hj he') hw hl hl'
      · subst hj
        rw [hat i hi, hG]
        exact k2.apart i (m.length + 1) c _ (by omega) (up i c hi hc') top hw hl hl'
    · subst hi
      rcases hsplit j e he with ⟨hj, he'⟩ | ⟨hj, rfl⟩
      · rw [hat j hj, hG]
        exact k2.apart (m.length + 1) j _ e (by omega) top (up j e hj he') hw hl hl'
      · exact absurd hj.symm hij
  · have hi' : i < m.length := hi
    have e : ∀ l, getB (m ++ l) i = getB m i := fun l => by
      rw [getB_eq, getB_eq, List.getD_eq_getElem?_getD, List.getD_eq_getElem?_getD, List.getElem?_append_left hi']
    have := k3.agree i hi
    rw [e] at this ⊢
    rw [hat i hi']
    exact this
  · obtain ⟨i, c, hc, hw, he⟩ := hf
    rcases hsplit i c hc with ⟨hi, hc⟩ | ⟨rfl, rfl⟩
    · rw [hat i hi] at he
      exact k3.foot p hp ⟨i, c, up i c hi hc, hw, he⟩
    · rw [hG] at he
      exact k3.foot p hp ⟨m.length + 1, _, top, hw, he⟩
theorem scM_of_app {k : Nat} : ∀ {l r : List Blk}, scM k (l ++ r) = true → scM k l = true ∧ scM k r = true
  | [], r, h => ⟨rfl, h⟩
  | b :: l, r, h => by
    simp only [scM, List.cons_append, Bool.and_eq_true] at *
    obtain ⟨h1, h2⟩ := scM_of_app h.2
    exact ⟨⟨h.1, h1⟩, h2⟩
/-- A slice of no elements: none, or one of a row. -/
theorem COk.sl0 {P : Program} {ng : Nat} {f : FuncId} {m m' : List Blk} {r : V} {i o : Nat} (h1 : ∀ cap, COk P ng f [.raw (.slice none 0 cap)] m r m') (h2 : ∀ a cap, COk P ng f [.raw (.slice (some a) 0 cap)] m r m') : COk P ng f [.sl i o 0] m r m' := by
  intro g w xs hg R hx
  simp only [Rvs] at hx
  obtain ⟨y, ys, rfl, hy, rfl⟩ := hx
  simp only [Rv] at hy
  obtain ⟨_, _, a, cap, rfl, _, _⟩ := hy
  cases a with
  | none => exact h1 cap g w _ hg R (by simp [Rvs, Rv])
  | some a => exact h2 a cap g w _ hg R (by simp [Rvs, Rv])
end Go.Eng
