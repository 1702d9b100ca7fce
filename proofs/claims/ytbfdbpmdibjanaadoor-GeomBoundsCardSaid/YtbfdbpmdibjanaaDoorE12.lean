/- The engine, part 12: rows that grow: append, copy. No condition. -/
import Derived.Test.YtbfdbpmdibjanaaDoorE9
import Derived.Laws.Append
namespace Go.Eng
open Go
section
variable {P : Program} {ng : Nat} {g : Nat → Pl} {t : List V} {m : List Blk} {a : Act} {w : World} {K : V → List Blk → Prop}

/-! ### Rows as lists of cells -/
def B.size : B → Nat
  | .cells cs => cs.length
  | .ints _ l => l.length
  | .flts l => l.length
  | .bools l => l.length
  | .gcells _ cs => cs.length
  | .gints _ _ l => l.length
  | .gflts _ l => l.length
  | _ => 0
theorem B.get_size {b : B} {j : Nat} (h : j < b.size) : ∃ v, b.get j = some v := by
  cases b <;> simp only [B.size] at h <;> first
    | exact absurd h (Nat.not_lt_zero _)
    | exact ⟨_, List.getElem?_eq_getElem h⟩
    | exact ⟨_, by simp only [B.get, List.getElem?_eq_getElem h]; rfl⟩
theorem B.get_none {b : B} {j : Nat} (h : b.size ≤ j) : b.get j = none := by
  cases b <;> simp only [B.size] at h <;> simp [B.get, h]
/-- Rows of plain cells: of values that fit one cell each. -/
def oneB (c : B) : Prop := c.plain = true ∧ ∀ j v, c.get j = some v → v.one = true
theorem list_of {α : Type} {p : Nat → α → Prop} : ∀ (n k : Nat), (∀ j, j < n → ∃ x, p (k + j) x) → ∃ xs : List α, xs.length = n ∧ ∀ j x, xs[j]? = some x → p (k + j) x
  | 0, k, _ => ⟨[], rfl, by simp⟩
  | n + 1, k, h => by
    obtain ⟨x, hx⟩ := h 0 (by omega)
    obtain ⟨xs, h1, h2⟩ := list_of n (k + 1) (fun j hj => by have := h (j + 1) (by omega); rwa [show k + 1 + j = k + (j + 1) by omega])
    refine ⟨x :: xs, by simp [h1], fun j y hy => ?_⟩
    cases j with
    | zero => simp at hy; subst hy; exact hx
    | succ j => simp at hy; have := h2 j y hy; rwa [show k + 1 + j = k + (j + 1) by omega] at this

theorem take_drop_get {α : Type} {l : List α} {off n j : Nat} : ((l.drop off).take n)[j]? = if j < n then l[off + j]? else none := by
  rw [List.getElem?_take]
  split
  · rw [List.getElem?_drop]
  · rfl
theorem segB_spec {b : B} {off n : Nat} {K : B → Prop} (h : segB b off n K) : ∃ c, K c ∧ oneB c ∧ c.size = n ∧ ∀ j, c.get j = if j < n then b.get (off + j) else none := by
  have cells : ∀ b : B, (rdN b off n fun cs => br (allOne cs) (K (.cells cs)) False) → ∃ c, K c ∧ oneB c ∧ c.size = n ∧ ∀ j, c.get j = if j < n then b.get (off + j) else none := by
    intro b h
    obtain ⟨vs, h1, h2, h3⟩ := rdN_spec n h
    obtain ⟨h4, h5⟩ := br_F h3
    refine ⟨_, h5, ⟨rfl, fun j v hv => ?_⟩, h1, fun j => ?_⟩
    · exact (allOne_iff vs).1 h4 v (List.mem_of_getElem? hv)
    · by_cases hj : j < n
      · rw [if_pos hj]
        have hv : vs[j]? = some vs[j] := List.getElem?_eq_getElem (by omega)
        rw [h2 j _ hv]
        exact hv
      · rw [if_neg hj]
        exact List.getElem?_eq_none (by omega)
  have ints : ∀ (k : IntKind) (l : List Int) (b : B), (∀ j, b.get j = (l[j]?).map (.int k)) → br (Nat.ble (off + n) l.length) (K (.ints k ((l.drop off).take n))) False → ∃ c, K c ∧ oneB c ∧ c.size = n ∧ ∀ j, c.get j = if j < n then b.get (off + j) else none := by
    intro k l b hb h
    obtain ⟨h1, h2⟩ := br_F h
    have h1 : off + n ≤ l.length := by simpa using h1
    refine ⟨_, h2, ⟨rfl, fun j v hv => ?_⟩, by simp only [B.size, List.length_take, List.length_drop]; omega, fun j => ?_⟩
    · simp only [B.get, Option.map_eq_some_iff] at hv
      obtain ⟨_, _, rfl⟩ := hv; rfl
    · rw [hb, show (B.ints k ((l.drop off).take n)).get j = (((l.drop off).take n)[j]?).map (.int k) from rfl, take_drop_get]
      split <;> rfl
  have flts : ∀ (l : List Nat) (b : B), (∀ j, b.get j = (l[j]?).map (fun b => .fl (some b))) → br (Nat.ble (off + n) l.length) (K (.flts ((l.drop off).take n))) False → ∃ c, K c ∧ oneB c ∧ c.size = n ∧ ∀ j, c.get j = if j < n then b.get (off + j) else none := by
    intro l b hb h
    obtain ⟨h1, h2⟩ := br_F h
    have h1 : off + n ≤ l.length := by simpa using h1
    refine ⟨_, h2, ⟨rfl, fun j v hv => ?_⟩, by simp only [B.size, List.length_take, List.length_drop]; omega, fun j => ?_⟩
    · simp only [B.get, Option.map_eq_some_iff] at hv
      obtain ⟨_, _, rfl⟩ := hv; rfl
    · rw [hb, show (B.flts ((l.drop off).take n)).get j = (((l.drop off).take n)[j]?).map (fun b => .fl (some b)) from rfl, take_drop_get]
      split <;> rfl
  cases b with
  | ints k l => exact ints k l _ (fun _ => rfl) h
  | gints w k l => exact ints k l _ (fun _ => rfl) h
  | flts l => exact flts l _ (fun _ => rfl) h
  | gflts w l => exact flts l _ (fun _ => rfl) h
  | dead => exact cells _ h
  | cells cs => exact cells _ h
  | bools l => exact cells _ h
  | gcells w cs => exact cells _ h
  | mpI f => exact cells _ h

theorem intsL_spec {k : IntKind} : ∀ {cs : List V} {l : List Int}, intsL k cs = some l → cs = l.map (.int k)
  | [], l, h => by simp only [intsL, Option.some.injEq] at h; subst h; rfl
  | v :: cs, l, h => by
    unfold intsL at h
    split at h
    · rename_i e; exact nomatch e
    · rename_i k' n cs' e
      cases e
      split at h
      · rename_i r h1 h2
        simp only [Option.some.injEq] at h; subst h
        rw [intsL_spec h2, sameKind_eq h1]; rfl
      · exact nomatch h
    · exact nomatch h
theorem fltsL_spec : ∀ {cs : List V} {l : List Nat}, fltsL cs = some l → cs = l.map (fun b => .fl (some b))
  | [], l, h => by simp only [fltsL, Option.some.injEq] at h; subst h; rfl
  | v :: cs, l, h => by
    unfold fltsL at h
    split at h
    · rename_i e; exact nomatch e
    · rename_i n cs' e
      cases e
      split at h
      · rename_i r h2
        simp only [Option.some.injEq] at h; subst h
        rw [fltsL_spec h2]; rfl
      · exact nomatch h
    · exact nomatch h
theorem cells_ints {k : IntKind} {cs : List V} {l : List Int} (h : intsL k cs = some l) (j : Nat) : (B.cells cs).get j = (B.ints k l).get j := by
  rw [intsL_spec h]; simp [B.get]
theorem cells_flts {cs : List V} {l : List Nat} (h : fltsL cs = some l) (j : Nat) : (B.cells cs).get j = (B.flts l).get j := by
  rw [fltsL_spec h]; simp [B.get]
theorem cells_ints_size {k : IntKind} {cs : List V} {l : List Int} (h : intsL k cs = some l) : (B.cells cs).size = l.length := by
  rw [intsL_spec h]; simp [B.size]
theorem cells_flts_size {cs : List V} {l : List Nat} (h : fltsL cs = some l) : (B.cells cs).size = l.length := by
  rw [fltsL_spec h]; simp [B.size]

theorem growNew_spec {z : Zero} {c : B} {K : B → Prop} (h : growNew z c K) : ∃ b, K b ∧ b.row = true ∧ b.vof = 1 ∧ ∀ j, b.get j = c.get j := by
  unfold growNew at h
  split at h
  · split at h
    · rename_i hk
      have := sameKind_eq hk; subst this
      exact ⟨_, h, rfl, rfl, fun _ => rfl⟩
    · exact h.elim
  · split at h
    · rename_i hk
      exact ⟨_, h, rfl, rfl, fun j => (cells_ints hk j).symm⟩
    · exact h.elim
  · exact ⟨_, h, rfl, rfl, fun _ => rfl⟩
  · split at h
    · rename_i hk
      exact ⟨_, h, rfl, rfl, fun j => (cells_flts hk j).symm⟩
    · exact h.elim
  · exact ⟨_, h, rfl, rfl, fun _ => rfl⟩
  · exact ⟨_, h, rfl, rfl, fun _ => rfl⟩
  · exact h.elim
theorem app_get {α β : Type} {l r : List α} {f : α → β} {j : Nat} : ((l ++ r)[j]?).map f = if j < l.length then (l[j]?).map f else (r[j - l.length]?).map f := by
  rw [List.getElem?_append]
  split <;> rfl
theorem growB_spec {b c : B} {K : B → Prop} (h : growB b c K) : ∃ b', K b' ∧ b.row = true ∧ b'.row = true ∧ 0 < b.vof ∧ b'.vof = b.vof + 1 ∧ ∀ j, b'.get j = if j < b.cnt then b.get j else c.get (j - b.cnt) := by
  unfold growB at h
  split at h
  · split at h
    · rename_i hk
      have := sameKind_eq hk; subst this
      exact ⟨_, h, rfl, rfl, Nat.succ_pos _, rfl, fun j => by simp only [B.get, B.cnt]; exact app_get⟩
    · exact h.elim
  · split at h
    · rename_i hk
      exact ⟨_, h, rfl, rfl, Nat.succ_pos _, rfl, fun j => by rw [cells_ints hk]; simp only [B.get, B.cnt]; exact app_get⟩
    · exact h.elim
  · exact ⟨_, h, rfl, rfl, Nat.succ_pos _, rfl, fun j => by simp only [B.get, B.cnt]; exact app_get⟩
  · split at h
    · rename_i hk
      exact ⟨_, h, rfl, rfl, Nat.succ_pos _, rfl, fun j => by rw [cells_flts hk]; simp only [B.get, B.cnt]; exact app_get⟩
    · exact h.elim
  · exact ⟨_, h, rfl, rfl, Nat.succ_pos _, rfl, fun j => by simp only [B.get, B.cnt]; rw [List.getElem?_append]; rfl⟩
  · exact h.elim
theorem catB_spec {b c : B} {K : B → Prop} (h : catB b c K) : ∃ d, K d ∧ d.size = b.size + c.size ∧ ∀ j, d.get j = if j < b.size then b.get j else c.get (j - b.size) := by
  unfold catB at h
  split at h
  · split at h
    · rename_i hk
      have := sameKind_eq hk; subst this
      exact ⟨_, h, by simp [B.size], fun j => by simp only [B.get, B.size]; exact app_get⟩
    · exact h.elim
  · split at h
    · rename_i hk
      exact ⟨_, h, by rw [cells_ints_size hk]; simp [B.size], fun j => by rw [cells_ints hk]; simp only [B.get, B.size]; exact app_get⟩
    · exact h.elim
  · exact ⟨_, h, by simp [B.size], fun j => by simp only [B.get, B.size]; exact app_get⟩
  · split at h
    · rename_i hk
      exact ⟨_, h, by rw [cells_flts_size hk]; simp [B.size], fun j => by rw [cells_flts hk]; simp only [B.get, B.size]; exact app_get⟩
    · exact h.elim
  · exact ⟨_, h, by simp [B.size], fun j => by simp only [B.get, B.size]; rw [List.getElem?_append]; rfl⟩
  · exact ⟨_, h, by simp [B.size], fun j => by simp [B.get, B.size]⟩
  · exact ⟨_, h, by simp [B.size], fun j => by simp [B.get, B.size]⟩
  · exact h.elim
theorem paste_get {α β : Type} {l r : List α} {f : α → β} {off j : Nat} (h : off + r.length ≤ l.length) : ((l.take off ++ r ++ l.drop (off + r.length))[j]?).map f = if off ≤ j ∧ j < off + r.length then (r[j - off]?).map f else (l[j]?).map f := by
  have h1 : (l.take off).length = off := by rw [List.length_take]; omega
  rw [List.append_assoc, List.getElem?_append, h1]
  by_cases c1 : j < off
  · rw [if_pos c1, if_neg (by omega), List.getElem?_take, if_pos c1]
  · rw [if_neg c1, List.getElem?_append]
    by_cases c2 : j - off < r.length
    · rw [if_pos c2, if_pos (by omega)]
    · rw [if_neg c2, if_neg (by omega), List.getElem?_drop]
      congr 2; omega
theorem pasteB_spec {b c : B} {off : Nat} {K : B → Prop} (h : pasteB b off c K) : ∃ b', K b' ∧ b.row = true ∧ b'.row = true ∧ b'.vof = b.vof ∧ off + c.size ≤ b.size ∧ ∀ j, b'.get j = if off ≤ j ∧ j < off + c.size then c.get (j - off) else b.get j := by
  unfold pasteB at h
  split at h
  · obtain ⟨h1, h2⟩ := br_F h
    simp only [Bool.and_eq_true] at h1
    have := sameKind_eq h1.1; subst this
    have h1 := h1.2
    simp only [Nat.ble_eq] at h1
    exact ⟨_, h2, rfl, rfl, rfl, h1, fun j => by simp only [B.get, B.size]; exact paste_get h1⟩
  · split at h
    · rename_i hk
      obtain ⟨h1, h2⟩ := br_F h
      simp only [Nat.ble_eq] at h1
      refine ⟨_, h2, rfl, rfl, rfl, by rw [cells_ints_size hk]; exact h1, fun j => ?_⟩
      rw [cells_ints hk, cells_ints_size hk]; simp only [B.get]; exact paste_get h1
    · exact h.elim
  · obtain ⟨h1, h2⟩ := br_F h
    simp only [Nat.ble_eq] at h1
    exact ⟨_, h2, rfl, rfl, rfl, h1, fun j => by simp only [B.get, B.size]; exact paste_get h1⟩
  · split at h
    · rename_i hk
      obtain ⟨h1, h2⟩ := br_F h
      simp only [Nat.ble_eq] at h1
      refine ⟨_, h2, rfl, rfl, rfl, by rw [cells_flts_size hk]; exact h1, fun j => ?_⟩
      rw [cells_flts hk, cells_flts_size hk]; simp only [B.get]; exact paste_get h1
    · exact h.elim
  · obtain ⟨h1, h2⟩ := br_F h
    simp only [Nat.ble_eq] at h1
    exact ⟨_, h2, rfl, rfl, rfl, h1, fun j => by
      simp only [B.get, B.size]
      have := paste_get (f := id) (j := j) h1
      simp only [Option.map_id_fun, id_eq] at this
      exact this⟩
  · exact h.elim

/-! ### What is read -/
/-- The cells of a block, as the heap holds them. -/
theorem cells_of (S : Sim ng g t m a w) {i off n : Nat} {c : B} (hc : ∀ j, c.get j = if j < n then (getB m i).b.get (off + j) else none) (hn : c.size = n) :
    ∃ xs : List Value, xs.length = n ∧ (∀ (j : Nat) x, xs[j]? = some x → w.cell? ⟨(g i).1, (g i).2 + off + j, none⟩ = some x) ∧ ∀ (j : Nat) v, c.get j = some v → ∃ x, xs[j]? = some x ∧ Rv m.length g v x := by
  obtain ⟨xs, h1, h2⟩ := list_of (p := fun j x => w.cell? ⟨(g i).1, (g i).2 + off + j, none⟩ = some x ∧ ∀ v, c.get j = some v → Rv m.length g v x) n 0 (fun j hj => by
    obtain ⟨v, hv⟩ := B.get_size (b := c) (j := j) (by omega)
    have h0 := hv
    rw [hc, if_pos hj] at h0
    have hb := getB_some (.inl (live_of_get h0))
    obtain ⟨y, hy, hr⟩ := (S.rep.blk i _ hb).cell _ _ h0
    refine ⟨y, ?_, fun u hu => ?_⟩
    · rw [← hy]; congr 2; omega
    · rw [Nat.zero_add, hv] at hu; cases hu; exact hr)
  refine ⟨xs, h1, fun j x hx => by have := (h2 j x hx).1; rwa [Nat.zero_add] at this, fun j v hv => ?_⟩
  have hj : j < n := by
    rcases Nat.lt_or_ge j n with h | h
    · exact h
    · rw [hc, if_neg (by omega)] at hv; exact nomatch hv
  refine ⟨xs[j], List.getElem?_eq_getElem (by omega), (h2 j _ (List.getElem?_eq_getElem (by omega))).2 v (by rw [Nat.zero_add]; exact hv)⟩
/-- What a source gives. -/
structure Src (P : Program) (m : List Blk) (g : Nat → Pl) (es : Nat) (xv : Value) (n : Nat) (c : B) (xs : List Value) : Prop where
  one : oneB c
  size : c.size = n * es
  len : xs.length = n * es
  rel : ∀ (j : Nat) v, c.get j = some v → ∃ x, xs[j]? = some x ∧ Rv m.length g v x
theorem Src.cell {es n : Nat} {xv : Value} {c : B} {xs : List Value} (h : Src P m g es xv n c xs) (j : Nat) (x : Value) (hx : xs[j]? = some x) : x.oneCell' = true := by
  have hj := (List.getElem?_eq_some_iff.1 hx).1
  obtain ⟨v, hv⟩ := B.get_size (b := c) (j := j) (by rw [h.size, ← h.len]; exact hj)
  obtain ⟨y, hy, hr⟩ := h.rel j v hv
  rw [hx] at hy; cases hy
  exact one_of (h.one.2 j v hv) hr
theorem cur_of (S : Sim ng g t m a w) {i v : Nat} (e : (getB m i).b.vof = v + 1) : v + 1 = (g i).4 := by
  have hb := getB_some (m := m) (i := i) (.inl (by
    cases hb : (getB m i).b <;> rw [hb] at e <;> first | rfl | (simp [B.vof] at e)))
  rw [← e]; exact (S.rep.blk i _ hb).ver
theorem srcV_spec (S : Sim ng g t m a w) {es : Nat} {x : V} {xv : Value} {K : Nat → B → Prop} (hx : Rv m.length g x xv) (h : srcV es x m K) :
    ∃ n c xs, K n c ∧ Src P m g es xv n c xs ∧ ∃ ba cap, xv = .slice ba n cap ∧ ∀ w' : World, w'.heap = w.heap → (Builtin.firstCells es n xv).run P w' = .ok xs.toArray w' := by
  have fin : ∀ (i off n : Nat) (ba : Option Addr) (cap : Nat), xv = .slice ba n cap → (0 < n → ba = some ⟨(g i).1, (g i).2 + off, none⟩) → segB (getB m i).b off (n * es) (fun b => K n b) →
      ∃ n c xs, K n c ∧ Src P m g es xv n c xs ∧ ∃ ba cap, xv = .slice ba n cap ∧ ∀ w' : World, w'.heap = w.heap → (Builtin.firstCells es n xv).run P w' = .ok xs.toArray w' := by
    intro i off n ba cap hxv hba h
    obtain ⟨c, h1, h2, h3, h4⟩ := segB_spec h
    obtain ⟨xs, k1, k2, k3⟩ := cells_of S h4 h3
    refine ⟨n, c, xs, h1, ⟨h2, h3, k1, k3⟩, ba, cap, hxv, fun w' hw => ?_⟩
    subst hxv
    by_cases h0 : n = 0
    · subst h0
      have hx0 : xs = [] := List.length_eq_zero_iff.1 (by omega)
      subst hx0
      cases ba with
      | none => exact run_firstCells_none w' es 0 0 cap
      | some A => exact run_firstCells_some w' es 0 A 0 cap [] (by simp) (by simp)
    · rw [hba (by omega)]
      refine run_firstCells_some w' es n _ n cap xs k1 (fun j y hy => ?_)
      rw [Addr_add]
      have := k2 j y hy
      unfold World.cell? at *
      rw [hw]; exact this
  unfold srcV at h
  split at h
  · rename_i i off n
    simp only [Rv] at hx
    obtain ⟨_, _, ba, cap, h1, _, h2⟩ := hx
    exact fin i off n ba cap h1 h2 h
  · rename_i i off n cap
    simp only [Rv] at hx
    obtain ⟨_, _, ba, h1, h3, h2⟩ := hx
    exact fin i off n ba cap h1 (fun h0 => h2 (by omega)) h
  · rename_i i v es' n
    simp only [Rv] at hx
    obtain ⟨_, _, ba, cap, h1, _, h2⟩ := hx
    have hc := cur_of S h.1
    exact fin i 0 n (some ba) cap h1 (fun _ => by rw [(h2 hc).1]; rfl) h.2
  · simp only [Rv] at hx
    subst hx
    exact ⟨0, .cells [], [], h, ⟨⟨rfl, fun j v hv => by simp [B.get] at hv⟩, by simp [B.size], by simp, fun j v hv => by simp [B.get] at hv⟩, none, 0, rfl, fun w' _ => run_firstCells_none w' es 0 0 0⟩
  · exact h.elim
end
end Go.Eng
