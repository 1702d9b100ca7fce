import Derived.Test.YtgoljofmbidkfaaGreatDoorE9
import Derived.Laws.Append
import Derived.MapKept
import Derived.WideKeyRuns
/- The engine: parts 12 to 23. No condition. -/
/- The engine, part 12: rows that grow: append, copy. No condition. -/
namespace Go.Eng
open Go
section
variable {P : Program} {ng : Nat} {g : Nat → Pl} {t : List V} {m : List Blk} {a : Act} {w : World} {K : V → List Blk → Prop}

/-! ### Rows as lists of cells -/
def B.size : B → Nat
  | .cells cs => cs.length
  | .ints _ l => l.length
  | .flts l => l.length
  | .bools l => l.length
  | .gcells _ cs => cs.length
  | .gints _ _ l => l.length
  | .gflts _ l => l.length
  | _ => 0
theorem B.get_size {b : B} {j : Nat} (h : j < b.size) : ∃ v, b.get j = some v := by
  cases b <;> simp only [B.size] at h <;> first
    | exact absurd h (Nat.not_lt_zero _)
    | exact ⟨_, List.getElem?_eq_getElem h⟩
    | exact ⟨_, by simp only [B.get, List.getElem?_eq_getElem h]; rfl⟩
/-- Rows of plain cells: of values that fit one cell each. -/
def oneB (c : B) : Prop := c.plain = true ∧ ∀ j v, c.get j = some v → v.one = true
theorem list_of {α : Type} {p : Nat → α → Prop} : ∀ (n k : Nat), (∀ j, j < n → ∃ x, p (k + j) x) → ∃ xs : List α, xs.length = n ∧ ∀ j x, xs[j]? = some x → p (k + j) x
  | 0, k, _ => ⟨[], rfl, by simp⟩
  | n + 1, k, h => by
    obtain ⟨x, hx⟩ := h 0 (by omega)
    obtain ⟨xs, h1, h2⟩ := list_of n (k + 1) (fun j hj => by have := h (j + 1) (by omega); rwa [show k + 1 + j = k + (j + 1) by omega])
    refine ⟨x :: xs, by simp [h1], fun j y hy => ?_⟩
    cases j with
    | zero => simp at hy; subst hy; exact hx
    | succ j => simp at hy; have := h2 j y hy; rwa [show k + 1 + j = k + (j + 1) by omega] at this

theorem take_drop_get {α : Type} {l : List α} {off n j : Nat} : ((l.drop off).take n)[j]? = if j < n then l[off + j]? else none := by
  rw [List.getElem?_take]
  split
  · rw [List.getElem?_drop]
  · rfl
theorem segB_spec {b : B} {off n : Nat} {K : B → Prop} (h : segB b off n K) : ∃ c, K c ∧ oneB c ∧ c.size = n ∧ ∀ j, c.get j = if j < n then b.get (off + j) else none := by
  have cells : ∀ b : B, (rdN b off n fun cs => br (allOne cs) (K (.cells cs)) False) → ∃ c, K c ∧ oneB c ∧ c.size = n ∧ ∀ j, c.get j = if j < n then b.get (off + j) else none := by
    intro b h
    obtain ⟨vs, h1, h2, h3⟩ := rdN_spec n h
    obtain ⟨h4, h5⟩ := br_F h3
    refine ⟨_, h5, ⟨rfl, fun j v hv => ?_⟩, h1, fun j => ?_⟩
    · exact (allOne_iff vs).1 h4 v (List.mem_of_getElem? hv)
    · by_cases hj : j < n
      · rw [if_pos hj]
        have hv : vs[j]? = some vs[j] := List.getElem?_eq_getElem (by omega)
        rw [h2 j _ hv]
        exact hv
      · rw [if_neg hj]
        exact List.getElem?_eq_none (by omega)
  have ints : ∀ (k : IntKind) (l : List Int) (b : B), (∀ j, b.get j = (l[j]?).map (.int k)) → br (Nat.ble (off + n) l.length) (K (.ints k ((l.drop off).take n))) False → ∃ c, K c ∧ oneB c ∧ c.size = n ∧ ∀ j, c.get j = if j < n then b.get (off + j) else none := by
    intro k l b hb h
    obtain ⟨h1, h2⟩ := br_F h
    have h1 : off + n ≤ l.length := by simpa using h1
    refine ⟨_, h2, ⟨rfl, fun j v hv => ?_⟩, by simp only [B.size, List.length_take, List.length_drop]; omega, fun j => ?_⟩
    · simp only [B.get, Option.map_eq_some_iff] at hv
      obtain ⟨_, _, rfl⟩ := hv; rfl
    · rw [hb, show (B.ints k ((l.drop off).take n)).get j = (((l.drop off).take n)[j]?).map (.int k) from rfl, take_drop_get]
      split <;> rfl
  have flts : ∀ (l : List Nat) (b : B), (∀ j, b.get j = (l[j]?).map (fun b => .fl (some b))) → br (Nat.ble (off + n) l.length) (K (.flts ((l.drop off).take n))) False → ∃ c, K c ∧ oneB c ∧ c.size = n ∧ ∀ j, c.get j = if j < n then b.get (off + j) else none := by
    intro l b hb h
    obtain ⟨h1, h2⟩ := br_F h
    have h1 : off + n ≤ l.length := by simpa using h1
    refine ⟨_, h2, ⟨rfl, fun j v hv => ?_⟩, by simp only [B.size, List.length_take, List.length_drop]; omega, fun j => ?_⟩
    · simp only [B.get, Option.map_eq_some_iff] at hv
      obtain ⟨_, _, rfl⟩ := hv; rfl
    · rw [hb, show (B.flts ((l.drop off).take n)).get j = (((l.drop off).take n)[j]?).map (fun b => .fl (some b)) from rfl, take_drop_get]
      split <;> rfl
  cases b with
  | ints k l => exact ints k l _ (fun _ => rfl) h
  | gints w k l => exact ints k l _ (fun _ => rfl) h
  | flts l => exact flts l _ (fun _ => rfl) h
  | gflts w l => exact flts l _ (fun _ => rfl) h
  | dead => exact cells _ h
  | cells cs => exact cells _ h
  | bools l => exact cells _ h
  | gcells w cs => exact cells _ h
  | mpI f => exact cells _ h

theorem intsL_spec {k : IntKind} : ∀ {cs : List V} {l : List Int}, intsL k cs = some l → cs = l.map (.int k)
  | [], l, h => by simp only [intsL, Option.some.injEq] at h; subst h; rfl
  | v :: cs, l, h => by
    unfold intsL at h
    split at h
    · rename_i e; exact nomatch e
    · rename_i k' n cs' e
      cases e
      split at h
      · rename_i r h1 h2
        simp only [Option.some.injEq] at h; subst h
        rw [intsL_spec h2, sameKind_eq h1]; rfl
      · exact nomatch h
    · exact nomatch h
theorem fltsL_spec : ∀ {cs : List V} {l : List Nat}, fltsL cs = some l → cs = l.map (fun b => .fl (some b))
  | [], l, h => by simp only [fltsL, Option.some.injEq] at h; subst h; rfl
  | v :: cs, l, h => by
    unfold fltsL at h
    split at h
    · rename_i e; exact nomatch e
    · rename_i n cs' e
      cases e
      split at h
      · rename_i r h2
        simp only [Option.some.injEq] at h; subst h
        rw [fltsL_spec h2]; rfl
      · exact nomatch h
    · exact nomatch h
theorem cells_ints {k : IntKind} {cs : List V} {l : List Int} (h : intsL k cs = some l) (j : Nat) : (B.cells cs).get j = (B.ints k l).get j := by
  rw [intsL_spec h]; simp [B.get]
theorem cells_flts {cs : List V} {l : List Nat} (h : fltsL cs = some l) (j : Nat) : (B.cells cs).get j = (B.flts l).get j := by
  rw [fltsL_spec h]; simp [B.get]
theorem cells_ints_size {k : IntKind} {cs : List V} {l : List Int} (h : intsL k cs = some l) : (B.cells cs).size = l.length := by
  rw [intsL_spec h]; simp [B.size]
theorem cells_flts_size {cs : List V} {l : List Nat} (h : fltsL cs = some l) : (B.cells cs).size = l.length := by
  rw [fltsL_spec h]; simp [B.size]

theorem growNew_spec {z : Zero} {c : B} {K : B → Prop} (h : growNew z c K) : ∃ b, K b ∧ b.row = true ∧ b.vof = 1 ∧ ∀ j, b.get j = c.get j := by
  unfold growNew at h
  split at h
  · split at h
    · rename_i hk
      have := sameKind_eq hk; subst this
      exact ⟨_, h, rfl, rfl, fun _ => rfl⟩
    · exact h.elim
  · split at h
    · rename_i hk
      exact ⟨_, h, rfl, rfl, fun j => (cells_ints hk j).symm⟩
    · exact h.elim
  · exact ⟨_, h, rfl, rfl, fun _ => rfl⟩
  · split at h
    · rename_i hk
      exact ⟨_, h, rfl, rfl, fun j => (cells_flts hk j).symm⟩
    · exact h.elim
  · exact ⟨_, h, rfl, rfl, fun _ => rfl⟩
  · exact ⟨_, h, rfl, rfl, fun _ => rfl⟩
  · exact h.elim
theorem app_get {α β : Type} {l r : List α} {f : α → β} {j : Nat} : ((l ++ r)[j]?).map f = if j < l.length then (l[j]?).map f else (r[j - l.length]?).map f := by
  rw [List.getElem?_append]
  split <;> rfl
theorem growB_spec {b c : B} {K : B → Prop} (h : growB b c K) : ∃ b', K b' ∧ b.row = true ∧ b'.row = true ∧ 0 < b.vof ∧ b'.vof = b.vof + 1 ∧ ∀ j, b'.get j = if j < b.cnt then b.get j else c.get (j - b.cnt) := by
  unfold growB at h
  split at h
  · split at h
    · rename_i hk
      have := sameKind_eq hk; subst this
      exact ⟨_, h, rfl, rfl, Nat.succ_pos _, rfl, fun j => by simp only [B.get, B.cnt]; exact app_get⟩
    · exact h.elim
  · split at h
    · rename_i hk
      exact ⟨_, h, rfl, rfl, Nat.succ_pos _, rfl, fun j => by rw [cells_ints hk]; simp only [B.get, B.cnt]; exact app_get⟩
    · exact h.elim
  · exact ⟨_, h, rfl, rfl, Nat.succ_pos _, rfl, fun j => by simp only [B.get, B.cnt]; exact app_get⟩
  · split at h
    · rename_i hk
      exact ⟨_, h, rfl, rfl, Nat.succ_pos _, rfl, fun j => by rw [cells_flts hk]; simp only [B.get, B.cnt]; exact app_get⟩
    · exact h.elim
  · exact ⟨_, h, rfl, rfl, Nat.succ_pos _, rfl, fun j => by simp only [B.get, B.cnt]; rw [List.getElem?_append]; rfl⟩
  · exact h.elim
theorem catB_spec {b c : B} {K : B → Prop} (h : catB b c K) : ∃ d, K d ∧ d.size = b.size + c.size ∧ ∀ j, d.get j = if j < b.size then b.get j else c.get (j - b.size) := by
  unfold catB at h
  split at h
  · split at h
    · rename_i hk
      have := sameKind_eq hk; subst this
      exact ⟨_, h, by simp [B.size], fun j => by simp only [B.get, B.size]; exact app_get⟩
    · exact h.elim
  · split at h
    · rename_i hk
      exact ⟨_, h, by rw [cells_ints_size hk]; simp [B.size], fun j => by rw [cells_ints hk]; simp only [B.get, B.size]; exact app_get⟩
    · exact h.elim
  · exact ⟨_, h, by simp [B.size], fun j => by simp only [B.get, B.size]; exact app_get⟩
  · split at h
    · rename_i hk
      exact ⟨_, h, by rw [cells_flts_size hk]; simp [B.size], fun j => by rw [cells_flts hk]; simp only [B.get, B.size]; exact app_get⟩
    · exact h.elim
  · exact ⟨_, h, by simp [B.size], fun j => by simp only [B.get, B.size]; rw [List.getElem?_append]; rfl⟩
  · exact ⟨_, h, by simp [B.size], fun j => by simp [B.get, B.size]⟩
  · exact ⟨_, h, by simp [B.size], fun j => by simp [B.get, B.size]⟩
  · exact h.elim
theorem paste_get {α β : Type} {l r : List α} {f : α → β} {off j : Nat} (h : off + r.length ≤ l.length) : ((l.take off ++ r ++ l.drop (off + r.length))[j]?).map f = if off ≤ j ∧ j < off + r.length then (r[j - off]?).map f else (l[j]?).map f := by
  have h1 : (l.take off).length = off := by rw [List.length_take]; omega
  rw [List.append_assoc, List.getElem?_append, h1]
  by_cases c1 : j < off
  · rw [if_pos c1, if_neg (by omega), List.getElem?_take, if_pos c1]
  · rw [if_neg c1, List.getElem?_append]
    by_cases c2 : j - off < r.length
    · rw [if_pos c2, if_pos (by omega)]
    · rw [if_neg c2, if_neg (by omega), List.getElem?_drop]
      congr 2; omega
theorem pasteB_spec {b c : B} {off : Nat} {K : B → Prop} (h : pasteB b off c K) : ∃ b', K b' ∧ b.row = true ∧ b'.row = true ∧ b'.vof = b.vof ∧ off + c.size ≤ b.size ∧ ∀ j, b'.get j = if off ≤ j ∧ j < off + c.size then c.get (j - off) else b.get j := by
  unfold pasteB at h
  split at h
  · obtain ⟨h1, h2⟩ := br_F h
    simp only [Bool.and_eq_true] at h1
    have := sameKind_eq h1.1; subst this
    have h1 := h1.2
    simp only [Nat.ble_eq] at h1
    exact ⟨_, h2, rfl, rfl, rfl, h1, fun j => by simp only [B.get, B.size]; exact paste_get h1⟩
  · split at h
    · rename_i hk
      obtain ⟨h1, h2⟩ := br_F h
      simp only [Nat.ble_eq] at h1
      refine ⟨_, h2, rfl, rfl, rfl, by rw [cells_ints_size hk]; exact h1, fun j => ?_⟩
      rw [cells_ints hk, cells_ints_size hk]; simp only [B.get]; exact paste_get h1
    · exact h.elim
  · obtain ⟨h1, h2⟩ := br_F h
    simp only [Nat.ble_eq] at h1
    exact ⟨_, h2, rfl, rfl, rfl, h1, fun j => by simp only [B.get, B.size]; exact paste_get h1⟩
  · split at h
    · rename_i hk
      obtain ⟨h1, h2⟩ := br_F h
      simp only [Nat.ble_eq] at h1
      refine ⟨_, h2, rfl, rfl, rfl, by rw [cells_flts_size hk]; exact h1, fun j => ?_⟩
      rw [cells_flts hk, cells_flts_size hk]; simp only [B.get]; exact paste_get h1
    · exact h.elim
  · obtain ⟨h1, h2⟩ := br_F h
    simp only [Nat.ble_eq] at h1
    exact ⟨_, h2, rfl, rfl, rfl, h1, fun j => by
      simp only [B.get, B.size]
      have := paste_get (f := id) (j := j) h1
      simp only [Option.map_id_fun, id_eq] at this
      exact this⟩
  · exact h.elim

/-! ### What is read -/
/-- The cells of a block, as the heap holds them. -/
theorem cells_of (S : Sim ng g t m a w) {i off n : Nat} {c : B} (hc : ∀ j, c.get j = if j < n then (getB m i).b.get (off + j) else none) (hn : c.size = n) :
    ∃ xs : List Value, xs.length = n ∧ (∀ (j : Nat) x, xs[j]? = some x → w.cell? ⟨(g i).1, (g i).2 + off + j, none⟩ = some x) ∧ ∀ (j : Nat) v, c.get j = some v → ∃ x, xs[j]? = some x ∧ Rv m.length g v x := by
  obtain ⟨xs, h1, h2⟩ := list_of (p := fun j x => w.cell? ⟨(g i).1, (g i).2 + off + j, none⟩ = some x ∧ ∀ v, c.get j = some v → Rv m.length g v x) n 0 (fun j hj => by
    obtain ⟨v, hv⟩ := B.get_size (b := c) (j := j) (by omega)
    have h0 := hv
    rw [hc, if_pos hj] at h0
    have hb := getB_some (.inl (live_of_get h0))
    obtain ⟨y, hy, hr⟩ := (S.rep.blk i _ hb).cell _ _ h0
    refine ⟨y, ?_, fun u hu => ?_⟩
    · rw [← hy]; congr 2; omega
    · rw [Nat.zero_add, hv] at hu; cases hu; exact hr)
  refine ⟨xs, h1, fun j x hx => by have := (h2 j x hx).1; rwa [Nat.zero_add] at this, fun j v hv => ?_⟩
  have hj : j < n := by
    rcases Nat.lt_or_ge j n with h | h
    · exact h
    · rw [hc, if_neg (by omega)] at hv; exact nomatch hv
  refine ⟨xs[j], List.getElem?_eq_getElem (by omega), (h2 j _ (List.getElem?_eq_getElem (by omega))).2 v (by rw [Nat.zero_add]; exact hv)⟩
/-- What a source gives. -/
structure Src (P : Program) (m : List Blk) (g : Nat → Pl) (es : Nat) (xv : Value) (n : Nat) (c : B) (xs : List Value) : Prop where
  one : oneB c
  size : c.size = n * es
  len : xs.length = n * es
  rel : ∀ (j : Nat) v, c.get j = some v → ∃ x, xs[j]? = some x ∧ Rv m.length g v x
theorem Src.cell {es n : Nat} {xv : Value} {c : B} {xs : List Value} (h : Src P m g es xv n c xs) (j : Nat) (x : Value) (hx : xs[j]? = some x) : x.oneCell' = true := by
  have hj := (List.getElem?_eq_some_iff.1 hx).1
  obtain ⟨v, hv⟩ := B.get_size (b := c) (j := j) (by rw [h.size, ← h.len]; exact hj)
  obtain ⟨y, hy, hr⟩ := h.rel j v hv
  rw [hx] at hy; cases hy
  exact one_of (h.one.2 j v hv) hr
theorem cur_of (S : Sim ng g t m a w) {i v : Nat} (e : (getB m i).b.vof = v + 1) : v + 1 = (g i).4 := by
  have hb := getB_some (m := m) (i := i) (.inl (by
    cases hb : (getB m i).b <;> rw [hb] at e <;> first | rfl | (simp [B.vof] at e)))
  rw [← e]; exact (S.rep.blk i _ hb).ver
theorem srcV_spec (S : Sim ng g t m a w) {es : Nat} {x : V} {xv : Value} {K : Nat → B → Prop} (hx : Rv m.length g x xv) (h : srcV es x m K) :
    ∃ n c xs, K n c ∧ Src P m g es xv n c xs ∧ ∃ ba cap, xv = .slice ba n cap ∧ ∀ w' : World, w'.heap = w.heap → (Builtin.firstCells es n xv).run P w' = .ok xs.toArray w' := by
  have fin : ∀ (i off n : Nat) (ba : Option Addr) (cap : Nat), xv = .slice ba n cap → (0 < n → ba = some ⟨(g i).1, (g i).2 + off, none⟩) → segB (getB m i).b off (n * es) (fun b => K n b) →
      ∃ n c xs, K n c ∧ Src P m g es xv n c xs ∧ ∃ ba cap, xv = .slice ba n cap ∧ ∀ w' : World, w'.heap = w.heap → (Builtin.firstCells es n xv).run P w' = .ok xs.toArray w' := by
    intro i off n ba cap hxv hba h
    obtain ⟨c, h1, h2, h3, h4⟩ := segB_spec h
    obtain ⟨xs, k1, k2, k3⟩ := cells_of S h4 h3
    refine ⟨n, c, xs, h1, ⟨h2, h3, k1, k3⟩, ba, cap, hxv, fun w' hw => ?_⟩
    subst hxv
    by_cases h0 : n = 0
    · subst h0
      have hx0 : xs = [] := List.length_eq_zero_iff.1 (by omega)
      subst hx0
      cases ba with
      | none => exact run_firstCells_none w' es 0 0 cap
      | some A => exact run_firstCells_some w' es 0 A 0 cap [] (by simp) (by simp)
    · rw [hba (by omega)]
      refine run_firstCells_some w' es n _ n cap xs k1 (fun j y hy => ?_)
      rw [Addr_add]
      have := k2 j y hy
      unfold World.cell? at *
      rw [hw]; exact this
  unfold srcV at h
  split at h
  · rename_i i off n
    simp only [Rv] at hx
    obtain ⟨_, _, ba, cap, h1, _, h2⟩ := hx
    exact fin i off n ba cap h1 h2 h
  · rename_i i off n cap
    simp only [Rv] at hx
    obtain ⟨_, _, ba, h1, h3, h2⟩ := hx
    exact fin i off n ba cap h1 (fun h0 => h2 (by omega)) h
  · rename_i i v es' n
    simp only [Rv] at hx
    obtain ⟨_, _, ba, cap, h1, _, h2⟩ := hx
    have hc := cur_of S h.1
    exact fin i 0 n (some ba) cap h1 (fun _ => by rw [(h2 hc).1]; rfl) h.2
  · rename_i ba cap
    simp only [Rv] at hx
    subst hx
    refine ⟨0, .cells [], [], h, ⟨⟨rfl, fun j v hv => by simp [B.get] at hv⟩, by simp [B.size], by simp, fun j v hv => by simp [B.get] at hv⟩, ba, cap, rfl, fun w' _ => ?_⟩
    cases ba with
    | none => exact run_firstCells_none w' es 0 0 cap
    | some A => exact run_firstCells_some w' es 0 A 0 cap [] (by simp) (by simp)
  · exact h.elim
end
end Go.Eng
/- The engine, part 22: append and copy do what the evaluator says. No condition. -/
namespace Go.Eng
open Go
set_option linter.unusedSimpArgs false
set_option linter.unusedVariables false
section
variable {P : Program} {ng : Nat} {g : Nat → Pl} {t : List V} {m : List Blk} {a : Act} {w : World} {K : V → List Blk → Prop}

theorem Sim.drew (S : Sim ng g t m a w) : Sim ng g t m a w.drew := ⟨S.defers, S.tmps, S.rep.heap rfl, S.glob⟩
/-- A row that grows moves to a new block. -/
theorem moved_rep (S : Sim ng g t m a w) {i : Nat} {c : Blk} {b' : B} {p : Pl} {o : Obj} (hb : m[i]? = some c) (hl : c.b.row = true) (hr : b'.row = true) (hw : c.w = true)
    (hp : p.1 = w.heap.size) (hver : 0 < c.b.vof ∧ c.b.vof < b'.vof) (R0 : RepB m.length g { w with heap := w.heap.push o } p ⟨true, b'⟩) :
    Rep (fun j => if j = i then p else g j) (m.set i ⟨true, b'⟩) { w with heap := w.heap.push o } ∧ Step g m w (fun j => if j = i then p else g j) (m.set i ⟨true, b'⟩) { w with heap := w.heap.push o } := by
  have hi : i < m.length := (List.getElem?_eq_some_iff.1 hb).1
  have R := S.rep.blk i _ hb
  have hpv : p.4 = b'.vof := R0.ver.symm
  have hag : ∀ j, j < m.length → Ag (g j) ((fun j => if j = i then p else g j) j) := by
    intro j hj
    by_cases e : j = i
    · subst e
      simp only [if_true]
      refine .inr ?_
      rw [← R.ver, hpv]; exact hver
    · simp only [if_neg e]; exact .inl rfl
  have hget : ∀ j d, (m.set i ⟨true, b'⟩)[j]? = some d → (j = i ∧ d = ⟨true, b'⟩) ∨ (j ≠ i ∧ m[j]? = some d) := by
    intro j d hd
    rw [List.getElem?_set] at hd
    by_cases e : i = j
    · subst e
      simp only [hi, if_true, Option.some.injEq] at hd
      exact .inl ⟨rfl, hd.symm⟩
    · rw [if_neg e] at hd; exact .inr ⟨Ne.symm e, hd⟩
  have hheap : ∀ q, q < w.heap.size → (w.heap.push o)[q]? = w.heap[q]? := fun q hq => by rw [Array.getElem?_push, if_neg (by omega)]
  refine ⟨⟨fun j d hd => ?_, fun i' j' x y hne hx hy hxw hxl hyl => ?_⟩, ⟨by simp, fun j hj => ?_, rfl, rfl, rfl, by simp, fun q hq _ => hheap q hq, fun q hq hf => ?_⟩⟩
  · rw [List.length_set]
    rcases hget j d hd with ⟨rfl, rfl⟩ | ⟨hne, hd⟩
    · simp only [if_true]
      exact R0.congr rfl (Nat.le_refl _) hag
    · simp only [if_neg hne]
      have R' := S.rep.blk j d hd
      exact R'.congr (hheap _ R'.size) (Nat.le_refl _) hag
  · rcases hget i' x hx with ⟨e1, e2⟩ | ⟨h1, hx1⟩
    · rcases hget j' y hy with ⟨e3, e4⟩ | ⟨h2, hy1⟩
      · exact absurd (e1.trans e3.symm) hne
      · simp only [if_pos e1, if_neg h2]
        have := (S.rep.blk j' y hy1).size
        omega
    · rcases hget j' y hy with ⟨e3, e4⟩ | ⟨h2, hy1⟩
      · simp only [if_neg h1, if_pos e3]
        have := (S.rep.blk i' x hx1).size
        omega
      · simp only [if_neg h1, if_neg h2]
        exact S.rep.apart i' j' _ _ hne hx1 hy1 hxw hxl hyl
  · by_cases e : j = i
    · subst e
      rw [getB_eq, getB_eq]
      simp only [List.getD_eq_getElem?_getD, hb, Option.getD_some, List.getElem?_set, hi, if_true]
      refine ⟨by omega, .inr ⟨hver.2, by rw [← R.ver]; exact hver.1, by rw [← R.ver, hpv]; exact hver.2⟩⟩
    · rw [getB_eq, getB_eq]
      simp only [List.getD_eq_getElem?_getD, List.getElem?_set, if_neg (Ne.symm e), if_neg e]
      exact ⟨Nat.le_refl _, .inl trivial⟩
  · obtain ⟨j, c', hc', hcw, he⟩ := hf
    rcases hget j c' hc' with ⟨rfl, rfl⟩ | ⟨h2, hc1⟩
    · simp only [if_true] at he; omega
    · simp only [if_neg h2] at he
      exact ⟨j, c', hc1, hcw, he⟩

theorem info_zero {e : TypeId} {z : List V} (h : zeroL P e = some z) : ∃ i x, P.info? e = some i ∧ i.zero = some x ∧ z = ofVals x.cells.toList ∧ i.size = P.cellsOf e ∧ i.bytes = P.bytesOf e := by
  unfold zeroL at h
  cases hi : P.info? e with
  | none => simp [hi] at h
  | some i =>
    simp only [hi] at h
    cases hz : i.zero with
    | none => simp [hz] at h
    | some x =>
      simp only [hz, Option.some.injEq] at h
      exact ⟨i, x, rfl, hz, h.symm, by simp [Program.cellsOf, hi], by simp [Program.bytesOf, hi]⟩
theorem ofVals_length : ∀ l : List Value, (ofVals l).length = l.length
  | [] => rfl
  | _ :: l => by simp [ofVals, ofVals_length l]
theorem grown_le (w : World) (need old : Nat) (e : TypeId) : need ≤ grownCap w need old e := by
  unfold grownCap Question.cut; exact Nat.le_add_right _ _
/-- append, where there is no room. -/
theorem run_append_new {ty tx e e' rt : TypeId} {i : TypeInfo} {z : Value} (hu : P.underlying ty = some (.slice e)) (hux : P.underlying tx = some (.slice e')) (hi : P.info? e = some i) (hz : i.zero = some z)
    {base xb : Option Addr} {len cap n xc : Nat} {olds news : List Value} (hg : cap < len + n) (hfit : (len + n) * i.bytes ≤ 140737488355328) (h63 : len + n ≤ 9223372036854775807)
    (ho : ∀ w' : World, w'.heap = w.heap → (Builtin.firstCells i.size len (.slice base len cap)).run P w' = .ok olds.toArray w')
    (hn : ∀ w' : World, w'.heap = w.heap → (Builtin.firstCells i.size n (.slice xb n xc)).run P w' = .ok news.toArray w') :
    (Builtin.append_ #[ty, tx] rt #[.slice base len cap, .slice xb n xc]).run P w =
      .ok (.slice (some ⟨w.heap.size, 0, none⟩) (len + n) (grownCap w (len + n) cap e)) (w.drew.alloc (.cells (olds.toArray ++ news.toArray ++ Builtin.zeroCells z.cells (grownCap w (len + n) cap e - (len + n))) e)) := by
  have hn' : ¬ (len + n ≤ cap) := by omega
  have h63' : ¬ (9223372036854775807 < ((len : Int) + (n : Int))) := by omega
  have h48' : ¬ (281474976710656 < Builtin.nextslicecap (len + n) cap * i.bytes) := by
    have := growslice_fits hg hfit; omega
  have hf := hn w.drew rfl
  have hfo := ho w.drew rfl
  simp [Builtin.append_, run_underlying hu, run_underlying hux, sizeOf, typeInfo, zeroValue, hi, hz, Builtin.lenOf, hn', h63', h48', Question.forced, hf, hfo, newRow, grownCap]
  congr 2
  apply Array.ext'
  simp [List.append_assoc]
/-- append, where there is room. -/
theorem run_append_in {ty tx e e' rt : TypeId} {i : TypeInfo} (hu : P.underlying ty = some (.slice e)) (hux : P.underlying tx = some (.slice e')) (hi : P.info? e = some i)
    {A : Addr} {xb : Option Addr} {len cap n xc : Nat} {news : List Value} {w' : World} (hg : len + n ≤ cap)
    (hn : (Builtin.firstCells i.size n (.slice xb n xc)).run P w = .ok news.toArray w) (hs : (storeCells (A.add (len * i.size)) news).run P w = .ok () w') :
    (Builtin.append_ #[ty, tx] rt #[.slice (some A) len cap, .slice xb n xc]).run P w = .ok (.slice (some A) (len + n) cap) w' := by
  simp [Builtin.append_, run_underlying hu, run_underlying hux, sizeOf, typeInfo, hi, Builtin.lenOf, hg, hn, hs]
theorem run_append_in0 {ty tx e e' rt : TypeId} {i : TypeInfo} (hu : P.underlying ty = some (.slice e)) (hux : P.underlying tx = some (.slice e')) (hi : P.info? e = some i)
    {base xb : Option Addr} {len cap n xc : Nat} (hg : len + n ≤ cap) (hn : (Builtin.firstCells i.size n (.slice xb n xc)).run P w = .ok #[] w) :
    (Builtin.append_ #[ty, tx] rt #[.slice base len cap, .slice xb n xc]).run P w = .ok (.slice base (len + n) cap) w := by
  cases base with
  | none => simp [Builtin.append_, run_underlying hu, run_underlying hux, sizeOf, typeInfo, hi, Builtin.lenOf, hg, hn]
  | some A => simp [Builtin.append_, run_underlying hu, run_underlying hux, sizeOf, typeInfo, hi, Builtin.lenOf, hg, hn, storeCells]

/-- A new row that grows, at the end of the heap. -/
theorem grow_new_rep (S : Sim ng g t m a w) {b' : B} {e : TypeId} {es need newCap : Nat} {c : B} {xs rest : List Value} {v : Nat} (hrow : b'.row = true) (hvof : b'.vof = v + 1) (hget : ∀ j, b'.get j = c.get j)
    (hrel : ∀ (j : Nat) u, c.get j = some u → ∃ x, xs[j]? = some x ∧ Rv m.length g u x) (hlen : xs.length + rest.length = newCap * es) :
    RepB m.length g { w with heap := w.heap.push (.cells (xs ++ rest).toArray e) } ⟨w.heap.size, 0, newCap * es, v + 1⟩ ⟨true, b'⟩ := by
  have hnew : (w.heap.push (Obj.cells (xs ++ rest).toArray e))[w.heap.size]? = some (.cells (xs ++ rest).toArray e) := by simp
  have hcell : ∀ j, World.cell? { w with heap := w.heap.push (.cells (xs ++ rest).toArray e) } ⟨w.heap.size, 0 + j, none⟩ = (xs ++ rest)[j]? := by
    intro j
    unfold World.cell?
    simp only [hnew, Nat.zero_add]
    simp
  refine ⟨by simp, fun j u hu => ?_, fun _ _ j => ?_, fun _ j hj => ?_, fun f hf => ?_, hvof⟩
  · have hu : b'.get j = some u := hu
    rw [hget] at hu
    obtain ⟨x, hx, hr⟩ := hrel j u hu
    refine ⟨x, ?_, hr⟩
    rw [hcell, List.getElem?_append_left (List.getElem?_eq_some_iff.1 hx).1]
    exact hx
  · unfold World.frozen?
    simp only [hnew]
    simp
  · have hj : j < newCap * es := hj
    refine ⟨_, (hcell j).trans (List.getElem?_eq_getElem (by rw [List.length_append]; omega))⟩
  · have hf : b' = .mpI f := hf
    rw [hf] at hrow; exact nomatch hrow
theorem rng_get {n : Nat} {f : Nat → V} {j : Nat} : (B.cells ((List.range n).map f)).get j = if j < n then some (f j) else none := by
  simp only [B.get, List.getElem?_map]
  by_cases hj : j < n
  · simp [hj]
  · simp [hj]
theorem bound_of {n b : Nat} (h : n * b ≤ 140737488355328) (hb : 0 < b) : n ≤ 9223372036854775807 := by
  have := Nat.le_mul_of_pos_right n hb
  omega
theorem appendV_sound (S : Sim ng g t m a w) {ty tx rt e' : TypeId} {s x : V} {sv xv : Value} (hs : Rv m.length g s sv) (hx : Rv m.length g x xv) (htx : sliceD (P.underlying tx) = some e') (h : appendV P ty s x m K) :
    ∃ r w', (Builtin.append_ #[ty, tx] rt #[sv, xv]).run P w = .ok r w' ∧ After K g m w r w' := by
  have hux : P.underlying tx = some (.slice e') := by
    unfold sliceD at htx
    split at htx
    · cases htx; assumption
    · exact nomatch htx
  unfold appendV at h
  split at h
  · rename_i e he
    have hu : P.underlying ty = some (.slice e) := by
      unfold sliceD at he
      split at he
      · cases he; assumption
      · exact nomatch he
    split at h
    · rename_i z hz
      obtain ⟨h1, h2⟩ := br_F h
      simp only [Bool.and_eq_true, lenL_eq] at h1
      obtain ⟨⟨h3, h4⟩, h5⟩ := h1
      have h5 : 0 < P.bytesOf e := by simpa using h5
      have h3 : z.length = P.cellsOf e := by simpa using h3
      have h4 : 0 < P.cellsOf e := by simpa using h4
      obtain ⟨i, zx, hi, hiz, hzx, hsz, hby⟩ := info_zero hz
      have hzl : zx.cells.toList.length = P.cellsOf e := by rw [← h3, hzx, ofVals_length]
      obtain ⟨n, c, xs, k1, src, xb, xc, hxv, hread⟩ := srcV_spec S hx h2
      rw [← hsz] at src hread
      have hz0 : ∀ q : Nat, (Builtin.zeroCells zx.cells q).toList.length = q * i.size := by
        intro q; simp only [Builtin.zeroCells, Array.toList_map, List.length_map, Array.toList_range, List.length_range]
        rw [hsz, ← hzl, Array.length_toList]
      subst hxv
      have new : ∀ (base : Option Addr) (len cap : Nat) (c' : B) (olds : List Value) (v : V), sv = .slice base len cap → cap < len + n → (len + n) * P.bytesOf e ≤ 140737488355328 → len + n ≤ 9223372036854775807 →
          (∀ w' : World, w'.heap = w.heap → (Builtin.firstCells i.size len (.slice base len cap)).run P w' = .ok olds.toArray w') → olds.length = len * i.size →
          (∀ (j : Nat) u, c'.get j = some u → ∃ x, (olds ++ xs)[j]? = some x ∧ Rv m.length g u x) →
          (growNew (zkind z) c' fun b => addB m ⟨true, b⟩ fun i m => K (.gs i 0 (P.cellsOf e) (len + n)) m) →
          ∃ r w', (Builtin.append_ #[ty, tx] rt #[sv, .slice xb n xc]).run P w = .ok r w' ∧ After K g m w r w' := by
        intro base len cap c' olds v hsv hg hfit h63 ho hol hrel hk
        subst hsv
        obtain ⟨b', q1, q2, q3, q4⟩ := growNew_spec hk
        rw [addB_eq] at q1
        have hrun := run_append_new (rt := rt) hu hux hi hiz hg (by rw [hby]; exact hfit) h63 ho hread
        have hle := grown_le w (len + n) cap e
        have R := grow_new_rep S.drew (e := e) (es := i.size) (newCap := grownCap w (len + n) cap e) (need := len + n) (rest := (Builtin.zeroCells zx.cells (grownCap w (len + n) cap e - (len + n))).toList) q2 (v := 0) q3 q4 hrel (by
          rw [List.length_append, hol, src.len, hz0, ← Nat.add_mul, ← Nat.add_mul]
          congr 1; omega)
        obtain ⟨r1, r2⟩ := madeP S.drew b' _ _ rfl R
        refine ⟨_, _, hrun, .gs m.length 0 (P.cellsOf e) (len + n), m ++ [⟨true, b'⟩], newAtP g m.length ⟨w.heap.size, 0, grownCap w (len + n) cap e * i.size, 0 + 1⟩, q1, ?_, ?_, ?_⟩
        · simp only [Rv]
          refine ⟨by simp, by simp [newAtP], _, _, rfl, hle, fun _ => ?_⟩
          simp only [newAtP, if_true, hsz]
          exact ⟨trivial, Nat.le_refl _⟩
        · have e1 : (olds.toArray ++ xs.toArray ++ Builtin.zeroCells zx.cells (grownCap w (len + n) cap e - (len + n))) = ((olds ++ xs) ++ (Builtin.zeroCells zx.cells (grownCap w (len + n) cap e - (len + n))).toList).toArray := by
            apply Array.ext'; simp
          rw [e1]; exact r1
        · have e1 : (olds.toArray ++ xs.toArray ++ Builtin.zeroCells zx.cells (grownCap w (len + n) cap e - (len + n))) = ((olds ++ xs) ++ (Builtin.zeroCells zx.cells (grownCap w (len + n) cap e - (len + n))).toList).toArray := by
            apply Array.ext'; simp
          rw [e1]; exact (Step.drawn g m w _).trans r2
      split at k1
      · -- nil
        obtain ⟨⟨k2, k3⟩, k4⟩ := k1
        simp only [Rv] at hs
        have hb : n ≤ 9223372036854775807 := bound_of k3 h5
        exact new none 0 0 c [] (.gs m.length 0 (P.cellsOf e) n) hs (by omega) (by simpa using k3) (by simpa using hb) (fun w' _ => run_firstCells_none w' _ 0 0 0) (by simp) (by simpa using src.rel) (by simpa using k4)
      · -- a row that grows
        rename_i i0 v es len
        obtain ⟨⟨g1, g2, g3, g4⟩, k2⟩ := k1
        subst g2
        have hb63 := bound_of g4 h5
        have hcur := cur_of S g1
        simp only [Rv] at hs
        obtain ⟨hi0, hv, A, cap, hsv, hlc, hA⟩ := hs
        obtain ⟨hA1, hA2⟩ := hA hcur
        subst hA1
        split at k2
        · rename_i hw
          obtain ⟨b', q1, q2, q3, q4, q5, q6⟩ := growB_spec k2
          rw [setB_eq] at q1
          have hb := getB_some (.inr hw)
          have R := S.rep.blk i0 _ hb
          subst hsv
          by_cases hg : len + n ≤ cap
          · -- there is room
            have hmul : (len + n) * P.cellsOf e ≤ cap * P.cellsOf e := Nat.mul_le_mul_right _ hg
            rw [Nat.add_mul] at hmul
            obtain ⟨w', r1, r2, r3⟩ := run_storeCells (P := P) (g i0).1 ((g i0).2 + len * P.cellsOf e) xs 0 w (fun j z hz => by
              have hj := (List.getElem?_eq_some_iff.1 hz).1
              rw [src.len, hsz] at hj
              obtain ⟨y, hy⟩ := R.room (live_of_row q2) (len * P.cellsOf e + j) (by omega)
              refine ⟨src.cell j z hz, y, ?_⟩
              rw [← hy]; congr 2; omega) (fun j => R.free hw (live_of_row q2) j)
            have hrun := run_append_in (rt := rt) hu hux hi hg (A := ⟨(g i0).1, (g i0).2, none⟩) (hread w rfl) (by rw [Addr_add, hsz]; exact r1)
            have W := wrote_rep (b' := b') (ver := v + 2) S hb hw q2 q3 r2 (fun j u hu' => by
              rw [q6, g3] at hu'
              rw [r3 ((g i0).2 + j)]
              by_cases c1 : j < len * P.cellsOf e
              · rw [if_pos c1] at hu'
                rw [if_neg (by omega)]
                exact R.cell _ _ hu'
              · rw [if_neg c1] at hu'
                obtain ⟨x, e1, e2⟩ := src.rel _ _ hu'
                have := (List.getElem?_eq_some_iff.1 e1).1
                rw [if_pos (by omega)]
                exact ⟨x, by rw [← e1]; congr 1; omega, e2⟩) (fun j ⟨z, hz⟩ => by
              rw [r3 j]
              by_cases c1 : (g i0).2 + len * P.cellsOf e + 0 ≤ j ∧ j < (g i0).2 + len * P.cellsOf e + 0 + xs.length
              · rw [if_pos c1]
                exact ⟨_, List.getElem?_eq_getElem (by omega)⟩
              · rw [if_neg c1]; exact ⟨z, hz⟩) (by rw [q5, g1]) (.inr ⟨by omega, by omega⟩)
            refine ⟨_, w', hrun, .gs i0 (v + 1) (P.cellsOf e) (len + n), _, _, q1, ?_, W.1, W.2⟩
            simp only [Rv, List.length_set, if_true]
            exact ⟨hi0, by omega, _, _, rfl, hg, fun _ => ⟨rfl, hA2⟩⟩
          · -- a new block
            have hcnt : (getB m i0).b.size = len * P.cellsOf e := by
              rw [← g3]
              cases hb : (getB m i0).b <;> rw [hb] at g1 <;> first | rfl | (simp [B.vof] at g1)
            obtain ⟨olds, o1, o2, o3⟩ := cells_of S (i := i0) (off := 0) (n := len * P.cellsOf e) (c := .cells ((List.range (len * P.cellsOf e)).map fun j => ((getB m i0).b.get j).getD .un)) (fun j => by
              rw [rng_get, Nat.zero_add]
              split
              · rename_i hj
                obtain ⟨u, hu⟩ := B.get_size (b := (getB m i0).b) (j := j) (by omega)
                rw [hu]; rfl
              · rfl) (by simp [B.size])
            have hrun := run_append_new (rt := rt) (w := w) (olds := olds) (cap := cap) (base := some ⟨(g i0).1, (g i0).2, none⟩) hu hux hi hiz (by omega) (by rw [hby]; exact g4) hb63 (fun w' hw' => by
              refine run_firstCells_some w' i.size len _ len cap olds (by rw [o1, hsz]) (fun j y hy => ?_)
              rw [Addr_add]
              have := o2 j y hy
              rw [Nat.add_zero] at this
              unfold World.cell? at *
              rw [hw']; exact this) hread
            have hle := grown_le w (len + n) cap e
            have R1 := grow_new_rep S.drew (e := e) (es := i.size) (c := b') (b' := b') (xs := olds ++ xs) (newCap := grownCap w (len + n) cap e) (need := len + n) (rest := (Builtin.zeroCells zx.cells (grownCap w (len + n) cap e - (len + n))).toList) q3 (v := v + 1) (by rw [q5, g1]) (fun _ => rfl) (fun j u hu' => by
              rw [q6, g3] at hu'
              by_cases c1 : j < len * P.cellsOf e
              · rw [if_pos c1] at hu'
                obtain ⟨x, e1, e2⟩ := o3 j u (by rw [rng_get, if_pos c1, hu']; rfl)
                exact ⟨x, by rw [List.getElem?_append_left (by omega)]; exact e1, e2⟩
              · rw [if_neg c1] at hu'
                obtain ⟨x, e1, e2⟩ := src.rel _ _ hu'
                exact ⟨x, by rw [List.getElem?_append_right (by omega), o1]; exact e1, e2⟩) (by
              rw [List.length_append, o1, src.len, hz0, hsz, ← Nat.add_mul, ← Nat.add_mul]
              congr 1; omega)
            obtain ⟨r1, r2⟩ := moved_rep S.drew hb q2 q3 hw rfl (by rw [q5, g1]; exact ⟨by omega, by omega⟩) R1
            have e1 : (olds.toArray ++ xs.toArray ++ Builtin.zeroCells zx.cells (grownCap w (len + n) cap e - (len + n))) = ((olds ++ xs) ++ (Builtin.zeroCells zx.cells (grownCap w (len + n) cap e - (len + n))).toList).toArray := by
              apply Array.ext'; simp
            refine ⟨_, _, hrun, .gs i0 (v + 1) (P.cellsOf e) (len + n), m.set i0 ⟨true, b'⟩, fun j => if j = i0 then (⟨w.heap.size, 0, grownCap w (len + n) cap e * i.size, v + 1 + 1⟩ : Pl) else g j, q1, ?_, ?_, ?_⟩
            · simp only [Rv, List.length_set, if_true]
              exact ⟨hi0, by omega, _, _, rfl, hle, fun _ => ⟨rfl, by rw [hsz]; exact Nat.le_refl _⟩⟩
            · rw [e1]; exact r1
            · rw [e1]; exact (Step.drawn g m w _).trans r2
        · exact k2.elim
      · -- a slice of known room
        rename_i i0 off len cap
        obtain ⟨g4, k2⟩ := k1
        have hb63 := bound_of g4 h5
        simp only [Rv] at hs
        obtain ⟨hi0, hv, A, hsv, hlc, hA⟩ := hs
        rw [br_iff] at k2
        rcases k2 with ⟨hg, k2⟩ | ⟨hg, k2⟩
        · have hg : len + n ≤ cap := by simpa using hg
          split at k2
          · rename_i hw
            obtain ⟨b', q1, q2, q3, q4, q5, q6⟩ := pasteB_spec k2
            rw [setB_eq] at q1
            have hb := getB_some (.inr hw)
            have R := S.rep.blk i0 _ hb
            subst hsv
            by_cases h0 : cap = 0
            · have hn0 : n = 0 := by omega
              subst hn0
              have hx0 : xs = [] := List.length_eq_zero_iff.1 (by rw [src.len]; omega)
              have hc0 : c.size = 0 := by rw [src.size]; omega
              subst hx0
              have hrun := run_append_in0 (rt := rt) (base := A) hu hux hi hg (hread w rfl)
              have hsame : ∀ j, b'.get j = (getB m i0).b.get j := fun j => by rw [q6, hc0, if_neg (by omega)]
              have W := wrote_rep (b' := b') (ver := b'.vof) S hb hw q2 q3 (Wrote.refl _ w) (fun j u hu' => by rw [hsame] at hu'; exact R.cell _ _ hu') (fun j h => h) rfl (.inl q4)
              rw [place_same R q4] at W
              refine ⟨_, w, hrun, .sk i0 off (len + 0) cap, _, _, q1, ?_, W.1, W.2⟩
              simp only [Rv, List.length_set]
              exact ⟨hi0, hv, A, rfl, hg, fun h => absurd h (by omega)⟩
            · have hA1 := hA (by omega)
              subst hA1
              have hmul : (len + n) * P.cellsOf e ≤ cap * P.cellsOf e := Nat.mul_le_mul_right _ hg
              rw [Nat.add_mul] at hmul
              obtain ⟨w', r1, r2, r3⟩ := run_storeCells (P := P) (g i0).1 ((g i0).2 + (off + len * P.cellsOf e)) xs 0 w (fun j z hz => by
                have hj := (List.getElem?_eq_some_iff.1 hz).1
                rw [src.len, ← src.size] at hj
                obtain ⟨u, hu'⟩ := B.get_size (b := (getB m i0).b) (j := off + len * P.cellsOf e + j) (by omega)
                obtain ⟨y, hy, _⟩ := R.cell _ _ hu'
                refine ⟨src.cell j z hz, y, ?_⟩
                rw [← hy]; congr 2; omega) (fun j => R.free hw (live_of_row q2) j)
              have hrun := run_append_in (rt := rt) hu hux hi hg (A := ⟨(g i0).1, (g i0).2 + off, none⟩) (hread w rfl) (by rw [Addr_add, hsz, Nat.add_assoc]; exact r1)
              have W := wrote_rep (b' := b') (ver := b'.vof) S hb hw q2 q3 r2 (fun j u hu' => by
                rw [q6] at hu'
                rw [r3 ((g i0).2 + j)]
                have hcs : c.size = xs.length := by rw [src.size, src.len]
                by_cases c1 : off + len * P.cellsOf e ≤ j ∧ j < off + len * P.cellsOf e + c.size
                · rw [if_pos c1] at hu'
                  obtain ⟨x, e1, e2⟩ := src.rel _ _ hu'
                  rw [if_pos (by omega)]
                  exact ⟨x, by rw [← e1]; congr 1; omega, e2⟩
                · rw [if_neg c1] at hu'
                  rw [if_neg (by omega)]
                  exact R.cell _ _ hu') (fun j ⟨z, hz⟩ => by
                rw [r3 j]
                by_cases c1 : (g i0).2 + (off + len * P.cellsOf e) + 0 ≤ j ∧ j < (g i0).2 + (off + len * P.cellsOf e) + 0 + xs.length
                · rw [if_pos c1]
                  exact ⟨_, List.getElem?_eq_getElem (by omega)⟩
                · rw [if_neg c1]; exact ⟨z, hz⟩) rfl (.inl q4)
              rw [place_same R q4] at W
              refine ⟨_, w', hrun, .sk i0 off (len + n) cap, _, _, q1, ?_, W.1, W.2⟩
              simp only [Rv, List.length_set]
              exact ⟨hi0, hv, _, rfl, hg, fun _ => rfl⟩
          · exact k2.elim
        · have hg : ¬ (len + n ≤ cap) := fun h => by
            rw [show Nat.ble (len + n) cap = true by simpa using h] at hg; exact nomatch hg
          obtain ⟨d, d1, d2, d3, d4⟩ := segB_spec k2
          obtain ⟨c', p1, p2, p3⟩ := catB_spec d1
          obtain ⟨olds, o1, o2, o3⟩ := cells_of S d4 d3
          refine new A len cap c' olds (.gs m.length 0 (P.cellsOf e) (len + n)) hsv (by omega) g4 hb63 (fun w' hw' => ?_) (by rw [o1, hsz]) (fun j u hu' => ?_) p1
          · by_cases h0 : len = 0
            · subst h0
              have hx0 : olds = [] := List.length_eq_zero_iff.1 (by omega)
              subst hx0
              cases A with
              | none => exact run_firstCells_none w' i.size 0 0 cap
              | some A => exact run_firstCells_some w' i.size 0 A 0 cap [] (by simp) (by simp)
            · rw [hA (by omega)]
              refine run_firstCells_some w' i.size len _ len cap olds (by rw [o1, hsz]) (fun j y hy => ?_)
              rw [Addr_add]
              have := o2 j y hy
              unfold World.cell? at *
              rw [hw']; exact this
          · rw [p3, d3] at hu'
            by_cases c1 : j < len * P.cellsOf e
            · rw [if_pos c1] at hu'
              obtain ⟨x, e1, e2⟩ := o3 j u hu'
              exact ⟨x, by rw [List.getElem?_append_left (by omega)]; exact e1, e2⟩
            · rw [if_neg c1] at hu'
              obtain ⟨x, e1, e2⟩ := src.rel _ _ hu'
              exact ⟨x, by rw [List.getElem?_append_right (by omega), o1]; exact e1, e2⟩
      · exact k1.elim
    · exact h.elim
  · exact h.elim

theorem copyV_sound (S : Sim ng g t m a w) {ty rt : TypeId} {at' : Array TypeId} (hat : at'.toList.head? = some ty) {d x : V} {dv xv : Value} (hd : Rv m.length g d dv) (hx : Rv m.length g x xv) (h : copyV P ty d x m K) :
    ∃ r w', (Builtin.copy_ at' rt #[dv, xv]).run P w = .ok r w' ∧ After K g m w r w' := by
  unfold copyV at h
  split at h
  · rename_i e i off n he
    have hu : P.underlying ty = some (.slice e) := by
      unfold sliceD at he
      split at he
      · cases he; assumption
      · exact nomatch he
    obtain ⟨h1, h2⟩ := br_F h
    have h1 : 0 < P.cellsOf e := by simpa using h1
    obtain ⟨inf, hinf⟩ : ∃ i, P.info? e = some i := by
      unfold Program.cellsOf at h1
      cases hi : P.info? e with
      | none => simp [hi] at h1
      | some i => exact ⟨i, rfl⟩
    have hsz : inf.size = P.cellsOf e := by simp [Program.cellsOf, hinf]
    have hat0 : at'[0]? = some ty := by
      rw [← Array.getElem?_toList, ← hat, List.head?_eq_getElem?]
    split at h2
    · rename_i j off' n'
      obtain ⟨c, k1, k2, k3, k4⟩ := segB_spec h2
      split at k1
      · rename_i hw
        obtain ⟨b', q1, q2, q3, q4, q5, q6⟩ := pasteB_spec k1
        rw [setB_eq] at q1
        have hb := getB_some (.inr hw)
        have R := S.rep.blk i _ hb
        simp only [Rv] at hd hx
        obtain ⟨hi0, hv, A, cap, hdv, _, hA⟩ := hd
        obtain ⟨_, _, B', cap', hxv, hcap', hB⟩ := hx
        subst hdv; subst hxv
        obtain ⟨xs, o1, o2, o3⟩ := cells_of S k4 k3
        have hread : (Builtin.firstCells inf.size (min n' n) (.slice B' n' cap')).run P w = .ok xs.toArray w := by
          by_cases h0 : min n' n = 0
          · have hx0 : xs = [] := List.length_eq_zero_iff.1 (by rw [o1, h0, Nat.zero_mul])
            subst hx0
            rw [h0]
            cases B' with
            | none => exact run_firstCells_none w inf.size 0 n' cap'
            | some A => exact run_firstCells_some w inf.size 0 A n' cap' [] (by simp) (by simp)
          · rw [hB (by omega)]
            refine run_firstCells_some w inf.size _ _ n' cap' xs (by rw [o1, hsz]) (fun j y hy => ?_)
            rw [Addr_add]
            exact o2 j y hy
        have hone : ∀ (j : Nat) x, xs[j]? = some x → x.oneCell' = true := fun j x hx => by
          have hj := (List.getElem?_eq_some_iff.1 hx).1
          obtain ⟨v, hv⟩ := B.get_size (b := c) (j := j) (by omega)
          obtain ⟨y, hy, hr⟩ := o3 j v hv
          rw [hx] at hy; cases hy
          exact one_of (k2.2 j v hv) hr
        have hlen : xs.length = c.size := by omega
        obtain ⟨w', r1, r2, r3⟩ := run_storeCells (P := P) (g i).1 ((g i).2 + off) xs 0 w (fun j z hz => by
          have hj := (List.getElem?_eq_some_iff.1 hz).1
          obtain ⟨u, hu'⟩ := B.get_size (b := (getB m i).b) (j := off + j) (by omega)
          obtain ⟨y, hy, _⟩ := R.cell _ _ hu'
          refine ⟨hone j z hz, y, ?_⟩
          rw [← hy]; congr 2; omega) (fun j => R.free hw (live_of_row q2) j)
        have W := wrote_rep (b' := b') (ver := b'.vof) S hb hw q2 q3 r2 (fun j u hu' => by
          rw [q6] at hu'
          rw [r3 ((g i).2 + j)]
          by_cases c1 : off ≤ j ∧ j < off + c.size
          · rw [if_pos c1] at hu'
            obtain ⟨x, e1, e2⟩ := o3 _ _ hu'
            rw [if_pos (by omega)]
            exact ⟨x, by rw [← e1]; congr 1; omega, e2⟩
          · rw [if_neg c1] at hu'
            rw [if_neg (by omega)]
            exact R.cell _ _ hu') (fun j ⟨z, hz⟩ => by
          rw [r3 j]
          by_cases c1 : (g i).2 + off + 0 ≤ j ∧ j < (g i).2 + off + 0 + xs.length
          · rw [if_pos c1]
            exact ⟨_, List.getElem?_eq_getElem (by omega)⟩
          · rw [if_neg c1]; exact ⟨z, hz⟩) rfl (.inl q4)
        rw [place_same R q4] at W
        refine ⟨.int .i64 (min n' n : Nat), w', ?_, _, _, _, q1, rfl, W.1, W.2⟩
        have hmin : Nat.min n' n = min n' n := rfl
        simp only [Builtin.copy_, hat0, List.getElem?_toArray, List.getElem?_cons_zero, List.getElem?_cons_succ, Sem.run_bind, run_underlying hu, Result.andThen_ok, Builtin.lenOf, Sem.run_pure, hmin, run_sizeOf w hinf, hread]
        rw [← hsz, hread]
        simp only [Result.andThen_ok]
        by_cases h0 : n = 0
        · subst h0
          have hx0 : xs = [] := List.length_eq_zero_iff.1 (by rw [o1]; simp)
          subst hx0
          have hw0 : w' = w := by
            simp only [storeCells, Sem.run_pure, Result.ok.injEq] at r1; exact r1.2.symm
          subst hw0
          cases A with
          | none => simp [goInt]
          | some A => simp [goInt, storeCells]
        · rw [hA (by omega)]
          simp [r1, goInt]
      · exact k1.elim
    · exact h2.elim
  · exact h.elim
end
end Go.Eng
/- The engine, part 23: maps from pairs of whole numbers to whole numbers. No condition. -/
namespace Go.Eng
open Go
section
variable {P : Program} {ng : Nat} {g : Nat → Pl} {t : List V} {m : List Blk} {a : Act} {w : World} {K : V → List Blk → Prop}

theorem run_getObjM {r : Nat} {es : Array MapEntry} {ck : Nat} (hb : w.heap[r]? = some (.map es ck)) : (getObj r).run P w = .ok (.map es ck) w := by
  simp [getObj, Sem.run, hb]
theorem run_setObjM {r : Nat} {es : Array MapEntry} {ck : Nat} (o : Obj) (hb : w.heap[r]? = some (.map es ck)) : (setObj r o).run P w = .ok () { w with heap := w.heap.setIfInBounds r o } := by
  simp [setObj, Sem.run, hb]
theorem heap_setM {r : Nat} {o o' : Obj} (hb : w.heap[r]? = some o) : (w.heap.setIfInBounds r o')[r]? = some o' ∧ ∀ r', r' ≠ r → (w.heap.setIfInBounds r o')[r']? = w.heap[r']? := by
  have hlt : r < w.heap.size := (Array.getElem?_eq_some_iff.1 hb).1
  exact ⟨by simp [hlt], fun r' hne => by simp [Ne.symm hne]⟩
theorem keyV_inj {a b c d : Int} (h : keyV a b = keyV c d) : a = c ∧ b = d := by
  unfold keyV at h
  simp only [Value.agg.injEq, Array.mk.injEq, List.cons.injEq, Value.int.injEq, true_and, and_true] at h
  exact h
/-- What 'pairMap' says. -/
structure PairMap (P : Program) (t : TypeId) (kt : TypeId) (vt : TypeId) (f0 f1 : Field) : Prop where
  map : P.underlying t = some (.map kt vt)
  key : P.underlying kt = some (.struct #[f0, f1])
  held : P.stoodInHeld kt = false
  zero : zero64 (P.info? vt) = true
  n0 : (f0.name != "_") = true
  n1 : (f1.name != "_") = true
  o0 : f0.offset = 0
  o1 : f1.offset = 1
  u0 : ∃ k, P.underlying f0.type = some (.int k)
  u1 : ∃ k, P.underlying f1.type = some (.int k)
theorem pairMap_spec {t kt : TypeId} (h : pairMap P t = some kt) : ∃ vt f0 f1, PairMap P t kt vt f0 f1 := by
  unfold pairMap at h
  split at h
  · rename_i kt' vt hm
    split at h
    · rename_i fs h1 h3 h4
      split at h
      · rename_i a b hfs
        split at h
        · rename_i k0 k1 e1 e2 e3 e4 e5 e6 e7 e8
          cases h
          have : fs = #[a, b] := by apply Array.ext'; simpa using hfs
          subst this
          exact ⟨vt, a, b, hm, h1, h3, h4, e1, e2, e3, e4, ⟨k0, e5⟩, ⟨k1, e6⟩⟩
        · exact nomatch h
      · exact nomatch h
    · exact nomatch h
  · exact nomatch h
theorem key_eqT {t kt vt : TypeId} {f0 f1 : Field} (h : PairMap P t kt vt f0 f1) (a b c d : Int) : eqT P 2 kt (.agg [.int .i64 a, .int .i64 b]) (.agg [.int .i64 c, .int .i64 d]) = some ((a == c) && ((b == d) && true)) := by
  obtain ⟨k0, u0⟩ := h.u0
  obtain ⟨k1, u1⟩ := h.u1
  have e0 : ∀ x y : Int, eqT P 1 f0.type (.int .i64 x) (.int .i64 y) = some (x == y) := by intro x y; simp [eqT, u0, sameKind]
  have e1 : ∀ x y : Int, eqT P 1 f1.type (.int .i64 x) (.int .i64 y) = some (x == y) := by intro x y; simp [eqT, u1, sameKind]
  have p0 : ∀ x y : Int, partO P f0.type [.int .i64 x, .int .i64 y] 0 = some (.int .i64 x) := by intro x y; simp [partO, u0, isAggD, ltL, getT]
  have p1 : ∀ x y : Int, partO P f1.type [.int .i64 x, .int .i64 y] 1 = some (.int .i64 y) := by intro x y; simp [partO, u1, isAggD, ltL, getT]
  have hn0 := h.n0
  have hn1 := h.n1
  simp only [eqT, h.key, h.held, eqFs, h.o0, h.o1, hn0, hn1, p0, p1, u0, u1, sameKind]
theorem run_key_eq {t kt vt : TypeId} {f0 f1 : Field} (h : PairMap P t kt vt f0 f1) (a b c d : Int) (w : World) : (Op.equal kt (keyV a b) (keyV c d)).run P w = .ok (decide (a = c ∧ b = d)) w := by
  have := eqT_sound (P := P) (n := 0) (g := fun _ => ⟨0, 0, 0, 0⟩) 2 10000 (by omega) kt _ _ _ (keyV a b) (keyV c d) w (key_eqT h a b c d) ⟨_, rfl, _, _, rfl, rfl, _, _, rfl, rfl, rfl⟩ ⟨_, rfl, _, _, rfl, rfl, _, _, rfl, rfl, rfl⟩
  rw [show Op.equal kt (keyV a b) (keyV c d) = Op.equalIn 10000 kt (keyV a b) (keyV c d) from rfl, this]
  congr 1
  rw [Bool.eq_iff_iff]
  simp
theorem run_key_check {t kt vt : TypeId} {f0 f1 : Field} (h : PairMap P t kt vt f0 f1) (e : Bool) (a b : Int) (w : World) : (Instr.checkKey e 10000 kt (keyV a b)).run P w = .ok () w := by
  obtain ⟨k0, u0⟩ := h.u0
  obtain ⟨k1, u1⟩ := h.u1
  have c0 : ∀ v : Value, (Instr.checkKey e 9999 f0.type v).run P w = .ok () w := by
    intro v; unfold Instr.checkKey; simp only [Sem.run_bind, run_underlying u0, Result.andThen_ok, Sem.run_pure]
  have c1 : ∀ v : Value, (Instr.checkKey e 9999 f1.type v).run P w = .ok () w := by
    intro v; unfold Instr.checkKey; simp only [Sem.run_bind, run_underlying u1, Result.andThen_ok, Sem.run_pure]
  have hr : Rvs 0 (fun _ => (⟨0, 0, 0, 0⟩ : Pl)) [.int .i64 a, .int .i64 b] (#[.int .i64 a, .int .i64 b] : Array Value).toList := ⟨_, _, rfl, rfl, _, _, rfl, rfl, rfl⟩
  obtain ⟨x0, q0, _⟩ := partO_sound (P := P) u0 (off := 0) (v := .int .i64 a) hr (by simp [partO, u0, isAggD, ltL, getT]) w
  obtain ⟨x1, q1, _⟩ := partO_sound (P := P) u1 (off := 1) (v := .int .i64 b) hr (by simp [partO, u1, isAggD, ltL, getT]) w
  have hn0 := h.n0
  have hn1 := h.n1
  simp only [bne_iff_ne, ne_eq] at hn0 hn1
  unfold Instr.checkKey keyV
  simp only [Sem.run_bind, run_underlying h.key, Result.andThen_ok]
  simp [hn0, hn1, h.o0, h.o1, q0, q1, c0, c1]
/-- The entry that is found. -/
theorem run_find {t kt vt : TypeId} {f0 f1 : Field} (h : PairMap P t kt vt f0 f1) (a b : Int) (w : World) : ∀ (l : List MapEntry) (i : Nat), (∀ e ∈ l, ∃ c d, e.key = keyV c d) →
    ((Instr.findAsking kt (keyV a b) l i).run P w = .ok none w ∧ ∀ e ∈ l, e.key ≠ keyV a b) ∨
    ∃ j e, l[j]? = some e ∧ e.key = keyV a b ∧ (Instr.findAsking kt (keyV a b) l i).run P w = .ok (some (i + j, e.val)) w
  | [], i, _ => .inl ⟨by simp [Instr.findAsking], by simp⟩
  | e :: l, i, hk => by
    obtain ⟨c, d, hcd⟩ := hk e (by simp)
    by_cases hq : a = c ∧ b = d
    · obtain ⟨rfl, rfl⟩ := hq
      refine .inr ⟨0, e, rfl, hcd, ?_⟩
      simp only [Instr.findAsking, Sem.run_bind, hcd, run_key_eq h, Result.andThen_ok]
      simp
    · have hne : e.key ≠ keyV a b := fun he => hq (by rw [hcd] at he; have := keyV_inj he; exact ⟨this.1.symm, this.2.symm⟩)
      have hstep : (Instr.findAsking kt (keyV a b) (e :: l) i).run P w = (Instr.findAsking kt (keyV a b) l (i + 1)).run P w := by
        simp only [Instr.findAsking, Sem.run_bind, hcd, run_key_eq h, Result.andThen_ok]
        rw [decide_eq_false hq]
        simp
      rw [hstep]
      rcases run_find h a b w l (i + 1) (fun e' he' => hk e' (by simp [he'])) with ⟨h1, h2⟩ | ⟨j, e', h1, h2, h3⟩
      · exact .inl ⟨h1, fun e' he' => by
          cases he' with
          | head => exact hne
          | tail _ he' => exact h2 e' he'⟩
      · exact .inr ⟨j + 1, e', by simpa using h1, h2, by rw [h3]; congr 3; omega⟩
theorem run_findK {t kt vt : TypeId} {f0 f1 : Field} (h : PairMap P t kt vt f0 f1) (k : Value) (l : List MapEntry) (w : World) : (Instr.findKey kt k l).run P w = (Instr.findAsking kt k l).run P w :=
  run_findKey_eq w (by rw [h.key]) k l
theorem map_block (S : Sim ng g t m a w) {i : Nat} {f : Int → Int → Option Int} {x : Value} (hx : Rv m.length g (.mp i) x) (hf : (getB m i).b = .mpI f) :
    m[i]? = some (getB m i) ∧ x = .map (some (g i).1) ∧ ∃ es ck, w.heap[(g i).1]? = some (.map es ck) ∧ MapRel f es := by
  simp only [Rv] at hx
  have hb := getB_some (m := m) (i := i) (.inl (by rw [hf]; rfl))
  obtain ⟨es, ck, h1, h2⟩ := (S.rep.blk i _ hb).map f hf
  exact ⟨hb, hx.2.2, es, ck, h1, h2⟩
theorem run_zero_int {vt : TypeId} (h : zero64 (P.info? vt) = true) (w : World) : (zeroValue vt).run P w = .ok (.int .i64 0) w := by
  unfold zero64 at h
  split at h
  · rename_i i hi
    split at h
    · rename_i hz
      simp [zeroValue, typeInfo, hi, hz]
    · exact nomatch h
  · exact nomatch h
theorem lookupV_sound (S : Sim ng g t m a w) {ty : TypeId} {x k : V} {xv kv : Value} {ok : Bool} {K : V → Prop} (hx : Rv m.length g x xv) (hk : Rv m.length g k kv) (h : lookupV P ty x k ok m K) :
    ∃ v y, (Instr.lookup ty xv kv ok).run P w = .ok y w ∧ Rv m.length g v y ∧ K v := by
  unfold lookupV at h
  split at h
  · rename_i i c d
    obtain ⟨⟨kt, hp⟩, h⟩ := h
    obtain ⟨vt, f0, f1, PM⟩ := pairMap_spec hp
    split at h
    · rename_i f hf
      obtain ⟨hb, hxv, es, ck, h1, R⟩ := map_block S hx hf
      have hkv : kv = keyV c d := by
        obtain ⟨xs, rfl, y, ys, h2, h3, y2, ys2, h4, h5, h6⟩ := hk
        have h3 : y = .int .i64 c := h3
        have h5 : y2 = .int .i64 d := h5
        have h6 : ys2 = [] := h6
        subst h3; subst h5; subst h6; subst h4
        unfold keyV; congr 1; apply Array.ext'; simpa using h2
      subst hkv; subst hxv
      have hfind := run_find PM c d w es.toList 0 (fun e he => by obtain ⟨p, q, _, h2, _⟩ := R.key e he; exact ⟨p, q, h2⟩)
      have hcase : ∃ (v : V) (o : Option (Nat × Value)), (Instr.findAsking kt (keyV c d) es.toList).run P w = .ok o w ∧ ((o = none ∧ f c d = none ∧ v = .int .i64 0) ∨ (∃ j z, o = some (j, .int .i64 z) ∧ f c d = some z ∧ v = .int .i64 z)) := by
        rcases hfind with ⟨h2, h3⟩ | ⟨j, e, h2, h3, h4⟩
        · refine ⟨_, _, h2, .inl ⟨rfl, ?_, rfl⟩⟩
          cases hfc : f c d with
          | none => rfl
          | some z =>
            obtain ⟨e, he, hek⟩ := R.all c d z hfc
            exact absurd hek (h3 e he)
        · obtain ⟨p, q, z, h5, h6, h7⟩ := R.key e (List.mem_of_getElem? h2)
          obtain ⟨rfl, rfl⟩ := keyV_inj (h5.symm.trans h3)
          exact ⟨_, _, h4, .inr ⟨_, z, by rw [h6], h7, rfl⟩⟩
      obtain ⟨v, o, h2, h3⟩ := hcase
      have hrun : ∀ y : Value, (∀ u b, o = some (u, b) → y = b) → (o = none → y = .int .i64 0) → (Instr.lookup ty (.map (some (g i).1)) (keyV c d) ok).run P w = .ok (if ok then .tuple #[y, .bool o.isSome] else y) w := by
        intro y hy1 hy2
        unfold Instr.lookup
        simp only [Sem.run_bind, run_underlying PM.map, Result.andThen_ok, run_getObjM h1, Sem.run_pure, run_key_check PM, run_findK PM, h2]
        cases o with
        | none => simp [run_zero_int PM.zero, hy2 rfl]
        | some p => simp [hy1 p.1 p.2 rfl]
      rcases h3 with ⟨rfl, e2, rfl⟩ | ⟨j, z, rfl, e2, rfl⟩
      · have := hrun (.int .i64 0) (fun _ _ h => nomatch h) (fun _ => rfl)
        cases ok with
        | true =>
          unfold lookV at h
          rw [e2] at h
          exact ⟨.tup [.int .i64 0, .bool false], _, this, ⟨_, rfl, _, _, rfl, rfl, _, _, rfl, rfl, rfl⟩, h⟩
        | false =>
          unfold lookV at h
          rw [e2] at h
          exact ⟨.int .i64 0, _, this, rfl, h⟩
      · have := hrun (.int .i64 z) (fun _ _ h => by cases h; rfl) (fun h => nomatch h)
        cases ok with
        | true =>
          unfold lookV at h
          rw [e2] at h
          exact ⟨.tup [.int .i64 z, .bool true], _, this, ⟨_, rfl, _, _, rfl, rfl, _, _, rfl, rfl, rfl⟩, h⟩
        | false =>
          unfold lookV at h
          rw [e2] at h
          exact ⟨.int .i64 z, _, this, rfl, h⟩
    · exact h.elim
  · exact h.elim
/-- A map that is written. -/
theorem map_set_rep (S : Sim ng g t m a w) {i : Nat} {c : Blk} {f f' : Int → Int → Option Int} {es es' : Array MapEntry} {ck ck' : Nat} (hb : m[i]? = some c) (hw : c.w = true) (hc : c.b = .mpI f) (h1 : w.heap[(g i).1]? = some (.map es ck)) (hR : MapRel f' es') :
    Rep g (m.set i ⟨true, .mpI f'⟩) { w with heap := w.heap.setIfInBounds (g i).1 (.map es' ck') } ∧ Step g m w g (m.set i ⟨true, .mpI f'⟩) { w with heap := w.heap.setIfInBounds (g i).1 (.map es' ck') } := by
  have hi : i < m.length := (List.getElem?_eq_some_iff.1 hb).1
  have R := S.rep.blk i _ hb
  have hbl : c.b.live = true := by rw [hc]; rfl
  obtain ⟨hs1, hs2⟩ := heap_setM (o' := .map es' ck') h1
  have hget : ∀ j d, (m.set i ⟨true, .mpI f'⟩)[j]? = some d → (j = i ∧ d = ⟨true, .mpI f'⟩) ∨ (j ≠ i ∧ m[j]? = some d) := by
    intro j d hd
    rw [List.getElem?_set] at hd
    by_cases e : i = j
    · subst e
      simp only [hi, if_true, Option.some.injEq] at hd
      exact .inl ⟨rfl, hd.symm⟩
    · rw [if_neg e] at hd; exact .inr ⟨Ne.symm e, hd⟩
  refine ⟨⟨fun j d hd => ?_, fun i' j' x y hne hx hy hxw hxl hyl => ?_⟩, ⟨by simp, agree_of fun j hj => ⟨rfl, ?_⟩, rfl, rfl, rfl, by simp, fun p _ hp => hs2 p (fun e => hp ⟨i, _, hb, hw, e.symm⟩), fun p _ hp => ?_⟩⟩
  · rw [List.length_set]
    rcases hget j d hd with ⟨rfl, rfl⟩ | ⟨hne, hd⟩
    · have hv := R.ver
      rw [hc] at hv
      refine ⟨by simpa using R.size, (fun k u hu => nomatch hu), fun _ _ k => ?_, fun _ k hk => ?_, fun f0 hf0 => ?_, hv⟩
      · unfold World.frozen?
        simp only [hs1]
      · obtain ⟨y, hy⟩ := R.room hbl k hk
        unfold World.cell? at hy
        simp only [h1] at hy
        exact nomatch hy
      · cases hf0
        exact ⟨es', ck', hs1, hR⟩
    · have R' := S.rep.blk j d hd
      by_cases hdl : d.b.live = true
      · exact R'.congr (hs2 _ (S.rep.apart i j _ _ (Ne.symm hne) hb hd hw hbl hdl).symm) (Nat.le_refl _) fun _ _ => .inl rfl
      · have hdead : d.b = .dead := by cases h : d.b <;> simp [h, B.live] at hdl; rfl
        exact ⟨by simpa using R'.size, (fun k u hu => by rw [hdead] at hu; exact nomatch hu), (fun _ hl' => absurd hl' hdl), (fun hl' => absurd hl' hdl), (fun f hf => by rw [hdead] at hf; exact nomatch hf), R'.ver⟩
  · rcases hget i' x hx with ⟨e1, e2⟩ | ⟨h1, hx1⟩
    · rcases hget j' y hy with ⟨e3, e4⟩ | ⟨h2, hy1⟩
      · exact absurd (e1.trans e3.symm) hne
      · rw [e1] at hne ⊢; exact S.rep.apart i j' _ _ hne hb hy1 hw hbl hyl
    · rcases hget j' y hy with ⟨e3, e4⟩ | ⟨h2, hy1⟩
      · rw [e3] at hne ⊢; exact S.rep.apart i' i _ _ hne hx1 hb hxw hxl hbl
      · exact S.rep.apart i' j' _ _ hne hx1 hy1 hxw hxl hyl
  · rw [getB_eq, getB_eq]
    by_cases e : j = i
    · subst e
      simp only [List.getD_eq_getElem?_getD, hb, Option.getD_some, List.getElem?_set, hi, if_true, hc, B.vof]
    · simp only [List.getD_eq_getElem?_getD, List.getElem?_set, if_neg (Ne.symm e)]
  · obtain ⟨j, c', hc', hcw, he⟩ := hp
    rcases hget j c' hc' with ⟨rfl, rfl⟩ | ⟨h2, hc'⟩
    · exact ⟨j, _, hb, hw, he⟩
    · exact ⟨j, c', hc', hcw, he⟩
theorem sameBits_key (a b : Int) : Instr.sameBits 10000 (keyV a b) (keyV a b) = true := by
  unfold keyV
  simp [Instr.sameBits]
theorem upd_old {f : Int → Int → Option Int} {es : Array MapEntry} {a b z : Int} {j : Nat} {e : MapEntry} (R : MapRel f es) (hj : es.toList[j]? = some e) (he : e.key = keyV a b) :
    MapRel (updM f a b z) (es.modify j fun e => { e with key := keyV a b, val := .int .i64 z }) := by
  have hl : (es.modify j fun e => { e with key := keyV a b, val := .int .i64 z }).toList = es.toList.set j { e with key := keyV a b, val := .int .i64 z } := by
    apply List.ext_getElem?
    intro k
    rw [Array.getElem?_toList, Array.getElem?_modify, List.getElem?_set, ← Array.getElem?_toList]
    by_cases hjk : j = k
    · subst hjk
      simp only [if_true, hj, Option.map_some, if_pos (List.getElem?_eq_some_iff.1 hj).1]
    · rw [if_neg hjk, if_neg hjk]
  have hjl := (List.getElem?_eq_some_iff.1 hj).1
  have hpair := List.pairwise_iff_getElem.1 R.one
  have huniq : ∀ k e', es.toList[k]? = some e' → e'.key = keyV a b → k = j := by
    intro k e' hk he'
    have hkl := (List.getElem?_eq_some_iff.1 hk).1
    have ek : es.toList[k] = e' := (List.getElem?_eq_some_iff.1 hk).2
    have ej : es.toList[j] = e := (List.getElem?_eq_some_iff.1 hj).2
    rcases Nat.lt_trichotomy k j with h | h | h
    · have := hpair k j hkl hjl h
      rw [ek, ej, he, he'] at this; exact absurd rfl this
    · exact h
    · have := hpair j k hjl hkl h
      rw [ek, ej, he, he'] at this; exact absurd rfl this
  refine ⟨fun e' he' => ?_, fun c d z' hz' => ?_, ?_⟩
  · rw [hl] at he'
    obtain ⟨k, hk⟩ := List.mem_iff_getElem?.1 he'
    rw [List.getElem?_set] at hk
    by_cases hjk : j = k
    · subst hjk
      rw [if_pos rfl, if_pos hjl] at hk
      cases hk
      exact ⟨a, b, z, rfl, rfl, by simp [updM]⟩
    · rw [if_neg hjk] at hk
      obtain ⟨p, q, z', h1, h2, h3⟩ := R.key e' (List.mem_of_getElem? hk)
      refine ⟨p, q, z', h1, h2, ?_⟩
      unfold updM
      rw [if_neg]
      · exact h3
      · rintro ⟨rfl, rfl⟩
        exact hjk (huniq k e' hk h1).symm
  · rw [hl]
    by_cases hq : c = a ∧ d = b
    · obtain ⟨rfl, rfl⟩ := hq
      exact ⟨_, List.mem_iff_getElem?.2 ⟨j, by rw [List.getElem?_set, if_pos rfl, if_pos hjl]⟩, rfl⟩
    · unfold updM at hz'
      rw [if_neg hq] at hz'
      obtain ⟨e', he', hk'⟩ := R.all c d z' hz'
      obtain ⟨k, hk⟩ := List.mem_iff_getElem?.1 he'
      refine ⟨e', List.mem_iff_getElem?.2 ⟨k, ?_⟩, hk'⟩
      rw [List.getElem?_set, if_neg]
      · exact hk
      · rintro rfl
        rw [hj] at hk; cases hk
        rw [he] at hk'
        have := keyV_inj hk'
        exact hq ⟨this.1.symm, this.2.symm⟩
  · rw [hl]
    refine List.pairwise_iff_getElem.2 fun p q hp hq hpq => ?_
    rw [List.length_set] at hp hq
    have := hpair p q hp hq hpq
    have ej : es.toList[j] = e := (List.getElem?_eq_some_iff.1 hj).2
    have hk : ∀ k (hk : k < es.toList.length), ((es.toList.set j { e with key := keyV a b, val := .int .i64 z })[k]'(by simpa using hk)).key = (es.toList[k]).key := by
      intro k hk
      rw [List.getElem_set]
      split
      · rename_i h; subst h; rw [ej]; exact he.symm
      · rfl
    rw [hk p hp, hk q hq]; exact this
theorem upd_new {f : Int → Int → Option Int} {es : Array MapEntry} {a b z : Int} {ck : Nat} (R : MapRel f es) (hno : ∀ e ∈ es.toList, e.key ≠ keyV a b) :
    MapRel (updM f a b z) (es.push { key := keyV a b, val := .int .i64 z, born := ck }) := by
  refine ⟨fun e' he' => ?_, fun c d z' hz' => ?_, ?_⟩
  · rw [Array.toList_push, List.mem_append] at he'
    rcases he' with he' | he'
    · obtain ⟨p, q, z', h1, h2, h3⟩ := R.key e' he'
      refine ⟨p, q, z', h1, h2, ?_⟩
      unfold updM
      rw [if_neg]
      · exact h3
      · rintro ⟨rfl, rfl⟩
        exact hno e' he' h1
    · simp only [List.mem_cons, List.not_mem_nil, or_false] at he'
      subst he'
      exact ⟨a, b, z, rfl, rfl, by simp [updM]⟩
  · rw [Array.toList_push]
    by_cases hq : c = a ∧ d = b
    · obtain ⟨rfl, rfl⟩ := hq
      exact ⟨_, List.mem_append_right _ (List.mem_cons_self ..), rfl⟩
    · unfold updM at hz'
      rw [if_neg hq] at hz'
      obtain ⟨e', he', hk'⟩ := R.all c d z' hz'
      exact ⟨e', List.mem_append_left _ he', hk'⟩
  · rw [Array.toList_push, List.pairwise_append]
    refine ⟨R.one, List.pairwise_singleton .., fun x hx y hy => ?_⟩
    simp only [List.mem_cons, List.not_mem_nil, or_false] at hy
    subst hy
    exact hno x hx
theorem key_of {n : Nat} {g : Nat → Pl} {c d : Int} {kv : Value} (hk : Rv n g (.agg [.int .i64 c, .int .i64 d]) kv) : kv = keyV c d := by
  obtain ⟨xs, rfl, y, ys, h2, h3, y2, ys2, h4, h5, h6⟩ := hk
  have h3 : y = .int .i64 c := h3
  have h5 : y2 = .int .i64 d := h5
  have h6 : ys2 = [] := h6
  subst h3; subst h5; subst h6; subst h4
  unfold keyV; congr 1; apply Array.ext'; simpa using h2
theorem mapUpdV_sound (S : Sim ng g t m a w) {ty : TypeId} {x k v : V} {xv kv vv : Value} {K : List Blk → Prop} (hx : Rv m.length g x xv) (hk : Rv m.length g k kv) (hv : Rv m.length g v vv) (h : mapUpdV P ty x k v m K) :
    ∃ m' w', (Instr.mapUpdate ty xv kv vv).run P w = .ok () w' ∧ K m' ∧ Rep g m' w' ∧ Step g m w g m' w' := by
  unfold mapUpdV at h
  split at h
  · rename_i i c d z
    obtain ⟨⟨kt, hp⟩, h⟩ := h
    obtain ⟨vt, f0, f1, PM⟩ := pairMap_spec hp
    split at h
    · rename_i f hw hf
      rw [setB_eq] at h
      obtain ⟨hb, hxv, es, ck, h1, R⟩ := map_block S hx hf
      have hkv := key_of hk
      have hvv : vv = .int .i64 z := hv
      subst hkv; subst hxv; subst hvv
      rcases run_find PM c d w es.toList 0 (fun e he => by obtain ⟨p, q, _, h2, _⟩ := R.key e he; exact ⟨p, q, h2⟩) with ⟨h2, h3⟩ | ⟨j, e, h2, h3, h4⟩
      · obtain ⟨r1, r2⟩ := map_set_rep (ck' := ck + 1) S hb hw hf h1 (upd_new (z := z) (ck := ck) R h3)
        refine ⟨_, _, ?_, h, r1, r2⟩
        unfold Instr.mapUpdate
        simp only [Sem.run_bind, run_underlying PM.map, Result.andThen_ok, run_getObjM h1, run_key_check PM, run_findK PM, h2, run_setObjM _ h1]
      · obtain ⟨r1, r2⟩ := map_set_rep (ck' := ck) S hb hw hf h1 (upd_old (z := z) R h2 h3)
        refine ⟨_, _, ?_, h, r1, r2⟩
        unfold Instr.mapUpdate
        have e1 : es[j]? = some e := by rw [← Array.getElem?_toList]; exact h2
        simp only [Sem.run_bind, run_underlying PM.map, Result.andThen_ok, run_getObjM h1, run_key_check PM, run_findK PM, h4, Nat.zero_add, e1, Option.map_some, Option.getD_some, h3, Instr.keyThatStays, sameBits_key, if_true, Sem.run_pure, run_setObjM _ h1]
    · exact h.elim
  · exact h.elim
theorem makeMap_rep (S : Sim ng g t m a w) : Rep (newAtP g m.length ⟨w.heap.size, 0, 0, 0⟩) (m ++ [⟨true, .mpI fun _ _ => none⟩]) { w with heap := w.heap.push (.map #[] 0) } ∧ Step g m w (newAtP g m.length ⟨w.heap.size, 0, 0, 0⟩) (m ++ [⟨true, .mpI fun _ _ => none⟩]) { w with heap := w.heap.push (.map #[] 0) } := by
  have hnew : (w.heap.push (Obj.map #[] 0))[w.heap.size]? = some (.map #[] 0) := by simp
  refine madeP S (.mpI fun _ _ => none) (.map #[] 0) ⟨w.heap.size, 0, 0, 0⟩ rfl ⟨by simp, (fun j v hv => nomatch hv), fun _ _ j => ?_, fun _ j hj => absurd hj (Nat.not_lt_zero j), fun f hf => ?_, rfl⟩
  · unfold World.frozen?
    simp only [hnew]
  · have hf : (fun _ _ => none) = f := B.mpI.inj hf
    subst hf
    exact ⟨#[], 0, hnew, ⟨(fun e he => by simp at he), (fun _ _ _ h => nomatch h), List.Pairwise.nil⟩⟩
end
end Go.Eng
