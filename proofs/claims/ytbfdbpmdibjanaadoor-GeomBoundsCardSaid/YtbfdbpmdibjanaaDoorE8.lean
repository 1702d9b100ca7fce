/- The engine, part 8: one operation, whatever it is. No condition. -/
import Derived.Test.YtbfdbpmdibjanaaDoorE7
namespace Go.Eng
open Go
set_option linter.unusedSimpArgs false
set_option linter.unusedVariables false
section
variable {P : Program} {ng : Nat} {g : Nat → Pl} {t : List V} {m : List Blk} {a : Act} {w : World}

def After (K : V → List Blk → Prop) (g : Nat → Pl) (m : List Blk) (w : World) (x : Value) (w' : World) : Prop :=
  ∃ v m' g', K v m' ∧ Rv m'.length g' v x ∧ Rep g' m' w' ∧ Step g m w g' m' w'
/-- What an operation must come to. -/
def Gets (P : Program) (K : V → List Blk → Prop) (g : Nat → Pl) (m : List Blk) (w : World) : Result Next → Prop
  | .ok (.value x) w' => After K g m w x w'
  | .ok .skip w' => After K g m w undef w'
  | .ok (.enter f xs) w1 => Calls P f xs w1 fun e w' => ∃ x, e = .returned x ∧ After K g m w x w'
  | _ => False

theorem Drew.rep {w w' : World} (h : Drew w w') (r : Rep g m w) : Rep g m w' := by
  obtain ⟨k, rfl⟩ := h; exact r.heap rfl
theorem Drew.step {w w' : World} (h : Drew w w') : Step g m w g m w' := by
  obtain ⟨k, rfl⟩ := h; exact .drawn _ _ _ _
theorem After.of {K : V → List Blk → Prop} {v : V} {x : Value} {w' : World} (S : Sim ng g t m a w) (hk : K v m) (hr : Rv m.length g v x) (hd : Drew w w') : After K g m w x w' :=
  ⟨v, m, g, hk, hr, hd.rep S.rep, hd.step⟩
theorem gets_val (S : Sim ng g t m a w) {K : V → List Blk → Prop} {s : Sem Value} (h : Val P m.length g w (fun v => K v m) s) :
    Gets P K g m w ((do pure (.value (← s)) : Sem Next).run P w) := by
  obtain ⟨v, r, w', h1, h2, h3, h4⟩ := h
  simp only [Sem.run_bind, h1, Result.andThen_ok, Sem.run_pure, Gets]
  exact .of S h3 h2 h4
theorem gets_ok (S : Sim ng g t m a w) {K : V → List Blk → Prop} {s : Sem Value} {v : V} {x : Value} (h : s.run P w = .ok x w) (hr : Rv m.length g v x) (hk : K v m) :
    Gets P K g m w ((do pure (.value (← s)) : Sem Next).run P w) := gets_val S (.same hk hr h)
theorem gets_new (S : Sim ng g t m a w) {K : V → List Blk → Prop} {s : Sem Value} {v : V} {x : Value} {b : B} {c : Array Value} {e : TypeId} (hpl : b.plain = true)
    (h : ∀ (j : Nat) (v : V), b.get j = some v → ∃ x, c[j]? = some x ∧ Rv m.length g v x)
    (hs : s.run P w = .ok x { w with heap := w.heap.push (.cells c e) }) (hr : Rv (m ++ [(⟨true, b⟩ : Blk)]).length (newAt g m.length w.heap.size) v x) (hk : K v (m ++ [⟨true, b⟩])) :
    Gets P K g m w ((do pure (.value (← s)) : Sem Next).run P w) := by
  obtain ⟨h1, h2⟩ := made S b c e hpl h
  simp only [Sem.run_bind, hs, Result.andThen_ok, Sem.run_pure, Gets]
  exact ⟨v, _, _, hk, hr, h1, h2⟩

theorem cells_get {cs : List V} {xs : Array Value} {n : Nat} (h : Rvs n g cs xs.toList) : ∀ (j : Nat) (v : V), (B.cells cs).get j = some v → ∃ x, xs[j]? = some x ∧ Rv n g v x := by
  intro j v hv
  obtain ⟨x, hx, hr⟩ := Rvs_get h hv
  exact ⟨x, by simpa using hx, hr⟩
theorem info_of_pos {e : TypeId} (h : 0 < P.cellsOf e) : ∃ i, P.info? e = some i := by
  unfold Program.cellsOf at h
  cases hi : P.info? e with
  | none => simp [hi] at h
  | some i => exact ⟨i, rfl⟩

theorem pasteL_sound {n : Nat} (off : Nat) : ∀ (vs : List V) (xs : List Value) (k : Nat) (z : List V) (cells : Array Value), Rvs n g z cells.toList → Rvs n g vs xs →
    Rvs n g (pasteL z (off + k) vs) ((xs.zipIdx k).foldl (fun cs (c, j) => cs.setIfInBounds (off + j) c) cells).toList
  | [], xs, k, z, cells, hz, hv => by simp [Rvs] at hv; subst hv; simpa [pasteL] using hz
  | v :: vs, xs, k, z, cells, hz, hv => by
    simp only [Rvs] at hv
    obtain ⟨y, ys, rfl, h1, h2⟩ := hv
    simp only [pasteL, List.zipIdx_cons, List.foldl_cons]
    have := pasteL_sound off vs ys (k + 1) (z.set (off + k) v) (cells.setIfInBounds (off + k) y) (by simpa using Rvs_set hz (off + k) h1) h2
    simpa [Nat.add_assoc] using this
theorem fillV_sound {n : Nat} {place : Nat → Option (Nat × Nat)} : ∀ (ps : List (Nat × V)) (qs : List (Nat × Value)) (z : List V) (cells : Array Value) {K : List V → Prop},
    qs.length = ps.length → (∀ (i : Nat) p q, ps[i]? = some p → qs[i]? = some q → q.1 = p.1 ∧ Rv n g p.2 q.2) → Rvs n g z cells.toList → fillV place z ps K →
    ∃ z' cells', Instr.fill place cells qs = some cells' ∧ Rvs n g z' cells'.toList ∧ K z'
  | [], qs, z, cells, K, hl, _, hz, h => by
    have : qs = [] := List.length_eq_zero_iff.1 (by simpa using hl)
    subst this
    exact ⟨z, cells, rfl, hz, h⟩
  | (i, v) :: ps, [], z, cells, K, hl, _, _, _ => by simp at hl
  | (i, v) :: ps, (i', x) :: qs, z, cells, K, hl, hr, hz, h => by
    obtain ⟨h1, h2⟩ := hr 0 _ _ rfl rfl
    simp only at h1 h2
    subst h1
    simp only [fillV] at h
    split at h
    · rename_i off sz hp
      obtain ⟨h3, h4⟩ := br_F h
      rw [fVs_eq] at h4
      simp only [Bool.and_eq_true, lenL_eq] at h3
      obtain ⟨⟨h5, h6⟩, h7⟩ := h3
      have h5 : v.cellsL.length = sz := by simpa using h5
      have h6 : off + v.cellsL.length ≤ z.length := by simpa using h6
      have hc := Rvs_cells h2 h7
      have hcl := Rvs_length hc
      have hzl := Rvs_length hz
      rw [Array.length_toList] at hcl hzl
      have hpaste := pasteL_sound (g := g) (n := n) off v.cellsL x.cells.toList 0 z cells hz hc
      obtain ⟨z', cells', k1, k2, k3⟩ := fillV_sound ps qs _ _ (by simpa using hl) (fun j p q e1 e2 => hr (j + 1) p q (by simpa using e1) (by simpa using e2)) hpaste h4
      refine ⟨z', cells', ?_, k2, k3⟩
      simp only [Instr.fill, hp]
      rw [if_neg (by simp only [Bool.or_eq_true, decide_eq_true_eq, not_or]; omega)]
      rw [← k1]
      congr 1
      rw [← Array.foldl_toList, Array.toList_zipIdx]
    · exact h.elim

theorem parts_rel (S : Sim ng g t m a w) (ps : Array (Nat × Operand)) : (ps.map fun (i, x) => (i, a.eval x)).toList.length = (ps.toList.map fun p => (p.1, evO ng t p.2)).length ∧
    ∀ (i : Nat) p q, (ps.toList.map fun p => (p.1, evO ng t p.2))[i]? = some p → (ps.map fun (i, x) => (i, a.eval x)).toList[i]? = some q → q.1 = p.1 ∧ Rv m.length g p.2 q.2 := by
  refine ⟨by simp, fun i p q h1 h2 => ?_⟩
  simp only [Array.toList_map, List.getElem?_map, Option.map_eq_some_iff] at h1 h2
  obtain ⟨⟨i1, o1⟩, e1, rfl⟩ := h1
  obtain ⟨⟨i2, o2⟩, e2, rfl⟩ := h2
  rw [e1] at e2; cases e2
  exact ⟨rfl, eval_Rv S o1⟩
theorem args_rel (S : Sim ng g t m a w) : ∀ os : List Operand, Rvs m.length g (os.map (evO ng t)) (os.map a.eval)
  | [] => by simp [Rvs]
  | o :: os => by simp only [List.map_cons, Rvs]; exact ⟨_, _, rfl, eval_Rv S o, args_rel S os⟩

theorem boundV_spec (S : Sim ng g t m a w) {lo hi d : Nat} {o : Option Operand} {K : Nat → Prop} (h : boundV ng t lo hi o d K) :
    (o = none ∧ K d) ∨ ∃ op k i, o = some op ∧ a.eval op = .int k (i : Nat) ∧ lo ≤ i ∧ i ≤ hi ∧ K i := by
  unfold boundV at h
  split at h
  · exact .inl ⟨rfl, h⟩
  · rename_i op
    split at h
    · rename_i k i he
      obtain ⟨h1, h2⟩ := br_F h
      simp only [decide_eq_true_eq] at h1
      have := eval_Rv S op
      rw [he] at this
      simp only [Rv] at this
      refine .inr ⟨op, k, i.toNat, rfl, by rw [this, Int.toNat_of_nonneg (by omega)], by omega, by omega, h2⟩
    · exact h.elim

theorem run_bound {x : Value} {k : IntKind} {i y : Nat} (code : BoundsCode) (hx : x = .int k (i : Nat)) (h : i ≤ y) : (Instr.sliceBound x y code).run P w = .ok i w := by
  subst hx
  simp only [Instr.sliceBound, asIntOf, Sem.run_bind, Sem.run_pure, Result.andThen_ok, Sem.run_ite]
  rw [if_pos (by omega)]
  simp
/-- The three bounds of a slice expression. -/
theorem bounds_sound (S : Sim ng g t m a w) {isSlice : Bool} {n cap d : Nat} {lo hi mx : Option Operand} {K : Nat → Nat → Nat → Prop} (hd : d ≤ n) (hc : n ≤ cap) (hm : ¬ (hi = none ∧ ∃ o, mx = some o))
    (h0 : boundV ng t 0 n mx n fun c => boundV ng t 0 c hi n fun h => boundV ng t 0 h lo 0 fun l => K c h l) :
    ∃ l h c m', (Instr.sliceBounds isSlice n cap (lo.map a.eval) (hi.map a.eval) (mx.map a.eval)).run P w = .ok (l, h, m') w ∧ K c h l ∧ l ≤ h ∧ h ≤ n ∧ h ≤ m' ∧ c ≤ n ∧ ((∃ o, mx = some o) → m' = c) := by
  rcases boundV_spec S h0 with ⟨rfl, h1⟩ | ⟨om, km, im, rfl, e1, _, l1, h1⟩
  · rcases boundV_spec S h1 with ⟨rfl, h2⟩ | ⟨oh, kh, ih, rfl, e2, _, l2, h2⟩
    · rcases boundV_spec S h2 with ⟨rfl, h3⟩ | ⟨ol, kl, il, rfl, e4, _, l4, h3⟩
      · exact ⟨0, n, n, cap, by simp [Instr.sliceBounds], h3, Nat.zero_le _, Nat.le_refl _, hc, Nat.le_refl _, fun ⟨_, h⟩ => nomatch h⟩
      · exact ⟨il, n, n, cap, by simp [Instr.sliceBounds, run_bound (P := P) (w := w) _ e4 l4], h3, l4, Nat.le_refl _, hc, Nat.le_refl _, fun ⟨_, h⟩ => nomatch h⟩
    · rcases boundV_spec S h2 with ⟨rfl, h3⟩ | ⟨ol, kl, il, rfl, e4, _, l4, h3⟩
      · exact ⟨0, ih, n, cap, by simp [Instr.sliceBounds, run_bound (P := P) (w := w) _ e2 (Nat.le_trans l2 hc)], h3, Nat.zero_le _, l2, Nat.le_trans l2 hc, Nat.le_refl _, fun ⟨_, h⟩ => nomatch h⟩
      · exact ⟨il, ih, n, cap, by simp [Instr.sliceBounds, run_bound (P := P) (w := w) _ e2 (Nat.le_trans l2 hc), run_bound (P := P) (w := w) _ e4 l4], h3, l4, l2, Nat.le_trans l2 hc, Nat.le_refl _, fun ⟨_, h⟩ => nomatch h⟩
  · rcases boundV_spec S h1 with ⟨rfl, h2⟩ | ⟨oh, kh, ih, rfl, e2, _, l2, h2⟩
    · exact absurd ⟨rfl, _, rfl⟩ hm
    · rcases boundV_spec S h2 with ⟨rfl, h3⟩ | ⟨ol, kl, il, rfl, e4, _, l4, h3⟩
      · refine ⟨0, ih, im, im, ?_, h3, Nat.zero_le _, Nat.le_trans l2 l1, l2, l1, fun _ => rfl⟩
        simp [Instr.sliceBounds, run_bound (P := P) (w := w) _ e1 (Nat.le_trans l1 hc), run_bound (P := P) (w := w) _ e2 l2]
      · refine ⟨il, ih, im, im, ?_, h3, l4, Nat.le_trans l2 l1, l2, l1, fun _ => rfl⟩
        simp [Instr.sliceBounds, run_bound (P := P) (w := w) _ e1 (Nat.le_trans l1 hc), run_bound (P := P) (w := w) _ e2 l2, run_bound (P := P) (w := w) _ e4 l4]
/-- The bounds, where the room is known. -/
theorem bounds_soundK (S : Sim ng g t m a w) {isSlice : Bool} {n cap : Nat} {lo hi mx : Option Operand} {K : Nat → Nat → Nat → Prop} (hc : n ≤ cap) (hm : ¬ (hi = none ∧ ∃ o, mx = some o))
    (h0 : boundV ng t 0 cap mx cap fun c => boundV ng t 0 c hi n fun h => boundV ng t 0 h lo 0 fun l => K c h l) :
    ∃ l h c, (Instr.sliceBounds isSlice n cap (lo.map a.eval) (hi.map a.eval) (mx.map a.eval)).run P w = .ok (l, h, c) w ∧ K c h l ∧ l ≤ h ∧ h ≤ c ∧ c ≤ cap := by
  rcases boundV_spec S h0 with ⟨rfl, h1⟩ | ⟨om, km, im, rfl, e1, _, l1, h1⟩
  · rcases boundV_spec S h1 with ⟨rfl, h2⟩ | ⟨oh, kh, ih, rfl, e2, _, l2, h2⟩
    · rcases boundV_spec S h2 with ⟨rfl, h3⟩ | ⟨ol, kl, il, rfl, e4, _, l4, h3⟩
      · exact ⟨0, n, cap, by simp [Instr.sliceBounds], h3, Nat.zero_le _, hc, Nat.le_refl _⟩
      · exact ⟨il, n, cap, by simp [Instr.sliceBounds, run_bound (P := P) (w := w) _ e4 l4], h3, l4, hc, Nat.le_refl _⟩
    · rcases boundV_spec S h2 with ⟨rfl, h3⟩ | ⟨ol, kl, il, rfl, e4, _, l4, h3⟩
      · exact ⟨0, ih, cap, by simp [Instr.sliceBounds, run_bound (P := P) (w := w) _ e2 l2], h3, Nat.zero_le _, l2, Nat.le_refl _⟩
      · exact ⟨il, ih, cap, by simp [Instr.sliceBounds, run_bound (P := P) (w := w) _ e2 l2, run_bound (P := P) (w := w) _ e4 l4], h3, l4, l2, Nat.le_refl _⟩
  · rcases boundV_spec S h1 with ⟨rfl, h2⟩ | ⟨oh, kh, ih, rfl, e2, _, l2, h2⟩
    · exact absurd ⟨rfl, _, rfl⟩ hm
    · rcases boundV_spec S h2 with ⟨rfl, h3⟩ | ⟨ol, kl, il, rfl, e4, _, l4, h3⟩
      · refine ⟨0, ih, im, ?_, h3, Nat.zero_le _, l2, l1⟩
        simp [Instr.sliceBounds, run_bound (P := P) (w := w) _ e1 l1, run_bound (P := P) (w := w) _ e2 l2]
      · refine ⟨il, ih, im, ?_, h3, l4, l2, l1⟩
        simp [Instr.sliceBounds, run_bound (P := P) (w := w) _ e1 l1, run_bound (P := P) (w := w) _ e2 l2, run_bound (P := P) (w := w) _ e4 l4]
end
end Go.Eng
