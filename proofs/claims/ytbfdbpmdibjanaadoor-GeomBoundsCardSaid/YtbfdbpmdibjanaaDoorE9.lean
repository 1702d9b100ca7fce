/- The engine, part 9: one operation, whatever it is. No condition. -/
import Derived.Test.YtbfdbpmdibjanaaDoorE8
namespace Go.Eng
open Go
section
variable {P : Program} {ng : Nat} {g : Nat → Pl} {t : List V} {m : List Blk} {a : Act} {w : World} {K : V → List Blk → Prop}

theorem zeros_get {k : IntKind} {n j : Nat} : (B.ints k (List.replicate n 0)).get j = if j < n then some (.int k 0) else none := by
  simp only [B.get, List.getElem?_replicate]
  split <;> simp
theorem zerosf_get {n j : Nat} : (B.flts (List.replicate n 0)).get j = if j < n then some (.fl (some 0)) else none := by
  simp only [B.get, List.getElem?_replicate]
  split <;> simp
theorem zerosb_get {n j : Nat} : (B.bools (List.replicate n false)).get j = if j < n then some (.bool false) else none := by
  simp only [B.get, List.getElem?_replicate]
  split <;> simp
theorem zkind_int : ∀ (l : List V) (k : IntKind), zkind l = .int k → allZero l = true → ∀ v ∈ l, v = .int k 0
  | [], k, h, _ => by simp [zkind] at h
  | [.int k' a], k, h, hz => by
    simp only [zkind, Zero.int.injEq] at h; subst h
    unfold allZero at hz
    split at hz <;> simp_all
  | .int k' a :: b :: l, k, h, hz => by
    simp only [zkind] at h
    split at h
    · rename_i k'' hk
      split at h
      · rename_i hs
        simp only [Zero.int.injEq] at h; subst h
        have := sameKind_eq hs; subst this
        have hz2 : allZero (b :: l) = true ∧ a = 0 := by
          rw [allZero.eq_def] at hz
          split at hz <;> simp_all
        intro v hv
        cases hv with
        | head => rw [hz2.2]
        | tail _ hv => exact zkind_int (b :: l) _ hk hz2.1 v hv
      · exact absurd h (by simp)
    · exact absurd h (by simp)
  | .bool _ :: l, k, h, _ => by cases l <;> simp [zkind] at h
  | .fl _ :: l, k, h, _ => by
    cases l with
    | nil => simp [zkind] at h
    | cons b l => simp only [zkind] at h; split at h <;> simp at h
  | .raw _ :: l, k, h, _ => by cases l <;> simp [zkind] at h
  | .ptr _ _ :: l, k, h, _ => by cases l <;> simp [zkind] at h
  | .sl _ _ _ :: l, k, h, _ => by cases l <;> simp [zkind] at h
  | .agg _ :: l, k, h, _ => by cases l <;> simp [zkind] at h
  | .tup _ :: l, k, h, _ => by cases l <;> simp [zkind] at h
  | .clo _ _ _ :: l, k, h, _ => by cases l <;> simp [zkind] at h
  | .gp _ _ _ :: l, k, h, _ => by cases l <;> simp [zkind] at h
  | .gs _ _ _ _ :: l, k, h, _ => by cases l <;> simp [zkind] at h
  | .mp _ :: l, k, h, _ => by cases l <;> simp [zkind] at h
  | .any :: l, k, h, _ => by cases l <;> simp [zkind] at h
  | .sk _ _ _ _ :: l, k, h, _ => by cases l <;> simp [zkind] at h
theorem zkind_fl : ∀ (l : List V), zkind l = .fl → allZero l = true → ∀ v ∈ l, v = .fl (some 0)
  | [], h, _ => by simp [zkind] at h
  | [.fl a], h, hz => by
    unfold allZero at hz
    split at hz <;> simp_all
  | .fl a :: b :: l, h, hz => by
    simp only [zkind] at h
    split at h
    · rename_i hk
      have hz2 : allZero (b :: l) = true ∧ a = some 0 := by
        rw [allZero.eq_def] at hz
        split at hz <;> simp_all
      intro v hv
      cases hv with
      | head => rw [hz2.2]
      | tail _ hv => exact zkind_fl (b :: l) hk hz2.1 v hv
    · exact absurd h (by simp)
  | .int _ _ :: l, h, _ => by
    cases l with
    | nil => simp [zkind] at h
    | cons b l => simp only [zkind] at h; split at h <;> (try split at h) <;> simp at h
  | .bool _ :: l, h, _ => by cases l <;> simp [zkind] at h
  | .raw _ :: l, h, _ => by cases l <;> simp [zkind] at h
  | .ptr _ _ :: l, h, _ => by cases l <;> simp [zkind] at h
  | .sl _ _ _ :: l, h, _ => by cases l <;> simp [zkind] at h
  | .agg _ :: l, h, _ => by cases l <;> simp [zkind] at h
  | .tup _ :: l, h, _ => by cases l <;> simp [zkind] at h
  | .clo _ _ _ :: l, h, _ => by cases l <;> simp [zkind] at h
  | .gp _ _ _ :: l, h, _ => by cases l <;> simp [zkind] at h
  | .gs _ _ _ _ :: l, h, _ => by cases l <;> simp [zkind] at h
  | .mp _ :: l, h, _ => by cases l <;> simp [zkind] at h
  | .any :: l, h, _ => by cases l <;> simp [zkind] at h
  | .sk _ _ _ _ :: l, h, _ => by cases l <;> simp [zkind] at h
theorem zkind_bool : ∀ (l : List V), zkind l = .bool → allZero l = true → l = [.bool false]
  | [], h, _ => by simp [zkind] at h
  | [.bool b], h, hz => by cases b <;> simp_all [allZero]
  | .bool _ :: b :: l, h, _ => by simp [zkind] at h
  | .fl _ :: l, h, _ => by
    cases l with
    | nil => simp [zkind] at h
    | cons b l => simp only [zkind] at h; split at h <;> simp at h
  | .int _ _ :: l, h, _ => by
    cases l with
    | nil => simp [zkind] at h
    | cons b l => simp only [zkind] at h; split at h <;> (try split at h) <;> simp at h
  | .raw _ :: l, h, _ => by cases l <;> simp [zkind] at h
  | .ptr _ _ :: l, h, _ => by cases l <;> simp [zkind] at h
  | .sl _ _ _ :: l, h, _ => by cases l <;> simp [zkind] at h
  | .agg _ :: l, h, _ => by cases l <;> simp [zkind] at h
  | .tup _ :: l, h, _ => by cases l <;> simp [zkind] at h
  | .clo _ _ _ :: l, h, _ => by cases l <;> simp [zkind] at h
  | .gp _ _ _ :: l, h, _ => by cases l <;> simp [zkind] at h
  | .gs _ _ _ _ :: l, h, _ => by cases l <;> simp [zkind] at h
  | .mp _ :: l, h, _ => by cases l <;> simp [zkind] at h
  | .any :: l, h, _ => by cases l <;> simp [zkind] at h
  | .sk _ _ _ _ :: l, h, _ => by cases l <;> simp [zkind] at h

theorem zrow_sound {n : Nat} {e : TypeId} {c : Nat} {K : B → Prop} (h : zrow P e c K) (w : World) :
    ∃ b z, (zeroValue e).run P w = .ok z w ∧ K b ∧ b.plain = true ∧ ∀ (j : Nat) (v : V), b.get j = some v → ∃ x, ((Array.range (c * P.cellsOf e)).map (z.cells[· % z.cells.size]!))[j]? = some x ∧ Rv n g v x := by
  unfold zrow at h
  cases hz : zeroL P e with
  | none => simp [hz] at h
  | some zl =>
    simp only [hz] at h
    obtain ⟨z, h1, h2⟩ := run_zeroValue w hz
    have hr := h2 n g
    have hlen := Rvs_length hr
    rw [Array.length_toList] at hlen
    have key : ∀ (j : Nat) (v : V), j < c * P.cellsOf e → zl ≠ [] → (∀ u ∈ zl, u = v) → ∃ x, ((Array.range (c * P.cellsOf e)).map (z.cells[· % z.cells.size]!))[j]? = some x ∧ Rv n g v x := by
      intro j v hj hne hall
      have hpos : 0 < zl.length := by cases zl <;> simp_all
      have hjm : j % z.cells.size < z.cells.size := Nat.mod_lt _ (by omega)
      obtain ⟨x, hx, hrx⟩ := Rvs_get hr (i := j % z.cells.size) (v := zl[j % z.cells.size]'(by omega)) (by simp)
      have hv : zl[j % z.cells.size]'(by omega) = v := hall _ (List.getElem_mem _)
      rw [hv] at hrx
      refine ⟨x, ?_, hrx⟩
      rw [Array.getElem?_map, Array.getElem?_range, if_pos hj]
      simp only [Option.map_some, Option.some.injEq]
      rw [getElem!_pos z.cells _ hjm]
      have : z.cells[j % z.cells.size]? = some x := by simpa using hx
      rw [Array.getElem?_eq_getElem hjm] at this
      exact Option.some.inj this
    split at h
    · rename_i k ha hk
      refine ⟨_, z, h1, h, rfl, fun j v hv => ?_⟩
      rw [zeros_get] at hv
      split at hv
      · rename_i hj
        simp only [Option.some.injEq] at hv; subst hv
        exact key j _ hj (by rintro rfl; simp [zkind] at hk) (zkind_int zl k hk ha)
      · exact absurd hv (by simp)
    · rename_i ha hk
      refine ⟨_, z, h1, h, rfl, fun j v hv => ?_⟩
      rw [zerosf_get] at hv
      split at hv
      · rename_i hj
        simp only [Option.some.injEq] at hv; subst hv
        exact key j _ hj (by rintro rfl; simp [zkind] at hk) (zkind_fl zl hk ha)
      · exact absurd hv (by simp)
    · rename_i ha hk
      refine ⟨_, z, h1, h, rfl, fun j v hv => ?_⟩
      rw [zerosb_get] at hv
      split at hv
      · rename_i hj
        simp only [Option.some.injEq] at hv; subst hv
        have := zkind_bool zl hk ha
        exact key j _ hj (by rw [this]; simp) (by rw [this]; simp)
      · exact absurd hv (by simp)
    · exact h.elim

theorem maxV_sound {n : Nat} (gt : Bool) : ∀ (l : List V) (x : V) {K : V → Prop} (xs : List Value) (xv : Value), Rvs n g l xs → Rv n g x xv → (∃ k a, x = .int k a) → maxV gt l x K → ∀ w, 
    ∃ v r, ((xs.foldlM (if gt then Builtin.max2 else Builtin.min2) xv).run P w) = .ok r w ∧ Rv n g v r ∧ K v
  | [], x, K, xs, xv, hr, hx, _, h, w => by
    simp [Rvs] at hr; subst hr
    have h : K x := h
    exact ⟨x, xv, by simp, hx, h⟩
  | .int k' b :: l, x, K, xs, xv, hr, hx, ⟨k, a, e⟩, h, w => by
    subst e
    obtain ⟨h1, h2⟩ := br_F h
    have := sameKind_eq h1; subst this
    simp only [Rvs] at hr
    obtain ⟨y, ys, rfl, e1, e2⟩ := hr
    simp only [Rv] at e1 hx
    subst e1; subst hx
    cases gt with
    | true =>
      obtain ⟨v, r, q1, q2, q3⟩ := maxV_sound true l _ ys _ e2 (Rv_int k' _) ⟨_, _, rfl⟩ h2 w
      refine ⟨v, r, ?_, q2, q3⟩
      simp only [if_true] at q1
      simp only [List.foldlM_cons, if_true, Sem.run_bind, Builtin.max2, Sem.run_pure, Result.andThen_ok]
      exact q1
    | false =>
      obtain ⟨v, r, q1, q2, q3⟩ := maxV_sound false l _ ys _ e2 (Rv_int k' _) ⟨_, _, rfl⟩ h2 w
      refine ⟨v, r, ?_, q2, q3⟩
      simp only [Bool.false_eq_true, if_false] at q1
      simp only [List.foldlM_cons, Bool.false_eq_true, if_false, Sem.run_bind, Builtin.min2, Sem.run_pure, Result.andThen_ok]
      exact q1
  | .bool _ :: _, x, _, _, _, _, _, ⟨_, _, e⟩, h, _ => by subst e; exact h.elim
  | .fl _ :: _, x, _, _, _, _, _, ⟨_, _, e⟩, h, _ => by subst e; exact h.elim
  | .raw _ :: _, x, _, _, _, _, _, ⟨_, _, e⟩, h, _ => by subst e; exact h.elim
  | .ptr _ _ :: _, x, _, _, _, _, _, ⟨_, _, e⟩, h, _ => by subst e; exact h.elim
  | .sl _ _ _ :: _, x, _, _, _, _, _, ⟨_, _, e⟩, h, _ => by subst e; exact h.elim
  | .agg _ :: _, x, _, _, _, _, _, ⟨_, _, e⟩, h, _ => by subst e; exact h.elim
  | .tup _ :: _, x, _, _, _, _, _, ⟨_, _, e⟩, h, _ => by subst e; exact h.elim
  | .clo _ _ _ :: _, x, _, _, _, _, _, ⟨_, _, e⟩, h, _ => by subst e; exact h.elim
  | .gp _ _ _ :: _, x, _, _, _, _, _, ⟨_, _, e⟩, h, _ => by subst e; exact h.elim
  | .gs _ _ _ _ :: _, x, _, _, _, _, _, ⟨_, _, e⟩, h, _ => by subst e; exact h.elim
  | .mp _ :: _, x, _, _, _, _, _, ⟨_, _, e⟩, h, _ => by subst e; exact h.elim
  | .any :: _, x, _, _, _, _, _, ⟨_, _, e⟩, h, _ => by subst e; exact h.elim
  | .sk _ _ _ _ :: _, x, _, _, _, _, _, ⟨_, _, e⟩, h, _ => by subst e; exact h.elim
end
end Go.Eng
