/- The engine, part 4: memory: what is read, what is written, what is made. No condition. -/
import Derived.Test.YtbfdbpmdibjanaaDoorE3
namespace Go.Eng
open Go

theorem ints_get {k : IntKind} {l : List Int} {off : Nat} (h : off < l.length) : (B.ints k l).get off = some (.int k (l.getD off 0)) := by
  simp [B.get, h]
theorem flts_get {l : List Nat} {off : Nat} (h : off < l.length) : (B.flts l).get off = some (.fl (some (l.getD off 0))) := by
  simp [B.get, h]
theorem bools_get {l : List Bool} {off : Nat} (h : off < l.length) : (B.bools l).get off = some (.bool (l.getD off false)) := by
  simp [B.get, h]

theorem rd1_spec {b : B} {off : Nat} {K : V → Prop} (h : rd1 b off K) : ∃ v, b.get off = some v ∧ K v := by
  cases b with
  | dead => exact h.elim
  | cells cs =>
    obtain ⟨h1, h2⟩ := br_F h
    rw [ltL_eq] at h1
    rw [fV_eq, getT_eq] at h2
    have h1 : off < cs.length := by simpa using h1
    exact ⟨_, by simp [B.get, h1, List.getD_eq_getElem?_getD], h2⟩
  | ints k l =>
    obtain ⟨h1, h2⟩ := br_F h
    exact ⟨_, ints_get (by simpa using h1), h2⟩
  | flts l =>
    obtain ⟨h1, h2⟩ := br_F h
    exact ⟨_, flts_get (by simpa using h1), h2⟩
  | bools l =>
    obtain ⟨h1, h2⟩ := br_F h
    exact ⟨_, bools_get (by simpa using h1), h2⟩
  | gcells w cs =>
    obtain ⟨h1, h2⟩ := br_F h
    rw [ltL_eq] at h1
    rw [fV_eq, getT_eq] at h2
    have h1 : off < cs.length := by simpa using h1
    exact ⟨_, by simp [B.get, h1, List.getD_eq_getElem?_getD], h2⟩
  | gints w k l =>
    obtain ⟨h1, h2⟩ := br_F h
    exact ⟨_, ints_get (k := k) (by simpa using h1), h2⟩
  | gflts w l =>
    obtain ⟨h1, h2⟩ := br_F h
    exact ⟨_, flts_get (by simpa using h1), h2⟩
  | mpI f => exact h.elim

theorem rdN_spec {b : B} : ∀ (n : Nat) {off : Nat} {K : List V → Prop}, rdN b off n K →
    ∃ vs, vs.length = n ∧ (∀ (j : Nat) (v : V), vs[j]? = some v → b.get (off + j) = some v) ∧ K vs
  | 0, off, K, h => ⟨[], rfl, by simp, h⟩
  | n + 1, off, K, h => by
    obtain ⟨v, h1, h2⟩ := rd1_spec h
    obtain ⟨vs, h3, h4, h5⟩ := rdN_spec n h2
    refine ⟨v :: vs, by simp [h3], fun j u hu => ?_, h5⟩
    cases j with
    | zero => simp at hu; subst hu; exact h1
    | succ j => simp at hu; have := h4 j u hu; rwa [Nat.add_right_comm, Nat.add_assoc] at this

theorem one_of {n : Nat} {g : Nat → Pl} {v : V} {x : Value} (h : v.one = true) (hr : Rv n g v x) : x.oneCell' = true := by
  cases v with
  | raw v => simp only [Rv] at hr; subst hr; cases x <;> simp_all [V.one, Value.oneCell']
  | bool b => simp only [Rv] at hr; subst hr; rfl
  | int k b => simp only [Rv] at hr; subst hr; rfl
  | fl o => simp only [Rv] at hr; obtain ⟨_, _, rfl⟩ := hr; rfl
  | ptr i o => simp only [Rv] at hr; obtain ⟨_, _, rfl⟩ := hr; rfl
  | sl i o l => simp only [Rv] at hr; obtain ⟨_, _, _, _, rfl, _⟩ := hr; rfl
  | gp i v o => simp only [Rv] at hr; obtain ⟨_, _, _, rfl, _⟩ := hr; rfl
  | gs i v e l => simp only [Rv] at hr; obtain ⟨_, _, _, _, rfl, _⟩ := hr; rfl
  | mp i => simp only [Rv] at hr; obtain ⟨_, _, rfl⟩ := hr; rfl
  | sk i o l c => simp only [Rv] at hr; obtain ⟨_, _, _, rfl, _⟩ := hr; rfl
  | agg cs => simp [V.one] at h
  | any => simp [V.one] at h
  | tup cs => simp [V.one] at h
  | clo a b c => simp only [Rv] at hr; obtain ⟨_, _, rfl, _⟩ := hr; rfl

theorem wr1_spec {b : B} {off : Nat} {v : V} {K : B → Prop} (h : wr1 b off v K) :
    ∃ b', K b' ∧ (∃ u, b.get off = some u) ∧ v.one = true ∧ (∀ j, b'.get j = if j = off then some v else b.get j) ∧ b.row = true ∧ b'.row = true ∧ b'.vof = b.vof := by
  cases b with
  | dead => cases v <;> exact h.elim
  | cells cs =>
    have h : br (ltL off cs && v.one) (setT cs off v fun cs => K (.cells cs)) False := by cases v <;> exact h
    obtain ⟨h1, h2⟩ := br_F h
    rw [ltL_eq] at h1
    simp only [Bool.and_eq_true, decide_eq_true_eq] at h1
    rw [setT_eq] at h2
    refine ⟨_, h2, ⟨cs[off], by simp [B.get, h1.1]⟩, h1.2, fun j => ?_, rfl, rfl, rfl⟩
    simp only [B.get, List.getElem?_set]
    by_cases hj : off = j
    · subst hj; simp [h1.1]
    · simp [hj, Ne.symm hj]
  | gcells w cs =>
    have h : br (ltL off cs && v.one) (setT cs off v fun cs => K (.gcells w cs)) False := by cases v <;> exact h
    obtain ⟨h1, h2⟩ := br_F h
    rw [ltL_eq] at h1
    simp only [Bool.and_eq_true, decide_eq_true_eq] at h1
    rw [setT_eq] at h2
    refine ⟨_, h2, ⟨cs[off], by simp [B.get, h1.1]⟩, h1.2, fun j => ?_, rfl, rfl, rfl⟩
    simp only [B.get, List.getElem?_set]
    by_cases hj : off = j
    · subst hj; simp [h1.1]
    · simp [hj, Ne.symm hj]
  | gints w k l =>
    cases v with
    | int k' a =>
      obtain ⟨h1, h2⟩ := br_F h
      simp only [Bool.and_eq_true] at h1
      have hk := sameKind_eq h1.1
      replace h1 : off < l.length := by simpa using h1.2
      subst hk
      refine ⟨_, h2, ⟨_, ints_get (k := k') h1⟩, rfl, fun j => ?_, rfl, rfl, rfl⟩
      simp only [B.get, List.getElem?_set]
      by_cases hj : off = j
      · subst hj; simp [h1]
      · simp [hj, Ne.symm hj]
    | _ => exact h.elim
  | gflts w l =>
    cases v with
    | fl o =>
      cases o with
      | none => exact h.elim
      | some b =>
        obtain ⟨h1, h2⟩ := br_F h
        have h1 : off < l.length := by simpa using h1
        refine ⟨_, h2, ⟨_, flts_get h1⟩, rfl, fun j => ?_, rfl, rfl, rfl⟩
        simp only [B.get, List.getElem?_set]
        by_cases hj : off = j
        · subst hj; simp [h1]
        · simp [hj, Ne.symm hj]
    | _ => exact h.elim
  | mpI f => cases v <;> exact h.elim
  | ints k l =>
    cases v with
    | int k' a =>
      obtain ⟨h1, h2⟩ := br_F h
      simp only [Bool.and_eq_true] at h1
      have hk := sameKind_eq h1.1
      replace h1 : off < l.length := by simpa using h1.2
      subst hk
      refine ⟨_, h2, ⟨_, ints_get h1⟩, rfl, fun j => ?_, rfl, rfl, rfl⟩
      simp only [B.get, List.getElem?_set]
      by_cases hj : off = j
      · subst hj; simp [h1]
      · simp [hj, Ne.symm hj]
    | _ => exact h.elim
  | flts l =>
    cases v with
    | fl o =>
      cases o with
      | none => exact h.elim
      | some b =>
        obtain ⟨h1, h2⟩ := br_F h
        have h1 : off < l.length := by simpa using h1
        refine ⟨_, h2, ⟨_, flts_get h1⟩, rfl, fun j => ?_, rfl, rfl, rfl⟩
        simp only [B.get, List.getElem?_set]
        by_cases hj : off = j
        · subst hj; simp [h1]
        · simp [hj, Ne.symm hj]
    | _ => exact h.elim
  | bools l =>
    cases v with
    | bool b =>
      obtain ⟨h1, h2⟩ := br_F h
      have h1 : off < l.length := by simpa using h1
      refine ⟨_, h2, ⟨_, bools_get h1⟩, rfl, fun j => ?_, rfl, rfl, rfl⟩
      simp only [B.get, List.getElem?_set]
      by_cases hj : off = j
      · subst hj; simp [h1]
      · simp [hj, Ne.symm hj]
    | _ => exact h.elim

section
variable {P : Program}

/-- Cells read one by one. -/
theorem run_loadCellsFrom (w : World) (a : Addr) : ∀ (xs : List Value) (i : Nat) (acc : Array Value), (∀ (j : Nat) (x : Value), xs[j]? = some x → w.cell? (a.add (i + j)) = some x) →
    (loadCellsFrom a i xs.length acc).run P w = .ok (acc ++ xs.toArray) w
  | [], i, acc, _ => by simp [loadCellsFrom]
  | x :: xs, i, acc, h => by
    have h0 := h 0 x rfl
    simp only [List.length_cons, loadCellsFrom, Sem.run_bind, run_load]
    simp only [Nat.add_zero] at h0
    rw [h0]
    simp only [Result.andThen_ok]
    rw [run_loadCellsFrom w a xs (i + 1) (acc.push x) (fun j y hy => by have := h (j + 1) y (by simpa using hy); rwa [Nat.add_assoc, Nat.add_comm 1 j])]
    simp

theorem Addr_add (b off n : Nat) : (Addr.add ⟨b, off, none⟩ n) = ⟨b, off + n, none⟩ := by
  unfold Addr.add; split <;> simp_all

theorem run_underlying' {t : TypeId} {d : TypeDesc} (w : World) (h : P.underlying t = some d) : (underlying t).run P w = .ok d w := by
  simp [underlying, h]
theorem run_isAgg {t : TypeId} {d : TypeDesc} (w : World) (h : P.underlying t = some d) : (isAgg t).run P w = .ok (isAggD (some d)) w := by
  simp only [isAgg, Sem.run_bind, run_underlying' w h, Result.andThen_ok]
  cases d <;> rfl
theorem run_sizeOf {t : TypeId} {i : TypeInfo} (w : World) (h : P.info? t = some i) : (sizeOf t).run P w = .ok (P.cellsOf t) w := by
  simp [sizeOf, typeInfo, h, Program.cellsOf]
theorem info_of_underlying {t : TypeId} {d : TypeDesc} (h : P.underlying t = some d) : ∃ i, P.info? t = some i := by
  unfold Program.underlying at h
  cases hi : P.info? t with
  | none => simp [hi] at h
  | some i => exact ⟨i, rfl⟩
theorem run_sizeOf' {t : TypeId} {d : TypeDesc} (w : World) (h : P.underlying t = some d) : (sizeOf t).run P w = .ok (P.cellsOf t) w := by
  obtain ⟨i, hi⟩ := info_of_underlying h
  exact run_sizeOf w hi
theorem run_bytes {t : TypeId} {d : TypeDesc} (w : World) (h : P.underlying t = some d) : ∃ i, (typeInfo t).run P w = .ok i w ∧ i.bytes = P.bytesOf t := by
  obtain ⟨i, hi⟩ := info_of_underlying h
  exact ⟨i, by simp [typeInfo, hi], by simp [Program.bytesOf, hi]⟩
theorem run_zeroValue {t : TypeId} {z : List V} (w : World) (h : zeroL P t = some z) : ∃ x, (zeroValue t).run P w = .ok x w ∧ ∀ n g, Rvs n g z x.cells.toList := by
  unfold zeroL at h
  cases hi : P.info? t with
  | none => simp [hi] at h
  | some i =>
    simp only [hi] at h
    cases hz : i.zero with
    | none => simp [hz] at h
    | some x =>
      simp only [hz, Option.some.injEq] at h
      subst h
      exact ⟨x, by simp [zeroValue, typeInfo, hi, hz], fun n g => Rvs_ofVals _⟩

theorem getB_some {m : List Blk} {i : Nat} (h : (getB m i).b.live = true ∨ (getB m i).w = true) : m[i]? = some (getB m i) := by
  rw [getB_eq] at *
  rcases Nat.lt_or_ge i m.length with hi | hi
  · simp [List.getD_eq_getElem?_getD, hi]
  · rw [List.getD_eq_getElem?_getD, List.getElem?_eq_none hi] at h
    simp [B.live] at h
theorem live_of_get {b : B} {j : Nat} {v : V} (h : b.get j = some v) : b.live = true := by
  cases b <;> first | rfl | (simp [B.get] at h)
theorem live_of_row {b : B} (h : b.row = true) : b.live = true := by
  cases b <;> first | rfl | exact h

/-- A load. -/
theorem loadV_sound {ng : Nat} {g : Nat → Pl} {t : List V} {m : List Blk} {a : Act} {w : World} (S : Sim ng g t m a w) {ty : TypeId} {p : V} {x : Value} {K : V → Prop}
    (hp : Rv m.length g p x) (h : loadV P ty p m K) : ∃ v y, (Instr.loadAt ty x).run P w = .ok y w ∧ Rv m.length g v y ∧ K v := by
  have key : ∀ (i off : Nat), x = .pointer (some ⟨(g i).1, (g i).2 + off, none⟩) → (match isAggD (P.underlying ty) with
      | true => rdN (getB m i).b off (P.cellsOf ty) fun cs => K (.agg cs)
      | false => match P.underlying ty with
        | some _ => rd1 (getB m i).b off K
        | none => False) → ∃ v y, (Instr.loadAt ty x).run P w = .ok y w ∧ Rv m.length g v y ∧ K v := by
    rintro i off rfl h
    cases hu : P.underlying ty with
    | none => simp [hu, isAggD] at h
    | some d =>
      simp only [hu] at h
      simp only [Instr.loadAt, Instr.sureAddr, loadVar, Sem.run_bind, Sem.run_pure, Result.andThen_ok, run_isAgg w hu]
      cases hag : isAggD (some d) with
      | true =>
        simp only [hag] at h
        obtain ⟨vs, h1, h2, h3⟩ := rdN_spec _ h
        simp only [if_true, Sem.run_bind, run_sizeOf' w hu, Result.andThen_ok]
        have hex : ∃ xs : List Value, xs.length = P.cellsOf ty ∧ (∀ (j : Nat) (y : Value), xs[j]? = some y → w.cell? ((Addr.mk (g i).1 ((g i).2 + off) none).add (0 + j)) = some y) ∧ Rvs m.length g vs xs := by
          have key : ∀ (us : List V) (k : Nat), (∀ (j : Nat) (v : V), us[j]? = some v → (getB m i).b.get (off + (k + j)) = some v) → ∃ xs : List Value, xs.length = us.length ∧ (∀ (j : Nat) (y : Value), xs[j]? = some y → w.cell? ((Addr.mk (g i).1 ((g i).2 + off) none).add (k + j)) = some y) ∧ Rvs m.length g us xs := by
            intro us
            induction us with
            | nil => intro k _; exact ⟨[], rfl, by simp, by simp [Rvs]⟩
            | cons u us ih =>
              intro k hk
              have h0 := hk 0 u rfl
              have hb := getB_some (.inl (live_of_get h0))
              obtain ⟨y, hy, hr⟩ := (S.rep.blk i _ hb).cell _ _ h0
              obtain ⟨ys, q1, q2, q3⟩ := ih (k + 1) (fun j v hv => by have := hk (j + 1) v (by simpa using hv); rwa [show k + 1 + j = k + (j + 1) by omega])
              refine ⟨y :: ys, by simp [q1], fun j z hz => ?_, by simp only [Rvs]; exact ⟨y, ys, rfl, hr, q3⟩⟩
              cases j with
              | zero => simp at hz; subst hz; rw [Addr_add, Nat.add_assoc]; exact hy
              | succ j => simp at hz; have := q2 j z hz; rwa [show k + 1 + j = k + (j + 1) by omega] at this
          obtain ⟨xs, q1, q2, q3⟩ := key vs 0 (fun j v hv => by have := h2 j v hv; simpa using this)
          exact ⟨xs, by rw [q1, h1], q2, q3⟩
        obtain ⟨xs, q1, q2, q3⟩ := hex
        refine ⟨.agg vs, .agg xs.toArray, ?_, ?_, h3⟩
        · have := run_loadCellsFrom (P := P) w ⟨(g i).1, (g i).2 + off, none⟩ xs 0 #[] q2
          simp only [loadCells, ← q1, this, Result.andThen_ok, Sem.run_pure]
          simp
        · simp only [Rv]; exact ⟨_, rfl, by simpa using q3⟩
      | false =>
        simp only [hag] at h
        obtain ⟨v, h1, h2⟩ := rd1_spec h
        have hb := getB_some (.inl (live_of_get h1))
        obtain ⟨y, hy, hr⟩ := (S.rep.blk i _ hb).cell _ _ h1
        refine ⟨v, y, ?_, hr, h2⟩
        have hy' : w.cell? ⟨(g i).1, (g i).2 + off, none⟩ = some y := hy
        simp [hy']
  unfold loadV at h
  cases p with
  | ptr i off =>
    simp only [Rv] at hp
    exact key i off hp.2.2 h
  | gp i v off =>
    simp only [Rv] at hp
    obtain ⟨hi, hv, a, hx, ha⟩ := hp
    obtain ⟨e, h⟩ := h
    have hb := getB_some (m := m) (i := i) (.inl (by
      cases hb : (getB m i).b <;> rw [hb] at e <;> first | rfl | (simp [B.vof] at e)))
    rw [ha (by rw [← e]; exact (S.rep.blk i _ hb).ver)] at hx
    exact key i off hx h
  | _ => exact h.elim

end
end Go.Eng
