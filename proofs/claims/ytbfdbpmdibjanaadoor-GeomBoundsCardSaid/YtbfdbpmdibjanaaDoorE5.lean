/- The engine, part 5: memory that is written, and memory that is made. No condition. -/
import Derived.Test.YtbfdbpmdibjanaaDoorE4
namespace Go.Eng
open Go

theorem frozen_congr {w w' : World} {a : Addr} (h : w'.heap[a.block]? = w.heap[a.block]?) : w'.frozen? a = w.frozen? a := by
  unfold World.frozen?; rw [h]
theorem cell_congr {w w' : World} {a : Addr} (h : w'.heap[a.block]? = w.heap[a.block]?) : w'.cell? a = w.cell? a := by
  unfold World.cell?; rw [h]
/-- 'w'' is 'w' but for the cells of block 'b'. -/
structure Wrote (b : Nat) (w w' : World) : Prop where
  os : w'.os = w.os
  tape : w'.tape = w.tape
  output : w'.output = w.output
  size : w'.heap.size = w.heap.size
  other : ∀ p, p ≠ b → w'.heap[p]? = w.heap[p]?
  frozen : ∀ a, w'.frozen? a = w.frozen? a

theorem Wrote.refl (b : Nat) (w : World) : Wrote b w w := ⟨rfl, rfl, rfl, rfl, fun _ _ => rfl, fun _ => rfl⟩
theorem Wrote.trans {b : Nat} {w w1 w2 : World} (h : Wrote b w w1) (h' : Wrote b w1 w2) : Wrote b w w2 :=
  ⟨h'.os.trans h.os, h'.tape.trans h.tape, h'.output.trans h.output, h'.size.trans h.size, fun p hp => (h'.other p hp).trans (h.other p hp), fun a => (h'.frozen a).trans (h.frozen a)⟩

theorem setCell_heap (w : World) (b o : Nat) (v : Value) (p : Nat) : (w.setCell ⟨b, o, none⟩ v).heap[p]? = if p = b then (w.heap[p]?).map (fun | .cells c e f => .cells (c.setIfInBounds o v) e f | x => x) else w.heap[p]? := by
  simp only [World.setCell, Array.getElem?_modify]
  by_cases h : b = p
  · subst h; cases w.heap[b]? with
    | none => simp
    | some x => cases x <;> simp
  · simp [h, Ne.symm h]
theorem setCell_wrote (w : World) (b o : Nat) (v : Value) : Wrote b w (w.setCell ⟨b, o, none⟩ v) := by
  refine ⟨rfl, rfl, rfl, by simp [World.setCell], fun p hp => by rw [setCell_heap, if_neg hp], fun a => ?_⟩
  unfold World.frozen?
  rw [setCell_heap]
  by_cases h : a.block = b
  · rw [if_pos h]
    cases hb : w.heap[a.block]? with
    | none => rfl
    | some x => cases x <;> rfl
  · rw [if_neg h]
theorem setCell_cell (w : World) (b o : Nat) (v : Value) (j : Nat) : (w.setCell ⟨b, o, none⟩ v).cell? ⟨b, j, none⟩ = if j = o then (w.cell? ⟨b, j, none⟩).map (fun _ => v) else w.cell? ⟨b, j, none⟩ := by
  unfold World.cell?
  rw [setCell_heap]
  simp only [if_true]
  cases hb : w.heap[b]? with
  | none => simp
  | some x =>
    cases x <;> simp
    rename_i c e f
    rw [Array.getElem?_setIfInBounds]
    by_cases h : j = o
    · subst h
      by_cases hj : j < c.size
      · simp [hj]
      · simp [hj]
    · simp [h, Ne.symm h]

section
variable {P : Program}
theorem run_storeCells (b off : Nat) : ∀ (xs : List Value) (i : Nat) (w : World), (∀ (j : Nat) (x : Value), xs[j]? = some x → x.oneCell' = true ∧ ∃ y, w.cell? ⟨b, off + (i + j), none⟩ = some y) →
    (∀ j, w.frozen? ⟨b, j, none⟩ = false) → ∃ w', (storeCells ⟨b, off, none⟩ xs i).run P w = .ok () w' ∧ Wrote b w w' ∧
      ∀ j, w'.cell? ⟨b, j, none⟩ = if off + i ≤ j ∧ j < off + i + xs.length then xs[j - (off + i)]? else w.cell? ⟨b, j, none⟩
  | [], i, w, _, _ => ⟨w, rfl, Wrote.refl _ _, fun j => by rw [if_neg (by simp only [List.length_nil]; omega)]⟩
  | x :: xs, i, w, h, hf => by
    obtain ⟨h1, y, hy⟩ := h 0 x rfl
    simp only [Nat.add_zero] at hy
    have hw1 := setCell_wrote w b (off + i) x
    obtain ⟨w', q1, q2, q3⟩ := run_storeCells b off xs (i + 1) (w.setCell ⟨b, off + i, none⟩ x) (fun j z hz => by
      obtain ⟨k1, u, hu⟩ := h (j + 1) z (by simpa using hz)
      refine ⟨k1, u, ?_⟩
      rw [setCell_cell, if_neg (by omega), ← hu]; congr 2; omega) (fun j => by rw [hw1.frozen]; exact hf j)
    refine ⟨w', ?_, hw1.trans q2, fun j => ?_⟩
    · simp only [storeCells, Sem.run_bind, run_store _ _ _ _ _ h1, Addr_add, hy, hf, Result.andThen_ok, Bool.false_eq_true, if_false]
      exact q1
    · rw [q3 j, setCell_cell]
      simp only [List.length_cons]
      by_cases c1 : j = off + i
      · subst c1
        rw [if_neg (by omega), if_pos rfl, if_pos (by omega), hy]
        simp
      · rw [if_neg c1]
        by_cases c2 : off + (i + 1) ≤ j ∧ j < off + (i + 1) + xs.length
        · rw [if_pos c2, if_pos (by omega)]
          rw [show j - (off + i) = (j - (off + (i + 1))) + 1 by omega]
          simp
        · rw [if_neg c2, if_neg (by omega)]

theorem wrN_spec : ∀ (vs : List V) {b : B} {off : Nat} {K : B → Prop}, wrN b off vs K →
    ∃ b', K b' ∧ (∀ j, j < vs.length → ∃ u, b.get (off + j) = some u) ∧ (∀ v ∈ vs, v.one = true) ∧
      (∀ j, b'.get j = if off ≤ j ∧ j < off + vs.length then vs[j - off]? else b.get j) ∧ (b.row = true → b'.row = true) ∧ b'.vof = b.vof
  | [], b, off, K, h => ⟨b, h, by simp, by simp, fun j => by rw [if_neg (by simp only [List.length_nil]; omega)], fun h => h, rfl⟩
  | v :: vs, b, off, K, h => by
    obtain ⟨b1, h1, h2, h3, h4, h5, h6, h7⟩ := wr1_spec h
    obtain ⟨b2, k1, k2, k3, k4, k5, k6⟩ := wrN_spec vs h1
    refine ⟨b2, k1, fun j hj => ?_, fun u hu => ?_, fun j => ?_, fun _ => k5 h6, k6.trans h7⟩
    · cases j with
      | zero => exact h2
      | succ j =>
        obtain ⟨u, hu⟩ := k2 j (by simpa using hj)
        rw [h4, if_neg (by omega)] at hu
        exact ⟨u, by rw [← hu]; congr 1; omega⟩
    · cases hu with
      | head => exact h3
      | tail _ hu => exact k3 u hu
    · rw [k4 j, h4 j]
      simp only [List.length_cons]
      by_cases c1 : j = off
      · subst c1
        rw [if_neg (by omega), if_pos rfl, if_pos (by omega)]
        simp
      · rw [if_neg c1]
        by_cases c2 : off + 1 ≤ j ∧ j < off + 1 + vs.length
        · rw [if_pos c2, if_pos (by omega), show j - off = (j - (off + 1)) + 1 by omega]
          simp
        · rw [if_neg c2, if_neg (by omega)]

theorem Rvs_cells {n : Nat} {g : Nat → Pl} {v : V} {x : Value} (hr : Rv n g v x) (h : allOne v.cellsL = true) : Rvs n g v.cellsL x.cells.toList := by
  have base : ∀ u : V, u.cellsL = [u] → allOne u.cellsL = true → Rv n g u x → Rvs n g [u] x.cells.toList := by
    intro u hu ho hr
    rw [hu] at ho
    simp only [allOne, Bool.and_true] at ho
    have := one_of ho hr
    have hx : x.cells = #[x] := by cases x <;> simp_all [Value.cells, Value.oneCell']
    rw [hx]
    simp only [Rvs]
    exact ⟨x, [], rfl, hr, rfl⟩
  cases v with
  | agg cs => simp only [Rv] at hr; obtain ⟨xs, rfl, h2⟩ := hr; exact h2
  | bool b => exact base _ rfl h hr
  | int k b => exact base _ rfl h hr
  | fl o => exact base _ rfl h hr
  | raw v => exact base _ rfl h hr
  | ptr i o => exact base _ rfl h hr
  | sl i o l => exact base _ rfl h hr
  | tup vs => exact base _ rfl h hr
  | clo a b c => exact base _ rfl h hr
  | gp i v o => exact base _ rfl h hr
  | gs i v e l => exact base _ rfl h hr
  | mp i => exact base _ rfl h hr
  | any => exact base _ rfl h hr
  | sk i o l c => exact base _ rfl h hr
theorem allOne_iff : ∀ l : List V, allOne l = true ↔ ∀ v ∈ l, v.one = true
  | [] => by simp [allOne]
  | v :: l => by simp [allOne, allOne_iff l]

/-- A row into which one has written, in its place. -/
theorem wrote_rep {ng : Nat} {g : Nat → Pl} {t : List V} {m : List Blk} {a : Act} {w w' : World} (S : Sim ng g t m a w) {i : Nat} {c : Blk} {b' : B} {ver : Nat} (hb : m[i]? = some c) (hw : c.w = true) (hl : c.b.row = true) (hr : b'.row = true)
    (q2 : Wrote (g i).1 w w') (hc : ∀ j u, b'.get j = some u → ∃ z, w'.cell? ⟨(g i).1, (g i).2 + j, none⟩ = some z ∧ Rv m.length g u z)
    (hroom : ∀ j, (∃ y, w.cell? ⟨(g i).1, j, none⟩ = some y) → ∃ y, w'.cell? ⟨(g i).1, j, none⟩ = some y)
    (hv : b'.vof = ver) (hver : ver = c.b.vof ∨ (0 < c.b.vof ∧ c.b.vof < ver)) :
    Rep (fun j => if j = i then ⟨(g i).1, (g i).2, (g i).3, ver⟩ else g j) (m.set i ⟨true, b'⟩) w' ∧ Step g m w (fun j => if j = i then ⟨(g i).1, (g i).2, (g i).3, ver⟩ else g j) (m.set i ⟨true, b'⟩) w' := by
  have hi : i < m.length := (List.getElem?_eq_some_iff.1 hb).1
  have R := S.rep.blk i _ hb
  have hbl := live_of_row hl
  have hag : ∀ j, j < m.length → Ag (g j) ((fun j => if j = i then (⟨(g i).1, (g i).2, (g i).3, ver⟩ : Pl) else g j) j) := by
    intro j hj
    by_cases e : j = i
    · subst e
      simp only [if_true]
      rcases hver with h | ⟨h1, h2⟩
      · refine .inl ?_
        rw [h, R.ver]
      · rw [R.ver] at h1 h2
        exact .inr ⟨h1, h2⟩
    · simp only [if_neg e]; exact .inl rfl
  have hget : ∀ j d, (m.set i ⟨true, b'⟩)[j]? = some d → (j = i ∧ d = ⟨true, b'⟩) ∨ (j ≠ i ∧ m[j]? = some d) := by
    intro j d hd
    rw [List.getElem?_set] at hd
    by_cases e : i = j
    · subst e
      simp only [hi, if_true, Option.some.injEq] at hd
      exact .inl ⟨rfl, hd.symm⟩
    · rw [if_neg e] at hd; exact .inr ⟨Ne.symm e, hd⟩
  have hpl : ∀ j, ((fun j => if j = i then (⟨(g i).1, (g i).2, (g i).3, ver⟩ : Pl) else g j) j).1 = (g j).1 := by
    intro j
    by_cases e : j = i
    · subst e; simp
    · simp [e]
  refine ⟨⟨fun j d hd => ?_, fun i' j' x y hne hx hy hxw hxl hyl => ?_⟩, ⟨by simp, fun j hj => ?_, q2.os, q2.tape, q2.output, by rw [q2.size]; exact Nat.le_refl _, fun p _ hp => q2.other p (fun e => hp ⟨i, _, hb, hw, e.symm⟩), fun p _ hp => ?_⟩⟩
  · rw [List.length_set]
    rcases hget j d hd with ⟨rfl, rfl⟩ | ⟨hne, hd⟩
    · simp only [if_true]
      refine ⟨by rw [q2.size]; exact R.size, fun k u hu => ?_, fun _ _ k => by rw [q2.frozen]; exact R.free hw hbl k, fun _ k hk => ?_, fun f hf => ?_, hv⟩
      · obtain ⟨z, h1, h2⟩ := hc k u hu
        exact ⟨z, h1, Rv_monoA (Nat.le_refl _) hag u h2⟩
      · exact hroom _ (R.room hbl k hk)
      · have hf : b' = .mpI f := hf
        rw [hf] at hr; exact nomatch hr
    · simp only [if_neg hne]
      have R' := S.rep.blk j d hd
      by_cases hdl : d.b.live = true
      · exact R'.congr (q2.other _ (S.rep.apart i j _ _ (Ne.symm hne) hb hd hw hbl hdl).symm) (Nat.le_refl _) hag
      · have hdead : d.b = .dead := by cases h : d.b <;> simp [h, B.live] at hdl; rfl
        refine ⟨by rw [q2.size]; exact R'.size, fun k u hu => ?_, fun _ hl' => absurd hl' hdl, fun hl' => absurd hl' hdl, fun f hf => ?_, R'.ver⟩
        · rw [hdead] at hu; exact nomatch hu
        · rw [hdead] at hf; exact nomatch hf
  · rw [hpl, hpl]
    rcases hget i' x hx with ⟨e1, e2⟩ | ⟨h1, hx1⟩
    · rcases hget j' y hy with ⟨e3, e4⟩ | ⟨h2, hy1⟩
      · exact absurd (e1.trans e3.symm) hne
      · rw [e1] at hne ⊢; exact S.rep.apart i j' _ _ hne hb hy1 hw hbl hyl
    · rcases hget j' y hy with ⟨e3, e4⟩ | ⟨h2, hy1⟩
      · rw [e3] at hne ⊢; exact S.rep.apart i' i _ _ hne hx1 hb hxw hxl hbl
      · exact S.rep.apart i' j' _ _ hne hx1 hy1 hxw hxl hyl
  · by_cases e : j = i
    · subst e
      rw [getB_eq, getB_eq]
      simp only [List.getD_eq_getElem?_getD, hb, Option.getD_some, List.getElem?_set, hi, if_true, hv]
      refine ⟨?_, ?_⟩
      · rcases hver with h | ⟨_, h⟩ <;> omega
      · rcases hver with h | ⟨h1, h2⟩
        · exact .inl (by rw [h, R.ver])
        · exact .inr ⟨h2, by rw [← R.ver]; exact h1, by rw [← R.ver]; exact h2⟩
    · rw [getB_eq, getB_eq]
      simp only [List.getD_eq_getElem?_getD, List.getElem?_set, if_neg (Ne.symm e), if_neg e]
      exact ⟨Nat.le_refl _, .inl trivial⟩
  · obtain ⟨j, c', hc', hcw, he⟩ := hp
    rw [hpl] at he
    rcases hget j c' hc' with ⟨rfl, rfl⟩ | ⟨h2, hc'⟩
    · exact ⟨j, _, hb, hw, he⟩
    · exact ⟨j, c', hc', hcw, he⟩
theorem place_same {g : Nat → Pl} {m : List Blk} {w : World} {i : Nat} {c : Blk} {b' : B} (R : RepB m.length g w (g i) c) (hv : b'.vof = c.b.vof) : (fun j => if j = i then (⟨(g i).1, (g i).2, (g i).3, b'.vof⟩ : Pl) else g j) = g := by
  funext j
  by_cases e : j = i
  · subst e
    simp only [if_true]
    rw [hv, R.ver]
  · simp only [if_neg e]

/-- A store into a block. -/
theorem storeV_sound {ng : Nat} {g : Nat → Pl} {t : List V} {m : List Blk} {a : Act} {w : World} (S : Sim ng g t m a w) {ty : TypeId} {p v : V} {x y : Value} {K : List Blk → Prop}
    (hp : Rv m.length g p x) (hv : Rv m.length g v y) (h : storeV P ty p v m K) :
    ∃ m' w', (Instr.storeAt ty x y).run P w = .ok () w' ∧ K m' ∧ Rep g m' w' ∧ Step g m w g m' w' := by
  have key : ∀ (i off : Nat), x = .pointer (some ⟨(g i).1, (g i).2 + off, none⟩) → (match (getB m i).w, (getB m i).b.row, Nat.beq (lenL v.cellsL) (P.cellsOf ty), P.info? ty with
    | true, true, true, some _ => wrN (getB m i).b off v.cellsL fun b => setB m i ⟨true, b⟩ K
    | _, _, _, _ => False) → ∃ m' w', (Instr.storeAt ty x y).run P w = .ok () w' ∧ K m' ∧ Rep g m' w' ∧ Step g m w g m' w' := by
    rintro i off rfl h
    split at h
    · rename_i inf hw hl hsz hinf
      obtain ⟨b', k1, k2, k3, k4, k5, k6⟩ := wrN_spec _ h
      rw [setB_eq] at k1
      have hb := getB_some (.inr hw)
      have R := S.rep.blk i _ hb
      have hcs := Rvs_cells hv ((allOne_iff _).2 k3)
      have hlen := Rvs_length hcs
      have hsz : lenL v.cellsL = P.cellsOf ty := by simpa using hsz
      rw [lenL_eq] at hsz
      obtain ⟨w', q1, q2, q3⟩ := run_storeCells (P := P) (g i).1 ((g i).2 + off) y.cells.toList 0 w (fun j z hz => by
        have hj : j < v.cellsL.length := by
          have := (List.getElem?_eq_some_iff.1 hz).1; omega
        obtain ⟨u, hu⟩ := k2 j hj
        obtain ⟨c, hc, _⟩ := R.cell _ _ hu
        refine ⟨?_, c, by rw [← hc]; congr 2; omega⟩
        obtain ⟨z', hz', hr'⟩ := Rvs_get hcs (i := j) (v := v.cellsL[j]) (by simp [hj])
        rw [hz] at hz'; cases hz'
        exact one_of (k3 _ (List.getElem_mem hj)) hr') (fun j => R.free hw (live_of_row hl) j)
      have W := wrote_rep (b' := b') (ver := b'.vof) S hb hw hl (k5 hl) q2 (fun j u hu => by
        simp only [k4] at hu
        rw [q3 ((g i).2 + j)]
        by_cases c1 : off ≤ j ∧ j < off + v.cellsL.length
        · rw [if_pos c1] at hu
          rw [if_pos (by omega)]
          obtain ⟨z, hz, hr⟩ := Rvs_get hcs hu
          exact ⟨z, by rw [← hz]; congr 1; omega, hr⟩
        · rw [if_neg c1] at hu
          rw [if_neg (by omega)]
          exact R.cell _ _ hu) (fun j ⟨z, hz⟩ => by
        rw [q3 j]
        by_cases c1 : (g i).2 + off + 0 ≤ j ∧ j < (g i).2 + off + 0 + y.cells.toList.length
        · rw [if_pos c1]
          exact ⟨_, List.getElem?_eq_getElem (by omega)⟩
        · rw [if_neg c1]; exact ⟨z, hz⟩) rfl (.inl k6)
      rw [place_same R k6] at W
      refine ⟨_, w', ?_, k1, W⟩
      simp only [Instr.storeAt, Instr.sureAddr, storeVar, Sem.run_bind, Sem.run_pure, Result.andThen_ok, run_sizeOf w hinf]
      rw [if_neg (by rw [← Array.length_toList]; omega)]
      simpa using q1
    · exact h.elim
  unfold storeV at h
  cases p with
  | ptr i off =>
    simp only [Rv] at hp
    exact key i off hp.2.2 h
  | gp i u off =>
    simp only [Rv] at hp
    obtain ⟨hi, hu, a, hx, ha⟩ := hp
    obtain ⟨e, h⟩ := h
    have hb := getB_some (m := m) (i := i) (.inl (by
      cases hb : (getB m i).b <;> rw [hb] at e <;> first | rfl | (simp [B.vof] at e)))
    rw [ha (by rw [← e]; exact (S.rep.blk i _ hb).ver)] at hx
    exact key i off hx h
  | _ => exact h.elim

/-- A new block. -/
def newAtP (g : Nat → Pl) (n : Nat) (p : Pl) : Nat → Pl := fun i => if i = n then p else g i
abbrev newAt (g : Nat → Pl) (n b : Nat) : Nat → Pl := newAtP g n ⟨b, 0, 0, 0⟩
theorem newAtP_old (g : Nat → Pl) (n : Nat) (p : Pl) : ∀ i, i < n → newAtP g n p i = g i := fun i hi => by unfold newAtP; rw [if_neg (by omega)]
theorem snoc_get {m : List Blk} {b : Blk} {i : Nat} {d : Blk} (hd : (m ++ [b])[i]? = some d) : (i < m.length ∧ m[i]? = some d) ∨ (i = m.length ∧ d = b) := by
  rcases Nat.lt_or_ge i m.length with hi | hi
  · rw [List.getElem?_append_left hi] at hd; exact .inl ⟨hi, hd⟩
  · rw [List.getElem?_append_right hi] at hd
    have : i - m.length = 0 := by
      have := (List.getElem?_eq_some_iff.1 hd).1; simp at this; omega
    rw [this] at hd; simp at hd
    exact .inr ⟨by omega, hd.symm⟩
theorem getB_snoc {m : List Blk} {b : Blk} {i : Nat} (hi : i < m.length) : getB (m ++ [b]) i = getB m i := by
  rw [getB_eq, getB_eq, List.getD_eq_getElem?_getD, List.getD_eq_getElem?_getD, List.getElem?_append_left hi]
theorem madeP {ng : Nat} {g : Nat → Pl} {t : List V} {m : List Blk} {a : Act} {w : World} (S : Sim ng g t m a w) (b : B) (o : Obj) (p : Pl) (hp : p.1 = w.heap.size)
    (R0 : RepB m.length g { w with heap := w.heap.push o } p ⟨true, b⟩) :
    Rep (newAtP g m.length p) (m ++ [⟨true, b⟩]) { w with heap := w.heap.push o } ∧ Step g m w (newAtP g m.length p) (m ++ [⟨true, b⟩]) { w with heap := w.heap.push o } := by
  have hag := newAtP_old g m.length p
  have hAg : ∀ i, i < m.length → Ag (g i) (newAtP g m.length p i) := fun i hi => .inl (hag i hi)
  have hlen : (m ++ [(⟨true, b⟩ : Blk)]).length = m.length + 1 := by simp
  have hnew : newAtP g m.length p m.length = p := by simp [newAtP]
  have hheap : ∀ q, q < w.heap.size → (w.heap.push o)[q]? = w.heap[q]? := fun q hq => by
    rw [Array.getElem?_push, if_neg (by omega)]
  refine ⟨⟨fun i d hd => ?_, fun i j x y hij hx hy hw hl hl' => ?_⟩, ⟨by simp, agree_of fun i hi => ⟨hag i hi, by rw [getB_snoc hi]⟩, rfl, rfl, rfl, by simp, fun q hq _ => hheap q hq, fun q hq hf => ?_⟩⟩
  · rcases snoc_get hd with ⟨hi, hd⟩ | ⟨rfl, rfl⟩
    · have R := S.rep.blk i d hd
      rw [hag i hi]
      exact R.congr (hheap _ R.size) (by omega) hAg
    · rw [hnew]
      exact R0.congr rfl (by omega) hAg
  · rcases snoc_get hx with ⟨hi, hx⟩ | ⟨rfl, rfl⟩
    · rcases snoc_get hy with ⟨hj, hy⟩ | ⟨rfl, rfl⟩
      · rw [hag i hi, hag j hj]; exact S.rep.apart i j x y hij hx hy hw hl hl'
      · rw [hag i hi, hnew]
        have := (S.rep.blk i x hx).size
        omega
    · rcases snoc_get hy with ⟨hj, hy⟩ | ⟨rfl, rfl⟩
      · rw [hag j hj, hnew]
        have := (S.rep.blk j y hy).size
        omega
      · exact absurd rfl hij
  · obtain ⟨i, d, hd, hw, he⟩ := hf
    rcases snoc_get hd with ⟨hi, hd⟩ | ⟨rfl, rfl⟩
    · rw [hag i hi] at he; exact ⟨i, d, hd, hw, he⟩
    · rw [hnew] at he; omega
/-- Neither a row that grows nor a map. -/
def B.plain : B → Bool
  | .gints .. | .gflts .. | .gcells .. | .mpI _ => false
  | _ => true
theorem made {ng : Nat} {g : Nat → Pl} {t : List V} {m : List Blk} {a : Act} {w : World} (S : Sim ng g t m a w) (b : B) (c : Array Value) (e : TypeId) (hpl : b.plain = true)
    (h : ∀ (j : Nat) (v : V), b.get j = some v → ∃ x, c[j]? = some x ∧ Rv m.length g v x) :
    Rep (newAt g m.length w.heap.size) (m ++ [⟨true, b⟩]) { w with heap := w.heap.push (.cells c e) } ∧
      Step g m w (newAt g m.length w.heap.size) (m ++ [⟨true, b⟩]) { w with heap := w.heap.push (.cells c e) } := by
  have hnew : (w.heap.push (Obj.cells c e))[w.heap.size]? = some (.cells c e) := by simp
  refine madeP S b _ _ rfl ⟨by simp, fun j v hv => ?_, fun _ _ j => ?_, fun _ j hj => absurd hj (Nat.not_lt_zero j), fun f hf => ?_, ?_⟩
  · obtain ⟨x, hx, hr⟩ := h j v hv
    refine ⟨x, ?_, hr⟩
    unfold World.cell?
    simp only [hnew, Nat.zero_add]
    simpa using hx
  · unfold World.frozen?
    simp only [hnew]
    simp
  · have hf : b = .mpI f := hf
    rw [hf] at hpl; exact nomatch hpl
  · cases b <;> first | rfl | exact nomatch hpl
theorem made_ptr (g : Nat → Pl) (m : List Blk) (b : Blk) (k : Nat) : Rv (m ++ [b]).length (newAt g m.length k) (.ptr m.length 0) (.pointer (some ⟨k, 0, none⟩)) := by
  simp [Rv, newAt, newAtP]
end
end Go.Eng
