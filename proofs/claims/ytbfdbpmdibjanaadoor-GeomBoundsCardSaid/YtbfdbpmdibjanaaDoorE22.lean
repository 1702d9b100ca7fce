/- The engine, part 22: append and copy do what the evaluator says. No condition. -/
import Derived.Test.YtbfdbpmdibjanaaDoorE12
namespace Go.Eng
open Go
set_option linter.unusedSimpArgs false
set_option linter.unusedVariables false
section
variable {P : Program} {ng : Nat} {g : Nat → Pl} {t : List V} {m : List Blk} {a : Act} {w : World} {K : V → List Blk → Prop}

theorem Sim.drew (S : Sim ng g t m a w) : Sim ng g t m a w.drew := ⟨S.defers, S.tmps, S.rep.heap rfl, S.glob⟩
/-- A row that grows moves to a new block. -/
theorem moved_rep (S : Sim ng g t m a w) {i : Nat} {c : Blk} {b' : B} {p : Pl} {o : Obj} (hb : m[i]? = some c) (hl : c.b.row = true) (hr : b'.row = true) (hw : c.w = true)
    (hp : p.1 = w.heap.size) (hver : 0 < c.b.vof ∧ c.b.vof < b'.vof) (R0 : RepB m.length g { w with heap := w.heap.push o } p ⟨true, b'⟩) :
    Rep (fun j => if j = i then p else g j) (m.set i ⟨true, b'⟩) { w with heap := w.heap.push o } ∧ Step g m w (fun j => if j = i then p else g j) (m.set i ⟨true, b'⟩) { w with heap := w.heap.push o } := by
  have hi : i < m.length := (List.getElem?_eq_some_iff.1 hb).1
  have R := S.rep.blk i _ hb
  have hpv : p.4 = b'.vof := R0.ver.symm
  have hag : ∀ j, j < m.length → Ag (g j) ((fun j => if j = i then p else g j) j) := by
    intro j hj
    by_cases e : j = i
    · subst e
      simp only [if_true]
      refine .inr ?_
      rw [← R.ver, hpv]; exact hver
    · simp only [if_neg e]; exact .inl rfl
  have hget : ∀ j d, (m.set i ⟨true, b'⟩)[j]? = some d → (j = i ∧ d = ⟨true, b'⟩) ∨ (j ≠ i ∧ m[j]? = some d) := by
    intro j d hd
    rw [List.getElem?_set] at hd
    by_cases e : i = j
    · subst e
      simp only [hi, if_true, Option.some.injEq] at hd
      exact .inl ⟨rfl, hd.symm⟩
    · rw [if_neg e] at hd; exact .inr ⟨Ne.symm e, hd⟩
  have hheap : ∀ q, q < w.heap.size → (w.heap.push o)[q]? = w.heap[q]? := fun q hq => by rw [Array.getElem?_push, if_neg (by omega)]
  refine ⟨⟨fun j d hd => ?_, fun i' j' x y hne hx hy hxw hxl hyl => ?_⟩, ⟨by simp, fun j hj => ?_, rfl, rfl, rfl, by simp, fun q hq _ => hheap q hq, fun q hq hf => ?_⟩⟩
  · rw [List.length_set]
    rcases hget j d hd with ⟨rfl, rfl⟩ | ⟨hne, hd⟩
    · simp only [if_true]
      exact R0.congr rfl (Nat.le_refl _) hag
    · simp only [if_neg hne]
      have R' := S.rep.blk j d hd
      exact R'.congr (hheap _ R'.size) (Nat.le_refl _) hag
  · rcases hget i' x hx with ⟨e1, e2⟩ | ⟨h1, hx1⟩
    · rcases hget j' y hy with ⟨e3, e4⟩ | ⟨h2, hy1⟩
      · exact absurd (e1.trans e3.symm) hne
      · simp only [if_pos e1, if_neg h2]
        have := (S.rep.blk j' y hy1).size
        omega
    · rcases hget j' y hy with ⟨e3, e4⟩ | ⟨h2, hy1⟩
      · simp only [if_neg h1, if_pos e3]
        have := (S.rep.blk i' x hx1).size
        omega
      · simp only [if_neg h1, if_neg h2]
        exact S.rep.apart i' j' _ _ hne hx1 hy1 hxw hxl hyl
  · by_cases e : j = i
    · subst e
      rw [getB_eq, getB_eq]
      simp only [List.getD_eq_getElem?_getD, hb, Option.getD_some, List.getElem?_set, hi, if_true]
      refine ⟨by omega, .inr ⟨hver.2, by rw [← R.ver]; exact hver.1, by rw [← R.ver, hpv]; exact hver.2⟩⟩
    · rw [getB_eq, getB_eq]
      simp only [List.getD_eq_getElem?_getD, List.getElem?_set, if_neg (Ne.symm e), if_neg e]
      exact ⟨Nat.le_refl _, .inl trivial⟩
  · obtain ⟨j, c', hc', hcw, he⟩ := hf
    rcases hget j c' hc' with ⟨rfl, rfl⟩ | ⟨h2, hc1⟩
    · simp only [if_true] at he; omega
    · simp only [if_neg h2] at he
      exact ⟨j, c', hc1, hcw, he⟩

theorem info_zero {e : TypeId} {z : List V} (h : zeroL P e = some z) : ∃ i x, P.info? e = some i ∧ i.zero = some x ∧ z = ofVals x.cells.toList ∧ i.size = P.cellsOf e ∧ i.bytes = P.bytesOf e := by
  unfold zeroL at h
  cases hi : P.info? e with
  | none => simp [hi] at h
  | some i =>
    simp only [hi] at h
    cases hz : i.zero with
    | none => simp [hz] at h
    | some x =>
      simp only [hz, Option.some.injEq] at h
      exact ⟨i, x, rfl, hz, h.symm, by simp [Program.cellsOf, hi], by simp [Program.bytesOf, hi]⟩
theorem ofVals_length : ∀ l : List Value, (ofVals l).length = l.length
  | [] => rfl
  | _ :: l => by simp [ofVals, ofVals_length l]
theorem grown_le (w : World) (need old : Nat) (e : TypeId) : need ≤ grownCap w need old e := by
  unfold grownCap Question.cut; exact Nat.le_add_right _ _
/-- append, where there is no room. -/
theorem run_append_new {ty tx e e' rt : TypeId} {i : TypeInfo} {z : Value} (hu : P.underlying ty = some (.slice e)) (hux : P.underlying tx = some (.slice e')) (hi : P.info? e = some i) (hz : i.zero = some z)
    {base xb : Option Addr} {len cap n xc : Nat} {olds news : List Value} (hg : cap < len + n) (hfit : (len + n) * i.bytes ≤ 140737488355328) (h63 : len + n ≤ 9223372036854775807)
    (ho : ∀ w' : World, w'.heap = w.heap → (Builtin.firstCells i.size len (.slice base len cap)).run P w' = .ok olds.toArray w')
    (hn : ∀ w' : World, w'.heap = w.heap → (Builtin.firstCells i.size n (.slice xb n xc)).run P w' = .ok news.toArray w') :
    (Builtin.append_ #[ty, tx] rt #[.slice base len cap, .slice xb n xc]).run P w =
      .ok (.slice (some ⟨w.heap.size, 0, none⟩) (len + n) (grownCap w (len + n) cap e)) (w.drew.alloc (.cells (olds.toArray ++ news.toArray ++ Builtin.zeroCells z.cells (grownCap w (len + n) cap e - (len + n))) e)) := by
  have hn' : ¬ (len + n ≤ cap) := by omega
  have h63' : ¬ (9223372036854775807 < ((len : Int) + (n : Int))) := by omega
  have h48' : ¬ (281474976710656 < Builtin.nextslicecap (len + n) cap * i.bytes) := by
    have := growslice_fits hg hfit; omega
  have hf := hn w.drew rfl
  have hfo := ho w.drew rfl
  simp [Builtin.append_, run_underlying hu, run_underlying hux, sizeOf, typeInfo, zeroValue, hi, hz, Builtin.lenOf, hn', h63', h48', Question.forced, hf, hfo, newRow, grownCap]
  congr 2
  apply Array.ext'
  simp [List.append_assoc]
/-- append, where there is room. -/
theorem run_append_in {ty tx e e' rt : TypeId} {i : TypeInfo} (hu : P.underlying ty = some (.slice e)) (hux : P.underlying tx = some (.slice e')) (hi : P.info? e = some i)
    {A : Addr} {xb : Option Addr} {len cap n xc : Nat} {news : List Value} {w' : World} (hg : len + n ≤ cap)
    (hn : (Builtin.firstCells i.size n (.slice xb n xc)).run P w = .ok news.toArray w) (hs : (storeCells (A.add (len * i.size)) news).run P w = .ok () w') :
    (Builtin.append_ #[ty, tx] rt #[.slice (some A) len cap, .slice xb n xc]).run P w = .ok (.slice (some A) (len + n) cap) w' := by
  simp [Builtin.append_, run_underlying hu, run_underlying hux, sizeOf, typeInfo, hi, Builtin.lenOf, hg, hn, hs]
theorem run_append_in0 {ty tx e e' rt : TypeId} {i : TypeInfo} (hu : P.underlying ty = some (.slice e)) (hux : P.underlying tx = some (.slice e')) (hi : P.info? e = some i)
    {base xb : Option Addr} {len cap n xc : Nat} (hg : len + n ≤ cap) (hn : (Builtin.firstCells i.size n (.slice xb n xc)).run P w = .ok #[] w) :
    (Builtin.append_ #[ty, tx] rt #[.slice base len cap, .slice xb n xc]).run P w = .ok (.slice base (len + n) cap) w := by
  cases base with
  | none => simp [Builtin.append_, run_underlying hu, run_underlying hux, sizeOf, typeInfo, hi, Builtin.lenOf, hg, hn]
  | some A => simp [Builtin.append_, run_underlying hu, run_underlying hux, sizeOf, typeInfo, hi, Builtin.lenOf, hg, hn, storeCells]

/-- A new row that grows, at the end of the heap. -/
theorem grow_new_rep (S : Sim ng g t m a w) {b' : B} {e : TypeId} {es need newCap : Nat} {c : B} {xs rest : List Value} {v : Nat} (hrow : b'.row = true) (hvof : b'.vof = v + 1) (hget : ∀ j, b'.get j = c.get j)
    (hrel : ∀ (j : Nat) u, c.get j = some u → ∃ x, xs[j]? = some x ∧ Rv m.length g u x) (hlen : xs.length + rest.length = newCap * es) :
    RepB m.length g { w with heap := w.heap.push (.cells (xs ++ rest).toArray e) } ⟨w.heap.size, 0, newCap * es, v + 1⟩ ⟨true, b'⟩ := by
  have hnew : (w.heap.push (Obj.cells (xs ++ rest).toArray e))[w.heap.size]? = some (.cells (xs ++ rest).toArray e) := by simp
  have hcell : ∀ j, World.cell? { w with heap := w.heap.push (.cells (xs ++ rest).toArray e) } ⟨w.heap.size, 0 + j, none⟩ = (xs ++ rest)[j]? := by
    intro j
    unfold World.cell?
    simp only [hnew, Nat.zero_add]
    simp
  refine ⟨by simp, fun j u hu => ?_, fun _ _ j => ?_, fun _ j hj => ?_, fun f hf => ?_, hvof⟩
  · have hu : b'.get j = some u := hu
    rw [hget] at hu
    obtain ⟨x, hx, hr⟩ := hrel j u hu
    refine ⟨x, ?_, hr⟩
    rw [hcell, List.getElem?_append_left (List.getElem?_eq_some_iff.1 hx).1]
    exact hx
  · unfold World.frozen?
    simp only [hnew]
    simp
  · have hj : j < newCap * es := hj
    refine ⟨_, (hcell j).trans (List.getElem?_eq_getElem (by rw [List.length_append]; omega))⟩
  · have hf : b' = .mpI f := hf
    rw [hf] at hrow; exact nomatch hrow
theorem rng_get {n : Nat} {f : Nat → V} {j : Nat} : (B.cells ((List.range n).map f)).get j = if j < n then some (f j) else none := by
  simp only [B.get, List.getElem?_map]
  by_cases hj : j < n
  · simp [hj]
  · simp [hj]
theorem bound_of {n b : Nat} (h : n * b ≤ 140737488355328) (hb : 0 < b) : n ≤ 9223372036854775807 := by
  have := Nat.le_mul_of_pos_right n hb
  omega
theorem appendV_sound (S : Sim ng g t m a w) {ty tx rt e' : TypeId} {s x : V} {sv xv : Value} (hs : Rv m.length g s sv) (hx : Rv m.length g x xv) (htx : sliceD (P.underlying tx) = some e') (h : appendV P ty s x m K) :
    ∃ r w', (Builtin.append_ #[ty, tx] rt #[sv, xv]).run P w = .ok r w' ∧ After K g m w r w' := by
  have hux : P.underlying tx = some (.slice e') := by
    unfold sliceD at htx
    split at htx
    · cases htx; assumption
    · exact nomatch htx
  unfold appendV at h
  split at h
  · rename_i e he
    have hu : P.underlying ty = some (.slice e) := by
      unfold sliceD at he
      split at he
      · cases he; assumption
      · exact nomatch he
    split at h
    · rename_i z hz
      obtain ⟨h1, h2⟩ := br_F h
      simp only [Bool.and_eq_true, lenL_eq] at h1
      obtain ⟨⟨h3, h4⟩, h5⟩ := h1
      have h5 : 0 < P.bytesOf e := by simpa using h5
      have h3 : z.length = P.cellsOf e := by simpa using h3
      have h4 : 0 < P.cellsOf e := by simpa using h4
      obtain ⟨i, zx, hi, hiz, hzx, hsz, hby⟩ := info_zero hz
      have hzl : zx.cells.toList.length = P.cellsOf e := by rw [← h3, hzx, ofVals_length]
      obtain ⟨n, c, xs, k1, src, xb, xc, hxv, hread⟩ := srcV_spec S hx h2
      rw [← hsz] at src hread
      have hz0 : ∀ q : Nat, (Builtin.zeroCells zx.cells q).toList.length = q * i.size := by
        intro q; simp only [Builtin.zeroCells, Array.toList_map, List.length_map, Array.toList_range, List.length_range]
        rw [hsz, ← hzl, Array.length_toList]
      subst hxv
      have new : ∀ (base : Option Addr) (len cap : Nat) (c' : B) (olds : List Value) (v : V), sv = .slice base len cap → cap < len + n → (len + n) * P.bytesOf e ≤ 140737488355328 → len + n ≤ 9223372036854775807 →
          (∀ w' : World, w'.heap = w.heap → (Builtin.firstCells i.size len (.slice base len cap)).run P w' = .ok olds.toArray w') → olds.length = len * i.size →
          (∀ (j : Nat) u, c'.get j = some u → ∃ x, (olds ++ xs)[j]? = some x ∧ Rv m.length g u x) →
          (growNew (zkind z) c' fun b => addB m ⟨true, b⟩ fun i m => K (.gs i 0 (P.cellsOf e) (len + n)) m) →
          ∃ r w', (Builtin.append_ #[ty, tx] rt #[sv, .slice xb n xc]).run P w = .ok r w' ∧ After K g m w r w' := by
        intro base len cap c' olds v hsv hg hfit h63 ho hol hrel hk
        subst hsv
        obtain ⟨b', q1, q2, q3, q4⟩ := growNew_spec hk
        rw [addB_eq] at q1
        have hrun := run_append_new (rt := rt) hu hux hi hiz hg (by rw [hby]; exact hfit) h63 ho hread
        have hle := grown_le w (len + n) cap e
        have R := grow_new_rep S.drew (e := e) (es := i.size) (newCap := grownCap w (len + n) cap e) (need := len + n) (rest := (Builtin.zeroCells zx.cells (grownCap w (len + n) cap e - (len + n))).toList) q2 (v := 0) q3 q4 hrel (by
          rw [List.length_append, hol, src.len, hz0, ← Nat.add_mul, ← Nat.add_mul]
          congr 1; omega)
        obtain ⟨r1, r2⟩ := madeP S.drew b' _ _ rfl R
        refine ⟨_, _, hrun, .gs m.length 0 (P.cellsOf e) (len + n), m ++ [⟨true, b'⟩], newAtP g m.length ⟨w.heap.size, 0, grownCap w (len + n) cap e * i.size, 0 + 1⟩, q1, ?_, ?_, ?_⟩
        · simp only [Rv]
          refine ⟨by simp, by simp [newAtP], _, _, rfl, hle, fun _ => ?_⟩
          simp only [newAtP, if_true, hsz]
          exact ⟨trivial, Nat.le_refl _⟩
        · have e1 : (olds.toArray ++ xs.toArray ++ Builtin.zeroCells zx.cells (grownCap w (len + n) cap e - (len + n))) = ((olds ++ xs) ++ (Builtin.zeroCells zx.cells (grownCap w (len + n) cap e - (len + n))).toList).toArray := by
            apply Array.ext'; simp
          rw [e1]; exact r1
        · have e1 : (olds.toArray ++ xs.toArray ++ Builtin.zeroCells zx.cells (grownCap w (len + n) cap e - (len + n))) = ((olds ++ xs) ++ (Builtin.zeroCells zx.cells (grownCap w (len + n) cap e - (len + n))).toList).toArray := by
            apply Array.ext'; simp
          rw [e1]; exact (Step.drawn g m w _).trans r2
      split at k1
      · -- nil
        obtain ⟨⟨k2, k3⟩, k4⟩ := k1
        simp only [Rv] at hs
        have hb : n ≤ 9223372036854775807 := bound_of k3 h5
        exact new none 0 0 c [] (.gs m.length 0 (P.cellsOf e) n) hs (by omega) (by simpa using k3) (by simpa using hb) (fun w' _ => run_firstCells_none w' _ 0 0 0) (by simp) (by simpa using src.rel) (by simpa using k4)
      · -- a row that grows
        rename_i i0 v es len
        obtain ⟨⟨g1, g2, g3, g4⟩, k2⟩ := k1
        subst g2
        have hb63 := bound_of g4 h5
        have hcur := cur_of S g1
        simp only [Rv] at hs
        obtain ⟨hi0, hv, A, cap, hsv, hlc, hA⟩ := hs
        obtain ⟨hA1, hA2⟩ := hA hcur
        subst hA1
        split at k2
        · rename_i hw
          obtain ⟨b', q1, q2, q3, q4, q5, q6⟩ := growB_spec k2
          rw [setB_eq] at q1
          have hb := getB_some (.inr hw)
          have R := S.rep.blk i0 _ hb
          subst hsv
          by_cases hg : len + n ≤ cap
          · -- there is room
            have hmul : (len + n) * P.cellsOf e ≤ cap * P.cellsOf e := Nat.mul_le_mul_right _ hg
            rw [Nat.add_mul] at hmul
            obtain ⟨w', r1, r2, r3⟩ := run_storeCells (P := P) (g i0).1 ((g i0).2 + len * P.cellsOf e) xs 0 w (fun j z hz => by
              have hj := (List.getElem?_eq_some_iff.1 hz).1
              rw [src.len, hsz] at hj
              obtain ⟨y, hy⟩ := R.room (live_of_row q2) (len * P.cellsOf e + j) (by omega)
              refine ⟨src.cell j z hz, y, ?_⟩
              rw [← hy]; congr 2; omega) (fun j => R.free hw (live_of_row q2) j)
            have hrun := run_append_in (rt := rt) hu hux hi hg (A := ⟨(g i0).1, (g i0).2, none⟩) (hread w rfl) (by rw [Addr_add, hsz]; exact r1)
            have W := wrote_rep (b' := b') (ver := v + 2) S hb hw q2 q3 r2 (fun j u hu' => by
              rw [q6, g3] at hu'
              rw [r3 ((g i0).2 + j)]
              by_cases c1 : j < len * P.cellsOf e
              · rw [if_pos c1] at hu'
                rw [if_neg (by omega)]
                exact R.cell _ _ hu'
              · rw [if_neg c1] at hu'
                obtain ⟨x, e1, e2⟩ := src.rel _ _ hu'
                have := (List.getElem?_eq_some_iff.1 e1).1
                rw [if_pos (by omega)]
                exact ⟨x, by rw [← e1]; congr 1; omega, e2⟩) (fun j ⟨z, hz⟩ => by
              rw [r3 j]
              by_cases c1 : (g i0).2 + len * P.cellsOf e + 0 ≤ j ∧ j < (g i0).2 + len * P.cellsOf e + 0 + xs.length
              · rw [if_pos c1]
                exact ⟨_, List.getElem?_eq_getElem (by omega)⟩
              · rw [if_neg c1]; exact ⟨z, hz⟩) (by rw [q5, g1]) (.inr ⟨by omega, by omega⟩)
            refine ⟨_, w', hrun, .gs i0 (v + 1) (P.cellsOf e) (len + n), _, _, q1, ?_, W.1, W.2⟩
            simp only [Rv, List.length_set, if_true]
            exact ⟨hi0, by omega, _, _, rfl, hg, fun _ => ⟨rfl, hA2⟩⟩
          · -- a new block
            have hcnt : (getB m i0).b.size = len * P.cellsOf e := by
              rw [← g3]
              cases hb : (getB m i0).b <;> rw [hb] at g1 <;> first | rfl | (simp [B.vof] at g1)
            obtain ⟨olds, o1, o2, o3⟩ := cells_of S (i := i0) (off := 0) (n := len * P.cellsOf e) (c := .cells ((List.range (len * P.cellsOf e)).map fun j => ((getB m i0).b.get j).getD .un)) (fun j => by
              rw [rng_get, Nat.zero_add]
              split
              · rename_i hj
                obtain ⟨u, hu⟩ := B.get_size (b := (getB m i0).b) (j := j) (by omega)
                rw [hu]; rfl
              · rfl) (by simp [B.size])
            have hrun := run_append_new (rt := rt) (w := w) (olds := olds) (cap := cap) (base := some ⟨(g i0).1, (g i0).2, none⟩) hu hux hi hiz (by omega) (by rw [hby]; exact g4) hb63 (fun w' hw' => by
              refine run_firstCells_some w' i.size len _ len cap olds (by rw [o1, hsz]) (fun j y hy => ?_)
              rw [Addr_add]
              have := o2 j y hy
              rw [Nat.add_zero] at this
              unfold World.cell? at *
              rw [hw']; exact this) hread
            have hle := grown_le w (len + n) cap e
            have R1 := grow_new_rep S.drew (e := e) (es := i.size) (c := b') (b' := b') (xs := olds ++ xs) (newCap := grownCap w (len + n) cap e) (need := len + n) (rest := (Builtin.zeroCells zx.cells (grownCap w (len + n) cap e - (len + n))).toList) q3 (v := v + 1) (by rw [q5, g1]) (fun _ => rfl) (fun j u hu' => by
              rw [q6, g3] at hu'
              by_cases c1 : j < len * P.cellsOf e
              · rw [if_pos c1] at hu'
                obtain ⟨x, e1, e2⟩ := o3 j u (by rw [rng_get, if_pos c1, hu']; rfl)
                exact ⟨x, by rw [List.getElem?_append_left (by omega)]; exact e1, e2⟩
              · rw [if_neg c1] at hu'
                obtain ⟨x, e1, e2⟩ := src.rel _ _ hu'
                exact ⟨x, by rw [List.getElem?_append_right (by omega), o1]; exact e1, e2⟩) (by
              rw [List.length_append, o1, src.len, hz0, hsz, ← Nat.add_mul, ← Nat.add_mul]
              congr 1; omega)
            obtain ⟨r1, r2⟩ := moved_rep S.drew hb q2 q3 hw rfl (by rw [q5, g1]; exact ⟨by omega, by omega⟩) R1
            have e1 : (olds.toArray ++ xs.toArray ++ Builtin.zeroCells zx.cells (grownCap w (len + n) cap e - (len + n))) = ((olds ++ xs) ++ (Builtin.zeroCells zx.cells (grownCap w (len + n) cap e - (len + n))).toList).toArray := by
              apply Array.ext'; simp
            refine ⟨_, _, hrun, .gs i0 (v + 1) (P.cellsOf e) (len + n), m.set i0 ⟨true, b'⟩, fun j => if j = i0 then (⟨w.heap.size, 0, grownCap w (len + n) cap e * i.size, v + 1 + 1⟩ : Pl) else g j, q1, ?_, ?_, ?_⟩
            · simp only [Rv, List.length_set, if_true]
              exact ⟨hi0, by omega, _, _, rfl, hle, fun _ => ⟨rfl, by rw [hsz]; exact Nat.le_refl _⟩⟩
            · rw [e1]; exact r1
            · rw [e1]; exact (Step.drawn g m w _).trans r2
        · exact k2.elim
      · -- a slice of known room
        rename_i i0 off len cap
        obtain ⟨g4, k2⟩ := k1
        have hb63 := bound_of g4 h5
        simp only [Rv] at hs
        obtain ⟨hi0, hv, A, hsv, hlc, hA⟩ := hs
        rw [br_iff] at k2
        rcases k2 with ⟨hg, k2⟩ | ⟨hg, k2⟩
        · have hg : len + n ≤ cap := by simpa using hg
          split at k2
          · rename_i hw
            obtain ⟨b', q1, q2, q3, q4, q5, q6⟩ := pasteB_spec k2
            rw [setB_eq] at q1
            have hb := getB_some (.inr hw)
            have R := S.rep.blk i0 _ hb
            subst hsv
            by_cases h0 : cap = 0
            · have hn0 : n = 0 := by omega
              subst hn0
              have hx0 : xs = [] := List.length_eq_zero_iff.1 (by rw [src.len]; omega)
              have hc0 : c.size = 0 := by rw [src.size]; omega
              subst hx0
              have hrun := run_append_in0 (rt := rt) (base := A) hu hux hi hg (hread w rfl)
              have hsame : ∀ j, b'.get j = (getB m i0).b.get j := fun j => by rw [q6, hc0, if_neg (by omega)]
              have W := wrote_rep (b' := b') (ver := b'.vof) S hb hw q2 q3 (Wrote.refl _ w) (fun j u hu' => by rw [hsame] at hu'; exact R.cell _ _ hu') (fun j h => h) rfl (.inl q4)
              rw [place_same R q4] at W
              refine ⟨_, w, hrun, .sk i0 off (len + 0) cap, _, _, q1, ?_, W.1, W.2⟩
              simp only [Rv, List.length_set]
              exact ⟨hi0, hv, A, rfl, hg, fun h => absurd h (by omega)⟩
            · have hA1 := hA (by omega)
              subst hA1
              have hmul : (len + n) * P.cellsOf e ≤ cap * P.cellsOf e := Nat.mul_le_mul_right _ hg
              rw [Nat.add_mul] at hmul
              obtain ⟨w', r1, r2, r3⟩ := run_storeCells (P := P) (g i0).1 ((g i0).2 + (off + len * P.cellsOf e)) xs 0 w (fun j z hz => by
                have hj := (List.getElem?_eq_some_iff.1 hz).1
                rw [src.len, ← src.size] at hj
                obtain ⟨u, hu'⟩ := B.get_size (b := (getB m i0).b) (j := off + len * P.cellsOf e + j) (by omega)
                obtain ⟨y, hy, _⟩ := R.cell _ _ hu'
                refine ⟨src.cell j z hz, y, ?_⟩
                rw [← hy]; congr 2; omega) (fun j => R.free hw (live_of_row q2) j)
              have hrun := run_append_in (rt := rt) hu hux hi hg (A := ⟨(g i0).1, (g i0).2 + off, none⟩) (hread w rfl) (by rw [Addr_add, hsz, Nat.add_assoc]; exact r1)
              have W := wrote_rep (b' := b') (ver := b'.vof) S hb hw q2 q3 r2 (fun j u hu' => by
                rw [q6] at hu'
                rw [r3 ((g i0).2 + j)]
                have hcs : c.size = xs.length := by rw [src.size, src.len]
                by_cases c1 : off + len * P.cellsOf e ≤ j ∧ j < off + len * P.cellsOf e + c.size
                · rw [if_pos c1] at hu'
                  obtain ⟨x, e1, e2⟩ := src.rel _ _ hu'
                  rw [if_pos (by omega)]
                  exact ⟨x, by rw [← e1]; congr 1; omega, e2⟩
                · rw [if_neg c1] at hu'
                  rw [if_neg (by omega)]
                  exact R.cell _ _ hu') (fun j ⟨z, hz⟩ => by
                rw [r3 j]
                by_cases c1 : (g i0).2 + (off + len * P.cellsOf e) + 0 ≤ j ∧ j < (g i0).2 + (off + len * P.cellsOf e) + 0 + xs.length
                · rw [if_pos c1]
                  exact ⟨_, List.getElem?_eq_getElem (by omega)⟩
                · rw [if_neg c1]; exact ⟨z, hz⟩) rfl (.inl q4)
              rw [place_same R q4] at W
              refine ⟨_, w', hrun, .sk i0 off (len + n) cap, _, _, q1, ?_, W.1, W.2⟩
              simp only [Rv, List.length_set]
              exact ⟨hi0, hv, _, rfl, hg, fun _ => rfl⟩
          · exact k2.elim
        · have hg : ¬ (len + n ≤ cap) := fun h => by
            rw [show Nat.ble (len + n) cap = true by simpa using h] at hg; exact nomatch hg
          obtain ⟨d, d1, d2, d3, d4⟩ := segB_spec k2
          obtain ⟨c', p1, p2, p3⟩ := catB_spec d1
          obtain ⟨olds, o1, o2, o3⟩ := cells_of S d4 d3
          refine new A len cap c' olds (.gs m.length 0 (P.cellsOf e) (len + n)) hsv (by omega) g4 hb63 (fun w' hw' => ?_) (by rw [o1, hsz]) (fun j u hu' => ?_) p1
          · by_cases h0 : len = 0
            · subst h0
              have hx0 : olds = [] := List.length_eq_zero_iff.1 (by omega)
              subst hx0
              cases A with
              | none => exact run_firstCells_none w' i.size 0 0 cap
              | some A => exact run_firstCells_some w' i.size 0 A 0 cap [] (by simp) (by simp)
            · rw [hA (by omega)]
              refine run_firstCells_some w' i.size len _ len cap olds (by rw [o1, hsz]) (fun j y hy => ?_)
              rw [Addr_add]
              have := o2 j y hy
              unfold World.cell? at *
              rw [hw']; exact this
          · rw [p3, d3] at hu'
            by_cases c1 : j < len * P.cellsOf e
            · rw [if_pos c1] at hu'
              obtain ⟨x, e1, e2⟩ := o3 j u hu'
              exact ⟨x, by rw [List.getElem?_append_left (by omega)]; exact e1, e2⟩
            · rw [if_neg c1] at hu'
              obtain ⟨x, e1, e2⟩ := src.rel _ _ hu'
              exact ⟨x, by rw [List.getElem?_append_right (by omega), o1]; exact e1, e2⟩
      · exact k1.elim
    · exact h.elim
  · exact h.elim

theorem copyV_sound (S : Sim ng g t m a w) {ty rt : TypeId} {at' : Array TypeId} (hat : at'.toList.head? = some ty) {d x : V} {dv xv : Value} (hd : Rv m.length g d dv) (hx : Rv m.length g x xv) (h : copyV P ty d x m K) :
    ∃ r w', (Builtin.copy_ at' rt #[dv, xv]).run P w = .ok r w' ∧ After K g m w r w' := by
  unfold copyV at h
  split at h
  · rename_i e i off n he
    have hu : P.underlying ty = some (.slice e) := by
      unfold sliceD at he
      split at he
      · cases he; assumption
      · exact nomatch he
    obtain ⟨h1, h2⟩ := br_F h
    have h1 : 0 < P.cellsOf e := by simpa using h1
    obtain ⟨inf, hinf⟩ : ∃ i, P.info? e = some i := by
      unfold Program.cellsOf at h1
      cases hi : P.info? e with
      | none => simp [hi] at h1
      | some i => exact ⟨i, rfl⟩
    have hsz : inf.size = P.cellsOf e := by simp [Program.cellsOf, hinf]
    have hat0 : at'[0]? = some ty := by
      rw [← Array.getElem?_toList, ← hat, List.head?_eq_getElem?]
    split at h2
    · rename_i j off' n'
      obtain ⟨c, k1, k2, k3, k4⟩ := segB_spec h2
      split at k1
      · rename_i hw
        obtain ⟨b', q1, q2, q3, q4, q5, q6⟩ := pasteB_spec k1
        rw [setB_eq] at q1
        have hb := getB_some (.inr hw)
        have R := S.rep.blk i _ hb
        simp only [Rv] at hd hx
        obtain ⟨hi0, hv, A, cap, hdv, _, hA⟩ := hd
        obtain ⟨_, _, B', cap', hxv, hcap', hB⟩ := hx
        subst hdv; subst hxv
        obtain ⟨xs, o1, o2, o3⟩ := cells_of S k4 k3
        have hread : (Builtin.firstCells inf.size (min n' n) (.slice B' n' cap')).run P w = .ok xs.toArray w := by
          by_cases h0 : min n' n = 0
          · have hx0 : xs = [] := List.length_eq_zero_iff.1 (by rw [o1, h0, Nat.zero_mul])
            subst hx0
            rw [h0]
            cases B' with
            | none => exact run_firstCells_none w inf.size 0 n' cap'
            | some A => exact run_firstCells_some w inf.size 0 A n' cap' [] (by simp) (by simp)
          · rw [hB (by omega)]
            refine run_firstCells_some w inf.size _ _ n' cap' xs (by rw [o1, hsz]) (fun j y hy => ?_)
            rw [Addr_add]
            exact o2 j y hy
        have hone : ∀ (j : Nat) x, xs[j]? = some x → x.oneCell' = true := fun j x hx => by
          have hj := (List.getElem?_eq_some_iff.1 hx).1
          obtain ⟨v, hv⟩ := B.get_size (b := c) (j := j) (by omega)
          obtain ⟨y, hy, hr⟩ := o3 j v hv
          rw [hx] at hy; cases hy
          exact one_of (k2.2 j v hv) hr
        have hlen : xs.length = c.size := by omega
        obtain ⟨w', r1, r2, r3⟩ := run_storeCells (P := P) (g i).1 ((g i).2 + off) xs 0 w (fun j z hz => by
          have hj := (List.getElem?_eq_some_iff.1 hz).1
          obtain ⟨u, hu'⟩ := B.get_size (b := (getB m i).b) (j := off + j) (by omega)
          obtain ⟨y, hy, _⟩ := R.cell _ _ hu'
          refine ⟨hone j z hz, y, ?_⟩
          rw [← hy]; congr 2; omega) (fun j => R.free hw (live_of_row q2) j)
        have W := wrote_rep (b' := b') (ver := b'.vof) S hb hw q2 q3 r2 (fun j u hu' => by
          rw [q6] at hu'
          rw [r3 ((g i).2 + j)]
          by_cases c1 : off ≤ j ∧ j < off + c.size
          · rw [if_pos c1] at hu'
            obtain ⟨x, e1, e2⟩ := o3 _ _ hu'
            rw [if_pos (by omega)]
            exact ⟨x, by rw [← e1]; congr 1; omega, e2⟩
          · rw [if_neg c1] at hu'
            rw [if_neg (by omega)]
            exact R.cell _ _ hu') (fun j ⟨z, hz⟩ => by
          rw [r3 j]
          by_cases c1 : (g i).2 + off + 0 ≤ j ∧ j < (g i).2 + off + 0 + xs.length
          · rw [if_pos c1]
            exact ⟨_, List.getElem?_eq_getElem (by omega)⟩
          · rw [if_neg c1]; exact ⟨z, hz⟩) rfl (.inl q4)
        rw [place_same R q4] at W
        refine ⟨.int .i64 (min n' n : Nat), w', ?_, _, _, _, q1, rfl, W.1, W.2⟩
        have hmin : Nat.min n' n = min n' n := rfl
        simp only [Builtin.copy_, hat0, List.getElem?_toArray, List.getElem?_cons_zero, List.getElem?_cons_succ, Sem.run_bind, run_underlying hu, Result.andThen_ok, Builtin.lenOf, Sem.run_pure, hmin, run_sizeOf w hinf, hread]
        rw [← hsz, hread]
        simp only [Result.andThen_ok]
        by_cases h0 : n = 0
        · subst h0
          have hx0 : xs = [] := List.length_eq_zero_iff.1 (by rw [o1]; simp)
          subst hx0
          have hw0 : w' = w := by
            simp only [storeCells, Sem.run_pure, Result.ok.injEq] at r1; exact r1.2.symm
          subst hw0
          cases A with
          | none => simp [goInt]
          | some A => simp [goInt, storeCells]
        · rw [hA (by omega)]
          simp [r1, goInt]
      · exact k1.elim
    · exact h2.elim
  · exact h.elim
end
end Go.Eng
