/- The engine, part 3: small laws of the evaluator's words and of what an abstract state says of a world. No condition. -/
import Derived.Test.YtbfdbpmdibjanaaDoorE2
namespace Go.Eng
open Go

theorem fV_eq (v : V) (K : V → Prop) : fV v K = K v := by cases v <;> rfl
theorem fVs_eq (l : List V) : ∀ K : List V → Prop, fVs l K = K l := by
  induction l with
  | nil => intro K; rfl
  | cons v l ih => intro K; show fV v (fun v => fVs l fun vs => K (v :: vs)) = _; rw [fV_eq, ih]
theorem setT_eq (l : List V) : ∀ (n : Nat) (v : V) (K : List V → Prop), setT l n v K = K (l.set n v) := by
  induction l with
  | nil => intro n v K; rfl
  | cons a l ih =>
    intro n v K
    cases n with
    | zero => rfl
    | succ n => show setT l n v (fun l => K (a :: l)) = _; rw [ih]; rfl
theorem setB_eq (l : List Blk) : ∀ (n : Nat) (v : Blk) (K : List Blk → Prop), setB l n v K = K (l.set n v) := by
  induction l with
  | nil => intro n v K; rfl
  | cons a l ih =>
    intro n v K
    cases n with
    | zero => rfl
    | succ n => show setB l n v (fun l => K (a :: l)) = _; rw [ih]; rfl
theorem addB_eq (l : List Blk) : ∀ (b : Blk) (K : Nat → List Blk → Prop), addB l b K = K l.length (l ++ [b]) := by
  induction l with
  | nil => intro b K; rfl
  | cons a l ih => intro b K; show addB l b (fun n l => K (n + 1) (a :: l)) = _; rw [ih]; rfl
theorem getT_eq (l : List V) : ∀ n, getT l n = l.getD n V.un := by
  induction l with
  | nil => intro n; simp [getT]
  | cons a l ih => intro n; cases n <;> simp [getT, ih]
theorem getB_eq (l : List Blk) : ∀ n, getB l n = l.getD n ⟨false, .dead⟩ := by
  induction l with
  | nil => intro n; simp [getB]
  | cons a l ih => intro n; cases n <;> simp [getB, ih]
theorem lenL_eq (l : List V) : lenL l = l.length := by
  induction l with
  | nil => rfl
  | cons a l ih => simp [lenL, ih]
theorem ltL_eq (l : List V) : ∀ n, ltL n l = decide (n < l.length) := by
  induction l with
  | nil => intro n; simp [ltL]
  | cons a l ih => intro n; cases n <;> simp [ltL, ih]
theorem takeL_eq (l : List V) : ∀ n, takeL n l = l.take n := by
  induction l with
  | nil => intro n; cases n <;> simp [takeL]
  | cons a l ih => intro n; cases n <;> simp [takeL, ih]
theorem dropL_eq (l : List V) : ∀ n, dropL n l = l.drop n := by
  induction l with
  | nil => intro n; cases n <;> simp [dropL]
  | cons a l ih => intro n; cases n <;> simp [dropL, ih]
theorem appL_eq (l : List V) (l' : List V) : appL l l' = l ++ l' := by
  induction l with
  | nil => rfl
  | cons a l ih => simp [appL, ih]
theorem evArgs_eq (ng : Nat) (t : List V) (os : List Operand) : ∀ K : List V → Prop, evArgs ng t os K = K (os.map (evO ng t)) := by
  induction os with
  | nil => intro K; rfl
  | cons o os ih => intro K; show fV (evO ng t o) (fun v => evArgs ng t os fun vs => K (v :: vs)) = _; rw [fV_eq, ih]; rfl
theorem evParts_eq (ng : Nat) (t : List V) (ps : List (Nat × Operand)) : ∀ K : List (Nat × V) → Prop, evParts ng t ps K = K (ps.map fun p => (p.1, evO ng t p.2)) := by
  induction ps with
  | nil => intro K; rfl
  | cons o os ih => intro K; show fV (evO ng t o.2) (fun v => evParts ng t os fun l => K ((o.1, v) :: l)) = _; rw [fV_eq, ih]; rfl
theorem tmps0_eq (l : List V) : ∀ (n : Nat) (K : List V → Prop), tmps0 l n K = K (l ++ List.replicate (n - l.length) V.un) := by
  induction l with
  | nil => intro n K; rfl
  | cons a l ih =>
    intro n K
    show tmps0 l (n - 1) (fun l => K (a :: l)) = _
    rw [ih]
    simp only [List.length_cons, List.cons_append]
    congr 4; omega
theorem br_iff (c : Bool) (A B : Prop) : br c A B ↔ (c = true ∧ A) ∨ (c = false ∧ B) := by cases c <;> simp [br]
theorem br_F {c : Bool} {A : Prop} (h : br c A False) : c = true ∧ A := by cases c <;> simp_all [br]
theorem sameKind_eq {k k' : IntKind} (h : sameKind k k' = true) : k' = k := by cases k <;> cases k' <;> first | rfl | (simp [sameKind] at h)

/-! ### 'Rv' -/
section
variable {n n' : Nat} {g g' : Nat → Pl}
theorem Rvs_length : ∀ {vs : List V} {xs : List Value}, Rvs n g vs xs → xs.length = vs.length
  | [], xs, h => by simp [Rvs] at h; simp [h]
  | v :: vs, xs, h => by
    simp only [Rvs] at h
    obtain ⟨y, ys, rfl, _, h2⟩ := h
    simp [Rvs_length h2]
theorem Rvs_get : ∀ {vs : List V} {xs : List Value}, Rvs n g vs xs → ∀ {i : Nat} {v : V}, vs[i]? = some v → ∃ x, xs[i]? = some x ∧ Rv n g v x
  | [], xs, _, i, v, e => by simp at e
  | v :: vs, xs, h, i, u, e => by
    simp only [Rvs] at h
    obtain ⟨y, ys, rfl, h1, h2⟩ := h
    cases i with
    | zero => simp at e; subst e; exact ⟨y, by simp, h1⟩
    | succ i => simp at e; obtain ⟨x, hx, hr⟩ := Rvs_get h2 e; exact ⟨x, by simpa using hx, hr⟩
theorem Rvs_of : ∀ {vs : List V} {xs : List Value}, xs.length = vs.length → (∀ (i : Nat) (v : V) (x : Value), vs[i]? = some v → xs[i]? = some x → Rv n g v x) → Rvs n g vs xs
  | [], xs, hl, _ => by simp [Rvs]; exact List.length_eq_zero_iff.1 (by simpa using hl)
  | v :: vs, [], hl, _ => by simp at hl
  | v :: vs, x :: xs, hl, h => by
    simp only [Rvs]
    exact ⟨x, xs, rfl, h 0 v x rfl rfl, Rvs_of (by simpa using hl) (fun i v' x' h1 h2 => h (i + 1) v' x' (by simpa using h1) (by simpa using h2))⟩
theorem Rvs_append : ∀ {vs us : List V} {xs ys : List Value}, Rvs n g vs xs → Rvs n g us ys → Rvs n g (vs ++ us) (xs ++ ys)
  | [], us, xs, ys, h, h' => by simp [Rvs] at h; subst h; simpa using h'
  | v :: vs, us, xs, ys, h, h' => by
    simp only [Rvs] at h
    obtain ⟨y, zs, rfl, h1, h2⟩ := h
    simp only [List.cons_append, Rvs]
    exact ⟨y, zs ++ ys, rfl, h1, Rvs_append h2 h'⟩
theorem Rvs_set : ∀ {vs : List V} {xs : List Value}, Rvs n g vs xs → ∀ (i : Nat) {v x}, Rv n g v x → Rvs n g (vs.set i v) (xs.set i x)
  | [], xs, h, i, v, x, _ => by simp [Rvs] at h; subst h; simp [Rvs]
  | u :: vs, xs, h, i, v, x, hr => by
    simp only [Rvs] at h
    obtain ⟨y, zs, rfl, h1, h2⟩ := h
    cases i with
    | zero => simp only [List.set_cons_zero, Rvs]; exact ⟨x, zs, rfl, hr, h2⟩
    | succ i => simp only [List.set_cons_succ, Rvs]; exact ⟨y, _, rfl, h1, Rvs_set h2 i hr⟩
theorem Rvs_take : ∀ {vs : List V} {xs : List Value}, Rvs n g vs xs → ∀ (i : Nat), Rvs n g (vs.take i) (xs.take i)
  | [], xs, h, i => by simp [Rvs] at h; subst h; simp [Rvs]
  | u :: vs, xs, h, i => by
    simp only [Rvs] at h
    obtain ⟨y, zs, rfl, h1, h2⟩ := h
    cases i with
    | zero => simp [Rvs]
    | succ i => simp only [List.take_succ_cons, Rvs]; exact ⟨y, _, rfl, h1, Rvs_take h2 i⟩
theorem Rvs_drop : ∀ {vs : List V} {xs : List Value}, Rvs n g vs xs → ∀ (i : Nat), Rvs n g (vs.drop i) (xs.drop i)
  | [], xs, h, i => by simp [Rvs] at h; subst h; simp [Rvs]
  | u :: vs, xs, h, i => by
    have h0 := h
    simp only [Rvs] at h
    obtain ⟨y, zs, rfl, h1, h2⟩ := h
    cases i with
    | zero => simpa using h0
    | succ i => simpa using Rvs_drop h2 i
theorem Rv_un : Rv n g V.un undef := by simp [Rv]
theorem Rvs_getD {vs : List V} {xs : List Value} (h : Rvs n g vs xs) (i : Nat) : Rv n g (vs.getD i V.un) (xs.getD i undef) := by
  rcases Nat.lt_or_ge i vs.length with hi | hi
  · obtain ⟨x, hx, hr⟩ := Rvs_get h (i := i) (v := vs[i]) (by simp [hi])
    rw [List.getD_eq_getElem?_getD, List.getD_eq_getElem?_getD, hx, List.getElem?_eq_getElem hi]
    exact hr
  · have hx := Rvs_length h
    rw [List.getD_eq_getElem?_getD, List.getD_eq_getElem?_getD, List.getElem?_eq_none hi, List.getElem?_eq_none (by omega)]
    exact Rv_un
theorem Rvs_replicate_un : ∀ k : Nat, Rvs n g (List.replicate k V.un) (List.replicate k undef)
  | 0 => by simp [Rvs]
  | k + 1 => by simp only [List.replicate_succ, Rvs]; exact ⟨_, _, rfl, Rv_un, Rvs_replicate_un k⟩
theorem Rvs_map {α : Type} (f : α → V) (h : α → Value) : ∀ (l : List α), (∀ a ∈ l, Rv n g (f a) (h a)) → Rvs n g (l.map f) (l.map h)
  | [], _ => by simp [Rvs]
  | a :: l, hh => by
    simp only [List.map_cons, Rvs]
    exact ⟨_, _, rfl, hh a (by simp), Rvs_map f h l (fun b hb => hh b (by simp [hb]))⟩

/-- A block stays, or a row that grows comes to a later version. -/
def Ag (p p' : Pl) : Prop := p' = p ∨ (0 < p.4 ∧ p.4 < p'.4)
theorem Ag.zero {p p' : Pl} (h : Ag p p') (h0 : p.4 = 0) : p' = p := by
  rcases h with h | ⟨h, _⟩
  · exact h
  · omega
theorem Ag.le {p p' : Pl} (h : Ag p p') : p.4 ≤ p'.4 := by
  rcases h with h | ⟨_, h⟩
  · rw [h]; exact Nat.le_refl _
  · omega
theorem Ag.same {p p' : Pl} (h : Ag p p') {v : Nat} (hv : v < p.4) (h' : v + 1 = p'.4) : v + 1 = p.4 ∧ p' = p := by
  rcases h with h | ⟨_, h⟩
  · rw [h] at h'; exact ⟨h', h⟩
  · omega
mutual
theorem Rv_monoA (hn : n ≤ n') (hg : ∀ i, i < n → Ag (g i) (g' i)) : ∀ (v : V) {x : Value}, Rv n g v x → Rv n' g' v x
  | .bool b, x, h => by simpa [Rv] using h
  | .int k a, x, h => by simpa [Rv] using h
  | .fl o, x, h => by simpa [Rv] using h
  | .raw v, x, h => by simpa [Rv] using h
  | .any, x, h => by simp [Rv]
  | .ptr i off, x, h => by
    simp only [Rv] at *
    have e := (hg i h.1).zero h.2.1
    exact ⟨by omega, by rw [e]; exact h.2⟩
  | .sl i off len, x, h => by
    simp only [Rv] at *
    have e := (hg i h.1).zero h.2.1
    exact ⟨by omega, by rw [e]; exact h.2⟩
  | .mp i, x, h => by
    simp only [Rv] at *
    have e := (hg i h.1).zero h.2.1
    exact ⟨by omega, by rw [e]; exact h.2⟩
  | .sk i off len cap, x, h => by
    simp only [Rv] at *
    have e := (hg i h.1).zero h.2.1
    exact ⟨by omega, by rw [e]; exact h.2⟩
  | .gp i v off, x, h => by
    simp only [Rv] at *
    obtain ⟨h1, h2, a, h3, h4⟩ := h
    refine ⟨by omega, Nat.lt_of_lt_of_le h2 (hg i h1).le, a, h3, fun e => ?_⟩
    obtain ⟨e1, e2⟩ := (hg i h1).same h2 e
    rw [e2]; exact h4 e1
  | .gs i v es len, x, h => by
    simp only [Rv] at *
    obtain ⟨h1, h2, a, c, h3, h5, h4⟩ := h
    refine ⟨by omega, Nat.lt_of_lt_of_le h2 (hg i h1).le, a, c, h3, h5, fun e => ?_⟩
    obtain ⟨e1, e2⟩ := (hg i h1).same h2 e
    rw [e2]; exact h4 e1
  | .agg cs, x, h => by
    simp only [Rv] at *
    obtain ⟨xs, h1, h2⟩ := h
    exact ⟨xs, h1, Rvs_monoA hn hg cs h2⟩
  | .tup cs, x, h => by
    simp only [Rv] at *
    obtain ⟨xs, h1, h2⟩ := h
    exact ⟨xs, h1, Rvs_monoA hn hg cs h2⟩
  | .clo fn a b, x, h => by
    simp only [Rv] at *
    obtain ⟨xs, ys, h1, h2, h3⟩ := h
    exact ⟨xs, ys, h1, Rvs_monoA hn hg a h2, Rvs_monoA hn hg b h3⟩
theorem Rvs_monoA (hn : n ≤ n') (hg : ∀ i, i < n → Ag (g i) (g' i)) : ∀ (vs : List V) {xs : List Value}, Rvs n g vs xs → Rvs n' g' vs xs
  | [], xs, h => by simpa [Rvs] using h
  | v :: vs, xs, h => by
    simp only [Rvs] at *
    obtain ⟨y, ys, h1, h2, h3⟩ := h
    exact ⟨y, ys, h1, Rv_monoA hn hg v h2, Rvs_monoA hn hg vs h3⟩
end
theorem Rv_mono (hn : n ≤ n') (hg : ∀ i, i < n → g' i = g i) (v : V) {x : Value} (h : Rv n g v x) : Rv n' g' v x := Rv_monoA hn (fun i hi => .inl (hg i hi)) v h
theorem Rvs_mono (hn : n ≤ n') (hg : ∀ i, i < n → g' i = g i) (vs : List V) {xs : List Value} (h : Rvs n g vs xs) : Rvs n' g' vs xs := Rvs_monoA hn (fun i hi => .inl (hg i hi)) vs h

theorem Rv_ofVal1 (v : Value) : Rv n g (ofVal1 v) v := by
  cases v <;> simp [ofVal1, Rv]
  case float k b => cases k <;> simp [Rv, fden]
theorem Rvs_ofVals : ∀ l : List Value, Rvs n g (ofVals l) l
  | [] => by simp [ofVals, Rvs]
  | v :: l => by simp only [ofVals, Rvs]; exact ⟨v, l, rfl, Rv_ofVal1 v, Rvs_ofVals l⟩
theorem Rv_ofVal (v : Value) : Rv n g (ofVal v) v := by
  cases v <;> simp only [ofVal]
  case agg cs => exact ⟨_, rfl, Rvs_ofVals _⟩
  all_goals exact Rv_ofVal1 _
end

/-! ### States -/
structure Sim (ng : Nat) (g : Nat → Pl) (t : List V) (m : List Blk) (a : Act) (w : World) : Prop where
  defers : a.defers = []
  tmps : Rvs m.length g t a.tmps.toList
  rep : Rep g m w
  glob : ng ≤ m.length ∧ ∀ i, i < ng → g i = ⟨i, 0, 0, 0⟩

theorem Step.ag {g g' : Nat → Pl} {m m' : List Blk} {w w' : World} (h : Step g m w g' m' w') (i : Nat) (hi : i < m.length) : Ag (g i) (g' i) := by
  rcases (h.agree i hi).2 with e | ⟨_, e⟩
  · exact .inl e
  · exact .inr e
/-- What is said where all blocks stay. -/
theorem agree_of {g g' : Nat → Pl} {m m' : List Blk} (h : ∀ i, i < m.length → g' i = g i ∧ (getB m' i).b.vof = (getB m i).b.vof) : ∀ i, i < m.length → (getB m i).b.vof ≤ (getB m' i).b.vof ∧ (g' i = g i ∨ ((getB m i).b.vof < (getB m' i).b.vof ∧ 0 < (g i).4 ∧ (g i).4 < (g' i).4)) :=
  fun i hi => ⟨Nat.le_of_eq (h i hi).2.symm, .inl (h i hi).1⟩
theorem Step.eq {g g' : Nat → Pl} {m : List Blk} {w w' : World} (h : Step g m w g' m w') (i : Nat) (hi : i < m.length) : g' i = g i := by
  rcases (h.agree i hi).2 with e | ⟨e, _⟩
  · exact e
  · omega
theorem Step.refl (g : Nat → Pl) (m : List Blk) (w : World) : Step g m w g m w :=
  ⟨Nat.le_refl _, agree_of fun _ _ => ⟨rfl, rfl⟩, rfl, rfl, rfl, Nat.le_refl _, fun _ _ _ => rfl, fun _ _ h => h⟩
theorem Step.trans {g g1 g2 : Nat → Pl} {m m1 m2 : List Blk} {w w1 w2 : World} (h : Step g m w g1 m1 w1) (h' : Step g1 m1 w1 g2 m2 w2) : Step g m w g2 m2 w2 :=
  ⟨Nat.le_trans h.len h'.len, fun i hi => by
      obtain ⟨a1, a2⟩ := h.agree i hi
      obtain ⟨b1, b2⟩ := h'.agree i (Nat.lt_of_lt_of_le hi h.len)
      refine ⟨Nat.le_trans a1 b1, ?_⟩
      rcases a2 with a2 | ⟨a2, a3, a4⟩
      · rw [← a2]
        rcases b2 with b2 | ⟨b2, b3⟩
        · exact .inl b2
        · exact .inr ⟨by omega, b3⟩
      · rcases b2 with b2 | ⟨b2, b3⟩
        · rw [b2]; exact .inr ⟨by omega, a3, a4⟩
        · exact .inr ⟨by omega, a3, by omega⟩, h'.os.trans h.os, h'.tape.trans h.tape, h'.output.trans h.output,
    Nat.le_trans h.size h'.size,
    fun p hp hf => by rw [h'.same p (Nat.lt_of_lt_of_le hp h.size) (fun hf' => hf (h.foot p hp hf')), h.same p hp hf],
    fun p hp hf => h.foot p hp (h'.foot p (Nat.lt_of_lt_of_le hp h.size) hf)⟩
/-- A draw. -/
theorem Step.drawn (g : Nat → Pl) (m : List Blk) (w : World) (k : Nat) : Step g m w g m { w with drawn := k } :=
  ⟨Nat.le_refl _, agree_of fun _ _ => ⟨rfl, rfl⟩, rfl, rfl, rfl, Nat.le_refl _, fun _ _ _ => rfl, fun _ _ h => h⟩
/-- What is said of a block hangs on its heap block alone. -/
theorem RepB.congr {n n' : Nat} {g g' : Nat → Pl} {w w' : World} {p : Pl} {b : Blk} (h : RepB n g w p b) (hh : w'.heap[p.1]? = w.heap[p.1]?) (hn : n ≤ n') (hg : ∀ i, i < n → Ag (g i) (g' i)) : RepB n' g' w' p b := by
  refine ⟨?_, fun j v hv => ?_, fun hw hl j => ?_, fun hl j hj => ?_, fun f hf => ?_, h.ver⟩
  · have h1 := h.size
    rcases Nat.lt_or_ge p.1 w'.heap.size with h2 | h2
    · exact h2
    · rw [Array.getElem?_eq_none h2, Array.getElem?_eq_getElem h1] at hh
      exact nomatch hh
  · obtain ⟨x, hx, hr⟩ := h.cell j v hv
    exact ⟨x, by unfold World.cell? at *; rw [hh]; exact hx, Rv_monoA hn hg v hr⟩
  · have := h.free hw hl j
    unfold World.frozen? at *; rw [hh]; exact this
  · obtain ⟨y, hy⟩ := h.room hl j hj
    exact ⟨y, by unfold World.cell? at *; rw [hh]; exact hy⟩
  · obtain ⟨es, ck, h1, h2⟩ := h.map f hf
    exact ⟨es, ck, by rw [hh]; exact h1, h2⟩
theorem Rep.heap {g : Nat → Pl} {m : List Blk} {w w' : World} (h : Rep g m w) (hh : w'.heap = w.heap) : Rep g m w' :=
  ⟨fun i b hb => (h.blk i b hb).congr (by rw [hh]) (Nat.le_refl _) fun _ _ => .inl rfl, h.apart⟩

theorem eval_Rv {ng : Nat} {g : Nat → Pl} {t : List V} {m : List Blk} {a : Act} {w : World} (S : Sim ng g t m a w) (o : Operand) : Rv m.length g (evO ng t o) (a.eval o) := by
  cases o with
  | tmp i =>
    simp only [evO, Act.eval, getT_eq]
    have := Rvs_getD S.tmps i
    rwa [show a.tmps.toList.getD i undef = a.tmps.getD i undef by simp] at this
  | const v => exact Rv_ofVal v
  | global i =>
    simp only [evO, Act.eval]
    split
    · rename_i h
      have h' : i < ng := by simpa using h
      simp only [Rv]
      rw [S.glob.2 i h']
      exact ⟨by have := S.glob.1; omega, rfl, rfl⟩
    · rfl
  | func f =>
    simp only [evO, Act.eval, Rv]
    exact ⟨#[], #[], rfl, by simp [Rvs], by simp [Rvs]⟩

end Go.Eng
