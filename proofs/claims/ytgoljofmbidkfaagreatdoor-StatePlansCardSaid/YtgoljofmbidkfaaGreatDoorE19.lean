import Derived.Test.YtgoljofmbidkfaaGreatDoorE15
/- The engine: parts 16 to 19. No condition. -/
/- The engine, part 16: regions that draw their order: one walk serves every order. No condition. -/
namespace Go.Eng
open Go

/-! ### Who has written a slot -/
def Wr (ops : Array Oper) (v : Nat → V) (t0 : List V) (D : Nat → Prop) (x : Nat) (u : V) : Prop :=
  (∃ j o, ops[j]? = some o ∧ D j ∧ o.dst = some x ∧ u = v j ∧ ∀ k o', ops[k]? = some o' → D k → o'.dst = some x → k ≤ j) ∨
  ((∀ j o, ops[j]? = some o → D j → o.dst ≠ some x) ∧ u = getT t0 x)
section
variable {ops : Array Oper} {v : Nat → V} {t0 : List V} {D D' : Nat → Prop} {x : Nat} {u u' : V}
theorem Wr.unique (h : Wr ops v t0 D x u) (h' : Wr ops v t0 D x u') : u = u' := by
  rcases h with ⟨j, o, h1, h2, h3, rfl, h5⟩ | ⟨h1, rfl⟩
  · rcases h' with ⟨k, o', k1, k2, k3, rfl, k5⟩ | ⟨k1, rfl⟩
    · have := h5 k o' k1 k2 k3
      have := k5 j o h1 h2 h3
      have : j = k := by omega
      rw [this]
    · exact absurd h3 (k1 j o h1 h2)
  · rcases h' with ⟨k, o', k1, k2, k3, rfl, k5⟩ | ⟨k1, rfl⟩
    · exact absurd k3 (h1 k o' k1 k2)
    · rfl
theorem Wr.congr (h : Wr ops v t0 D x u) (e : ∀ j o, ops[j]? = some o → o.dst = some x → (D j ↔ D' j)) : Wr ops v t0 D' x u := by
  rcases h with ⟨j, o, h1, h2, h3, rfl, h5⟩ | ⟨h1, rfl⟩
  · exact .inl ⟨j, o, h1, (e j o h1 h3).1 h2, h3, rfl, fun k o' k1 k2 k3 => h5 k o' k1 ((e k o' k1 k3).2 k2) k3⟩
  · exact .inr ⟨fun j o h2 h3 h4 => h1 j o h2 ((e j o h2 h4).2 h3) h4, rfl⟩
theorem Wr.add (h : Wr ops v t0 D x u) {i : Nat} {o : Oper} (hi : ops[i]? = some o) (hx : o.dst ≠ some x) : Wr ops v t0 (fun j => D j ∨ j = i) x u :=
  h.congr fun j o' h1 h2 => ⟨.inl, fun h' => by
    rcases h' with h' | rfl
    · exact h'
    · rw [hi] at h1; cases h1; exact absurd h2 hx⟩
theorem Wr.new {i : Nat} {o : Oper} (hi : ops[i]? = some o) (hx : o.dst = some x) (hm : ∀ k o', ops[k]? = some o' → D k → o'.dst = some x → k ≤ i) : Wr ops v t0 (fun j => D j ∨ j = i) x (v i) :=
  .inl ⟨i, o, hi, .inr rfl, hx, rfl, fun k o' k1 k2 k3 => by
    rcases k2 with k2 | rfl
    · exact hm k o' k1 k2 k3
    · exact Nat.le_refl _⟩
theorem getT_set (t : List V) (d x : Nat) (u : V) : getT (t.set d u) x = if d = x ∧ x < t.length then u else getT t x := by
  rw [getT_eq, getT_eq, List.getD_eq_getElem?_getD, List.getD_eq_getElem?_getD, List.getElem?_set]
  by_cases h : d = x
  · subst h
    by_cases hl : d < t.length
    · simp [hl]
    · simp [hl]
  · simp [h]
theorem putL_length (d : Option Tmp) (t : List V) (u : V) : (putL d t u).length = t.length := by cases d <;> simp [putL]
theorem Wr.text {T : Nat → List V} (h0 : T 0 = t0) (hT : ∀ (k : Nat) (o : Oper), ops.toList[k]? = some o → T (k + 1) = putL o.dst (T k) (v k)) :
    ∀ k, k ≤ ops.size → (T k).length = t0.length ∧ ∀ x, x < t0.length → Wr ops v t0 (fun j => j < k) x (getT (T k) x)
  | 0, _ => by rw [h0]; exact ⟨rfl, fun x _ => .inr ⟨fun j o _ hj => absurd hj (by omega), rfl⟩⟩
  | k + 1, hk => by
    obtain ⟨l, ih⟩ := Wr.text h0 hT k (by omega)
    have ho : ops.toList[k]? = some ops[k] := by simp [show k < ops.size by omega]
    have ho' : ops[k]? = some ops[k] := by simp [show k < ops.size by omega]
    rw [hT k _ ho]
    refine ⟨by rw [putL_length, l], fun x hx => ?_⟩
    have step : ∀ u, Wr ops v t0 (fun j => j < k ∨ j = k) x u → Wr ops v t0 (fun j => j < k + 1) x u := fun u h => h.congr fun j o _ _ => by omega
    apply step
    cases hd : ops[k].dst with
    | none => exact (ih x hx).add ho' (by rw [hd]; simp)
    | some d =>
      simp only [putL]
      rw [getT_set]
      by_cases hdx : d = x
      · subst hdx
        rw [if_pos ⟨rfl, by omega⟩]
        exact .new ho' hd (fun j o' _ hj _ => by omega)
      · rw [if_neg (fun h => hdx h.1)]
        exact (ih x hx).add ho' (by rw [hd]; simpa using hdx)
end

/-! ### What the look gives -/
structure Looked (Lax : Prop) (ops : Array Oper) (s : Nat) : Prop where
  first : s = firstEff ops.toList
  back : ∀ (k : Nat) (o : Oper), ops[k]? = some o → ∀ e ∈ o.after, Region.binds .any e = true → e.on < k
  self : ∀ (k : Nat) (o : Oper), ops[k]? = some o → kd o.op = .mk → ∃ d, o.dst = some d ∧ d ∉ o.looksAt ops
  pair : ∀ (i j : Nat) (x y : Oper), i < j → ops[i]? = some x → ops[j]? = some y →
    (Pre ops.toList i j ∨ x.apart ops y = true) ∧
    (s ≤ j → kd x.op ≠ .pure → kd y.op ≠ .pure → Pre ops.toList i j ∨ (Lax ∧ i < s ∧ isLoad x = true)) ∧
    (kd x.op = .mk → i < s → ∃ d, x.dst = some d ∧ (d ∈ y.looksAt ops → s ≤ j ∧ kd y.op ≠ .pure) ∧ y.dst ≠ some d) ∧
    (kd y.op = .mk → j < s → ∃ d, y.dst = some d ∧ d ∉ x.looksAt ops ∧ x.dst ≠ some d)
theorem looked {lax : Bool} {ops : Array Oper} (h : lookX lax ops = true) : Looked (lax = true) ops (firstEff ops.toList) := by
  simp only [lookX, Bool.and_eq_true] at h
  obtain ⟨⟨h1, h2⟩, h3⟩ := h
  have hms := masks_spec (ops := ops.toList) ops.toList [] (by simp) (by simp)
  refine ⟨rfl, fun k o ho e he hb => ?_, fun k o ho hm => ?_, fun i j x y hij hx hy => ?_⟩
  · have := edgesBack_spec _ 0 h1 k o (by simpa using ho) e he hb; omega
  · obtain ⟨d, hd, hr⟩ := selfOk_spec _ h2 k o (by simpa using ho) hm
    exact ⟨d, hd, by simpa [reads] using hr⟩
  · have hp := pairsAll_spec _ 0 h3 i j x y hij (by simpa using hx) (by simpa using hy)
    simp only [Nat.zero_add, pairOk, Bool.and_eq_true] at hp
    obtain ⟨⟨⟨p1, p2⟩, p3⟩, p4⟩ := hp
    refine ⟨?_, fun hs hx' hy' => ?_, fun hm his => ?_, fun hm hjs => ?_⟩
    · rw [Bool.or_eq_true] at p1
      exact p1.imp (hms j i) id
    · have : Nat.ble (firstEff ops.toList) j = true := by simpa using hs
      simp only [this, Bool.not_true, Bool.false_or, Bool.or_eq_true, beq_iff_eq, hx', hy', false_or] at p2
      rcases p2 with p2 | p2
      · exact .inl (hms j i p2)
      · simp only [Bool.and_eq_true] at p2
        exact .inr ⟨p2.1.1, by simpa using p2.1.2, p2.2⟩
    · have : Nat.blt i (firstEff ops.toList) = true := by simpa using his
      simp only [hm, this, beq_self_eq_true, Bool.not_true, Bool.false_or] at p3
      cases hd : x.dst with
      | none => simp [hd] at p3
      | some d =>
        simp only [hd, Bool.and_eq_true, Bool.or_eq_true, Bool.not_eq_true'] at p3
        refine ⟨d, rfl, fun hr => ?_, ?_⟩
        · rcases p3.1 with q | q
          · exact absurd hr (by simpa [reads] using q)
          · exact ⟨by simpa using q.1, by simpa using q.2⟩
        · simpa [dstIs] using p3.2
    · have : Nat.blt j (firstEff ops.toList) = true := by simpa using hjs
      simp only [hm, this, beq_self_eq_true, Bool.not_true, Bool.false_or] at p4
      cases hd : y.dst with
      | none => simp [hd] at p4
      | some d =>
        simp only [hd, Bool.and_eq_true, Bool.not_eq_true'] at p4
        exact ⟨d, rfl, by simpa [reads] using p4.1, by simpa [dstIs] using p4.2⟩

def Closed (ops : Array Oper) (D : Nat → Prop) : Prop := ∀ i j, Pre ops.toList i j → D j → D i
theorem pre_ready {ops : Array Oper} {D : Nat → Prop} (hc : Closed ops D) {i : Nat} {o : Oper} (hi : ops[i]? = some o) (hr : ∀ e ∈ o.after, Region.binds .any e = true → D e.on) {j : Nat} (h : Pre ops.toList j i) : D j := by
  generalize hk : i = k at h
  induction h with
  | edge ho he hb =>
    subst hk
    have : o = _ := Option.some.inj (hi.symm.trans (by simpa using ho))
    subst this
    exact hr _ he hb
  | trans h h' ih ih' => exact hc _ _ h (ih' hk)
theorem apart_no {ops : Array Oper} {x y : Oper} {d : Nat} (h : x.apart ops y = true) : (x.dst = some d → d ∉ y.looksAt ops ∧ y.dst ≠ some d) ∧ (y.dst = some d → d ∉ x.looksAt ops ∧ x.dst ≠ some d) := by
  obtain ⟨h1, h2, h3⟩ := Oper.apart_spec h
  exact ⟨fun hd => ⟨h1 d hd, h2 d hd⟩, fun hd => ⟨h3 d hd, fun hx => h2 d hx hd⟩⟩

section
variable {Lax : Prop} {ops : Array Oper} {s : Nat} (L : Looked Lax ops s) {D : Nat → Prop} (hc : Closed ops D) {i : Nat} {o : Oper} (hi : ops[i]? = some o) (hn : ¬ D i) (hr : ∀ e ∈ o.after, Region.binds .any e = true → D e.on)
include L hc hi hn hr
/-- What an operation reads has been written by just those ahead of it. -/
theorem reads_text {x : Nat} (hx : x ∈ o.looksAt ops) : ∀ j o', ops[j]? = some o' → o'.dst = some x → (D j ↔ j < i) := by
  intro j o' hj hd
  rcases Nat.lt_trichotomy j i with h | h | h
  · refine ⟨fun _ => h, fun _ => ?_⟩
    rcases (L.pair j i o' o h hj hi).1 with hp | hap
    · exact pre_ready hc hi hr hp
    · exact absurd hx ((apart_no hap).1 hd).1
  · subst h; exact ⟨fun h => absurd h hn, fun h => absurd h (by omega)⟩
  · refine ⟨fun hDj => ?_, fun h' => by omega⟩
    rcases (L.pair i j o o' h hi hj).1 with hp | hap
    · exact absurd (hc _ _ hp hDj) hn
    · exact absurd hx ((apart_no hap).2 hd).1
omit hr in
/-- Nobody behind it has written its slot. -/
theorem writes_last {x : Nat} (hx : o.dst = some x) : ∀ k o', ops[k]? = some o' → D k → o'.dst = some x → k ≤ i := by
  intro k o' hk hDk hd
  rcases Nat.lt_or_ge i k with h | h
  · rcases (L.pair i k o o' h hi hk).1 with hp | hap
    · exact absurd (hc _ _ hp hDk) hn
    · exact absurd hd ((apart_no hap).1 hx).2
  · exact h
omit L hn in
theorem closed_add : Closed ops (fun j => D j ∨ j = i) := by
  intro k j hp hj
  rcases hj with hj | rfl
  · exact .inl (hc _ _ hp hj)
  · exact .inl (pre_ready hc hi hr hp)
end
end Go.Eng
/- The engine, part 17: regions that draw their order: the states on the way, and the theorem. No condition. -/
namespace Go.Eng
open Go

def mkLt (n : Nat) : List Oper → Bool
  | [] => true
  | o :: os => (!(kd o.op == .mk) || (match o.dst with | some d => Nat.blt d n | none => true)) && mkLt n os
theorem mkLt_spec {n : Nat} : ∀ {l : List Oper}, mkLt n l = true → ∀ (k : Nat) (o : Oper), l[k]? = some o → kd o.op = .mk → ∀ d, o.dst = some d → d < n
  | [], _, k, o, ho, _, _, _ => by simp at ho
  | z :: l, h, k, o, ho, hm, d, hd => by
    simp only [mkLt, Bool.and_eq_true] at h
    cases k with
    | zero =>
      simp at ho; subst ho
      have := h.1
      simp only [hm, beq_self_eq_true, Bool.not_true, Bool.false_or, hd] at this
      simpa using this
    | succ k => exact mkLt_spec h.2 k o (by simpa using ho) hm d hd

structure Ctx (Lax : Prop) (P : Program) (ng : Nat) (ops : Array Oper) (s : Nat) (m0 : List Blk) (t0 : List V) (T : Nat → List V) (M : Nat → List Blk) (run : Nat → Bool) (v : Nat → V) : Prop where
  L : Looked Lax ops s
  lt : mkLt t0.length ops.toList = true
  T0 : T 0 = t0
  M0 : M 0 = m0
  step : ∀ (k : Nat) (o : Oper), ops.toList[k]? = some o → T (k + 1) = putL o.dst (T k) (v k)
  entry : ∀ (k : Nat) (o : Oper), ops[k]? = some o → Entry P ng ops.toList m0 (Nat.ble s k) o (T k) (M k) (run k) (v k) (M (k + 1))
  free : Lax → ∀ (i : Nat) (o : Oper), ops[i]? = some o → i < s → isLoad o = true → run i = true → ∀ k, s < k → k ≤ ops.size → evOp P ng o.op (T i) (M k) fun u b => u = v i ∧ b = M k

section
variable {P : Program} {ng : Nat} {ops : Array Oper} {s : Nat} {m0 : List Blk} {t0 : List V} {T : Nat → List V} {M : Nat → List Blk} {run : Nat → Bool} {v : Nat → V}
variable {g0 : Nat → Pl} {w0 : World}

def Mk (ops : Array Oper) (s : Nat) (run : Nat → Bool) (j x : Nat) : Prop := ∃ o, ops[j]? = some o ∧ j < s ∧ kd o.op = .mk ∧ run j = true ∧ o.dst = some x
def NB (ops : Array Oper) (s : Nat) (k : Nat) : Prop := ∃ o, ops[k]? = some o ∧ s ≤ k ∧ kd o.op ≠ .pure
def GhostAt (m0 : List Blk) (w0 : World) (M : Nat → List Blk) (v : Nat → V) (g : Nat → Pl) (a : Act) (w : World) (j x p : Nat) : Prop :=
  ∀ sh cs, v j = mkV sh (M j).length → M (j + 1) = M j ++ [⟨true, .cells cs⟩] →
    ∃ c e, w.heap[p]? = some (.cells c e) ∧ w0.heap.size ≤ p ∧ a.tmps.getD x undef = mkX sh p ∧ Rvs m0.length g cs c.toList
structure StA (ng : Nat) (ops : Array Oper) (s : Nat) (m0 : List Blk) (t0 : List V) (M : Nat → List Blk) (run : Nat → Bool) (v : Nat → V) (g0 : Nat → Pl) (w0 : World)
    (D : Nat → Prop) (g : Nat → Pl) (t : List V) (pf : Nat → Nat) (a : Act) (w : World) : Prop where
  sim : Sim ng g t m0 a w
  step : Step g0 m0 w0 g m0 w
  len : t.length = t0.length
  wr : ∀ x, x < t0.length → (∀ j, ¬ Mk ops s run j x) → Wr ops v t0 D x (getT t x)
  ghost : ∀ j x, D j → Mk ops s run j x → GhostAt m0 w0 M v g a w j x (pf j) ∧ pf j < w.heap.size ∧ w0.heap.size ≤ pf j
  apart : ∀ j k x y, D j → D k → Mk ops s run j x → Mk ops s run k y → j ≠ k → pf j ≠ pf k
structure StB (ng : Nat) (ops : Array Oper) (m0 : List Blk) (t0 : List V) (v : Nat → V) (g0 : Nat → Pl) (w0 : World)
    (m : List Blk) (D : Nat → Prop) (g : Nat → Pl) (t : List V) (a : Act) (w : World) : Prop where
  sim : Sim ng g t m a w
  step : Step g0 m0 w0 g m w
  len : t.length = t0.length
  wr : ∀ x, x < t0.length → Wr ops v t0 D x (getT t x)

theorem Guard.congr {l : List Oper} {o : Oper} {t t' : List V} {r : Bool} (h : Guard l o t r) (e : ∀ j want d, o.guard = some (j, want) → dstOf l j = some d → getT t d = getT t' d) : Guard l o t' r := by
  unfold Guard at *
  split at h
  · rename_i hg; exact h
  · rename_i j want hg
    obtain ⟨d, h1, h2⟩ := h
    exact ⟨d, h1, by rw [← e j want d hg h1]; exact h2⟩
theorem wanted_of {g : Nat → Pl} {t : List V} {m : List Blk} {a : Act} {w : World} {o : Oper} {r : Bool} (S : Sim ng g t m a w) (h : Guard ops.toList o t r) : Region.wanted o (yielded ops a.tmps) = r := by
  unfold Guard at h
  split at h
  · rename_i hg; rw [h]; simp [Region.wanted, hg]
  · rename_i j want hg
    obtain ⟨d, hd, h⟩ := h
    rw [dstOf_eq] at hd
    have hd' : (ops[j]?).bind (·.dst) = some d := by simpa using hd
    have hrv := Rvs_getD S.tmps d
    rw [← getT_eq] at hrv
    have hy : yielded ops a.tmps j = match a.tmps[d]? with | some (.bool b) => some b | _ => none := by
      simp only [yielded, hd', Option.bind_some]
      rfl
    rcases h with ⟨b, hb, rfl⟩ | ⟨⟨xs, hx⟩, rfl⟩
    · rw [hb] at hrv
      simp only [Rv] at hrv
      have hlt : d < a.tmps.size := by
        rcases Nat.lt_or_ge d a.tmps.size with h' | h'
        · exact h'
        · rw [List.getD_eq_getElem?_getD, List.getElem?_eq_none (by simpa using h')] at hrv
          simp [undef] at hrv
      have : a.tmps[d]? = some (.bool b) := by
        rw [Array.getElem?_eq_getElem hlt]
        simpa [hlt] using hrv
      rw [this] at hy
      simp [Region.wanted, hg, hy]
    · rw [hx] at hrv
      simp only [Rv] at hrv
      have hn : yielded ops a.tmps j = none := by
        rw [hy]
        rcases Nat.lt_or_ge d a.tmps.size with h' | h'
        · have : a.tmps[d]? = some (.tuple xs) := by
            rw [Array.getElem?_eq_getElem h']
            simpa [h'] using hrv
          rw [this]
        · rw [Array.getElem?_eq_none h']
      simp [Region.wanted, hg, hn]
theorem guard_looks {o : Oper} {j : Nat} {want : Bool} {d : Nat} (hg : o.guard = some (j, want)) (hd : dstOf ops.toList j = some d) : d ∈ o.looksAt ops := by
  rw [dstOf_eq] at hd
  have hd' : (ops[j]?).bind (·.dst) = some d := by simpa using hd
  simp only [Oper.looksAt, hg, hd', List.mem_append]
  exact .inr (by simp)
theorem operand_looks {o : Oper} {x : Nat} (h : Operand.tmp x ∈ o.op.operands) : x ∈ o.looksAt ops := by
  simp only [Oper.looksAt, List.mem_append, List.mem_filterMap]
  exact .inl ⟨_, by simpa using h, rfl⟩
theorem ev_same {t t' : List V} {o : Oper} (h : ∀ x, x ∈ o.looksAt ops → getT t x = getT t' x) : ∀ y ∈ o.op.operands, evO ng t y = evO ng t' y := by
  intro y hy
  cases y with
  | tmp x => simp only [evO]; exact h x (operand_looks hy)
  | const c => rfl
  | global c => rfl
  | func c => rfl

section
variable {Lax : Prop} (C : Ctx Lax P ng ops s m0 t0 T M run v) {D : Nat → Prop} (hc : Closed ops D) {i : Nat} {o : Oper} (hi : ops[i]? = some o) (hn : ¬ D i) (hr : ∀ e ∈ o.after, Region.binds .any e = true → D e.on)
include C
theorem text_wr (k : Nat) (hk : k ≤ ops.size) : (T k).length = t0.length ∧ ∀ x, x < t0.length → Wr ops v t0 (fun j => j < k) x (getT (T k) x) := Wr.text C.T0 C.step k hk
include hc hi hn hr
/-- What it reads is what the walk read. -/
theorem same_reads {t : List V} (hl : t.length = t0.length) (hw : ∀ x, x < t0.length → x ∈ o.looksAt ops → Wr ops v t0 D x (getT t x)) : ∀ x, x ∈ o.looksAt ops → getT t x = getT (T i) x := by
  intro x hx
  have hlt : i < ops.size := (Array.getElem?_eq_some_iff.1 hi).1
  obtain ⟨h1, h2⟩ := text_wr C i (by omega)
  rcases Nat.lt_or_ge x t0.length with h | h
  · exact (hw x h hx).unique ((h2 x h).congr fun j o' hj hd => (reads_text C.L hc hi hn hr hx j o' hj hd).symm)
  · rw [getT_eq, getT_eq, List.getD_eq_getElem?_getD, List.getD_eq_getElem?_getD, List.getElem?_eq_none (by omega), List.getElem?_eq_none (by omega)]
omit hc hn hr in
/-- Operations of part A, and such as touch no memory, look at no new block. -/
theorem no_mk (h : i < s ∨ kd o.op = .pure) {x : Nat} (hx : x ∈ o.looksAt ops) (j : Nat) : ¬ Mk ops s run j x := by
  rintro ⟨o', hj, hjs, hk, _, hd⟩
  rcases Nat.lt_trichotomy j i with h1 | h1 | h1
  · obtain ⟨d, e1, e2, _⟩ := (C.L.pair j i o' o h1 hj hi).2.2.1 hk hjs
    rw [hd] at e1; cases e1
    obtain ⟨k1, k2⟩ := e2 hx
    rcases h with h | h
    · omega
    · exact k2 h
  · subst h1
    rw [hi] at hj; cases hj
    obtain ⟨d, e1, e2⟩ := C.L.self j o hi hk
    rw [hd] at e1; cases e1
    exact e2 hx
  · obtain ⟨d, e1, e2, _⟩ := (C.L.pair i j o o' h1 hi hj).2.2.2 hk hjs
    rw [hd] at e1; cases e1
    exact e2 hx
omit hc hn hr in
/-- A new block's slot is nobody else's. -/
theorem mk_slot {j x : Nat} (hm : Mk ops s run j x) (hne : i ≠ j) : o.dst ≠ some x := by
  obtain ⟨o', hj, hjs, hk, _, hd⟩ := hm
  rcases Nat.lt_or_ge i j with h1 | h1
  · obtain ⟨d, e1, _, e3⟩ := (C.L.pair i j o o' h1 hi hj).2.2.2 hk hjs
    rw [hd] at e1; cases e1; exact e3
  · obtain ⟨d, e1, _, e3⟩ := (C.L.pair j i o' o (by omega) hj hi).2.2.1 hk hjs
    rw [hd] at e1; cases e1; exact e3
end

theorem getT_putL {d : Option Tmp} {t : List V} {u : V} {x : Nat} (h : d ≠ some x) : getT (putL d t u) x = getT t x := by
  cases d with
  | none => rfl
  | some d => simp only [putL]; rw [getT_set, if_neg (fun e => h (by rw [e.1]))]
theorem getT_putL_same {d : Nat} {t : List V} {u : V} (h : d < t.length) : getT (putL (some d) t u) d = u := by
  simp only [putL]; rw [getT_set, if_pos ⟨rfl, h⟩]
theorem put_getD {a : Act} {d : Option Tmp} {x : Nat} {u : Value} (h : d ≠ some x) : (a.put d u).tmps.getD x undef = a.tmps.getD x undef := by
  cases d with
  | none => rfl
  | some d =>
    simp only [Act.put]
    have : d ≠ x := fun e => h (by rw [e])
    simp [Array.getElem?_setIfInBounds_ne this]
theorem put_getD_same {a : Act} {d : Nat} {u : Value} (h : d < a.tmps.size) : (a.put (some d) u).tmps.getD d undef = u := by
  simp [Act.put, h]

/-- How the slots stand behind one operation more. -/
theorem wr_next {D : Nat → Prop} {i : Nat} {o : Oper} (hi : ops[i]? = some o) (hlast : ∀ x, o.dst = some x → ∀ k o', ops[k]? = some o' → D k → o'.dst = some x → k ≤ i) {t : List V} (hl : t.length = t0.length) {x : Nat} (hx : x < t0.length)
    (h : o.dst ≠ some x → Wr ops v t0 D x (getT t x)) : Wr ops v t0 (fun j => D j ∨ j = i) x (getT (putL o.dst t (v i)) x) := by
  by_cases hd : o.dst = some x
  · rw [hd, getT_putL_same (by omega)]
    exact .new hi hd (hlast x hd)
  · rw [getT_putL hd]
    exact (h hd).add hi hd

section
variable (R0 : Rep g0 m0 w0)
include R0
/-- A ghost stays where a call, a load, a reckoning passes. -/
theorem ghosts_keep {D : Nat → Prop} {g g' : Nat → Pl} {t : List V} {pf : Nat → Nat} {a a' : Act} {w w' : World} (A : StA ng ops s m0 t0 M run v g0 w0 D g t pf a w) (hs : Step g m0 w g' m0 w')
    (hx : ∀ j x, D j → Mk ops s run j x → a'.tmps.getD x undef = a.tmps.getD x undef) :
    ∀ j x, D j → Mk ops s run j x → GhostAt m0 w0 M v g' a' w' j x (pf j) ∧ pf j < w'.heap.size ∧ w0.heap.size ≤ pf j := by
  intro j x hj hm
  obtain ⟨h1, h2, h3⟩ := A.ghost j x hj hm
  refine ⟨fun sh cs e1 e2 => ?_, Nat.lt_of_lt_of_le h2 hs.size, h3⟩
  obtain ⟨c, e, k1, k2, k3, k4⟩ := h1 sh cs e1 e2
  refine ⟨c, e, ?_, k2, by rw [hx j x hj hm]; exact k3, Rvs_monoA (Nat.le_refl _) hs.ag _ k4⟩
  rw [hs.same _ h2, k1]
  rintro ⟨i, b, hb, _, he⟩
  have hlt := (List.getElem?_eq_some_iff.1 hb).1
  rw [A.step.eq i hlt] at he
  have := (R0.blk i b hb).size
  omega
end
end
end Go.Eng
/- The engine, part 18: regions that draw their order: the steps, and the theorem. No condition. -/
namespace Go.Eng
open Go
section
variable {P : Program} {ng : Nat} {ops : Array Oper} {s : Nat} {m0 : List Blk} {t0 : List V} {T : Nat → List V} {M : Nat → List Blk} {run : Nat → Bool} {v : Nat → V}
variable {g0 : Nat → Pl} {w0 : World}

def Inv (ng : Nat) (ops : Array Oper) (s : Nat) (m0 : List Blk) (t0 : List V) (M : Nat → List Blk) (run : Nat → Bool) (v : Nat → V) (g0 : Nat → Pl) (w0 : World) (D : Nat → Prop) (a : Act) (w : World) : Prop :=
  ((∀ k, NB ops s k → ¬ D k) ∧ ∃ g t pf, StA ng ops s m0 t0 M run v g0 w0 D g t pf a w) ∨
  (∃ k, NB ops s k ∧ D k ∧ (∀ k', NB ops s k' → D k' → k' ≤ k) ∧ ∃ g t, StB ng ops m0 t0 v g0 w0 (M (k + 1)) D g t a w)

theorem mkV_inj {sh sh' : Sh} {n : Nat} (h : mkV sh n = mkV sh' n) : sh = sh' := by
  cases sh with
  | ptr => cases sh' with
    | ptr => rfl
    | sl b => exact (bsV_ptr h.symm).elim
  | sl a => cases sh' with
    | ptr => exact (bsV_ptr h).elim
    | sl b => exact congrArg Sh.sl (bsV_inj h)
theorem rep_push {g : Nat → Pl} {m : List Blk} {w : World} (h : Rep g m w) (o : Obj) : Rep g m { w with heap := w.heap.push o } := by
  have hh : ∀ p, p < w.heap.size → (w.heap.push o)[p]? = w.heap[p]? := fun p hp => by rw [Array.getElem?_push, if_neg (by omega)]
  exact ⟨fun i b hb => (h.blk i b hb).congr (hh _ (h.blk i b hb).size) (Nat.le_refl _) fun _ _ => .inl rfl, h.apart⟩
theorem step_push (g : Nat → Pl) (m : List Blk) (w : World) (o : Obj) : Step g m w g m { w with heap := w.heap.push o } :=
  ⟨Nat.le_refl _, agree_of fun _ _ => ⟨rfl, rfl⟩, rfl, rfl, rfl, by simp, fun p hp _ => by
    show (w.heap.push o)[p]? = _
    rw [Array.getElem?_push, if_neg (by omega)], fun p _ h => h⟩
/-- A block that lies there is taken in. -/
theorem adopt {g : Nat → Pl} {t : List V} {m : List Blk} {a : Act} {w : World} (S : Sim ng g t m a w) {p x : Nat} {c : Array Value} {e : TypeId} {sh : Sh} {cs : List V}
    (hp : w.heap[p]? = some (.cells c e)) (hf : ∀ i, i < m.length → (g i).1 ≠ p) (hc : Rvs m.length g cs c.toList) (hx : a.tmps.getD x undef = mkX sh p) :
    Sim ng (newAt g m.length p) (t.set x (mkV sh m.length)) (m ++ [⟨true, .cells cs⟩]) a w := by
  have hag : ∀ i, i < m.length → newAt g m.length p i = g i := fun i hi => by exact newAtP_old g m.length _ i hi
  have hlen : (m ++ [(⟨true, .cells cs⟩ : Blk)]).length = m.length + 1 := by simp
  have hget : ∀ (i : Nat) (d : Blk), (m ++ [(⟨true, .cells cs⟩ : Blk)])[i]? = some d → (i < m.length ∧ m[i]? = some d) ∨ (i = m.length ∧ d = ⟨true, .cells cs⟩) := by
    intro i d hd
    rcases Nat.lt_or_ge i m.length with hi | hi
    · rw [List.getElem?_append_left hi] at hd; exact .inl ⟨hi, hd⟩
    · rw [List.getElem?_append_right hi] at hd
      have : i - m.length = 0 := by
        have := (List.getElem?_eq_some_iff.1 hd).1; simp at this; omega
      rw [this] at hd; simp at hd
      exact .inr ⟨by omega, hd.symm⟩
  refine ⟨S.defers, ?_, ⟨fun i d hd => ?_, fun i j y z hij hy hz hw hl hl' => ?_⟩, ⟨by have := S.glob.1; omega, fun i hi => by rw [hag i (by have := S.glob.1; omega)]; exact S.glob.2 i hi⟩⟩
  · rw [hlen]
    have h1 := Rvs_mono (n' := m.length + 1) (by omega) hag _ S.tmps
    have h2 := Rvs_set h1 x (v := mkV sh m.length) (x := mkX sh p) (Rv_mk (by omega) (by simp [newAt, newAtP]))
    have he : a.tmps.toList.set x (mkX sh p) = a.tmps.toList := by
      apply List.ext_getElem?
      intro i
      rw [List.getElem?_set]
      by_cases hi : x = i
      · subst hi
        rcases Nat.lt_or_ge x a.tmps.size with hlt | hlt
        · rw [if_pos rfl, if_pos (by simpa using hlt), ← hx]
          simp [hlt]
        · rw [if_pos rfl, if_neg (by simpa using hlt)]
          simp [hlt]
      · rw [if_neg hi]
    rwa [he] at h2
  · rcases hget i d hd with ⟨hi, hd⟩ | ⟨rfl, rfl⟩
    · have R := S.rep.blk i d hd
      rw [hag i hi, hlen]
      exact R.congr rfl (by omega) fun i hi => .inl (hag i hi)
    · have hnew : newAt g m.length p m.length = ⟨p, 0, 0, 0⟩ := by simp [newAt, newAtP]
      rw [hnew, hlen]
      refine ⟨(Array.getElem?_eq_some_iff.1 hp).1, fun j u hu => ?_, fun _ _ j => ?_, (fun _ j hj => absurd hj (Nat.not_lt_zero j)), (fun f hf => nomatch hf), rfl⟩
      · obtain ⟨y, hy, hr⟩ := cells_get hc j u hu
        refine ⟨y, ?_, Rv_mono (by omega) hag u hr⟩
        unfold World.cell?
        simp only [hp, Nat.zero_add]
        simpa using hy
      · unfold World.frozen?
        simp only [hp]
        simp
  · rcases hget i y hy with ⟨hi, hy⟩ | ⟨rfl, rfl⟩
    · rcases hget j z hz with ⟨hj, hz⟩ | ⟨rfl, rfl⟩
      · rw [hag i hi, hag j hj]; exact S.rep.apart i j y z hij hy hz hw hl hl'
      · rw [hag i hi]; simp only [newAt, newAtP, if_true]; exact hf i hi
    · rcases hget j z hz with ⟨hj, hz⟩ | ⟨rfl, rfl⟩
      · rw [hag j hj]; simp only [newAt, newAtP, if_true]; exact (hf j hj).symm
      · exact absurd rfl hij

theorem op_at {k : Nat} (hk : k < ops.size) : ∃ o, ops[k]? = some o := ⟨ops[k], by simp [hk]⟩
section
variable {Lax : Prop} (C : Ctx Lax P ng ops s m0 t0 T M run v)
include C
omit C in
theorem pure_mem {o : Oper} (hk : kd o.op = .pure) {t : List V} {m m' : List Blk} {u : V} (h : evOp P ng o.op t m fun a b => a = u ∧ b = m') : m' = m ∧ ∀ X, evOp P ng o.op t X fun a b => a = u ∧ b = X := by
  rw [pure_any hk t m [] _] at h
  obtain ⟨a, b, ⟨h1, h2⟩, _⟩ := evOp_det h
  refine ⟨h2.symm, fun X => ?_⟩
  rw [pure_any hk t X [] _]
  exact evOp_mono (fun a b ⟨h, _⟩ => ⟨h, rfl⟩) h
/-- Memory along the text: part A. -/
theorem mem_A {k : Nat} (hk : k < s) (hks : k < ops.size) : (∃ x, Mk ops s run k x ∧ ∃ sh cs, v k = mkV sh (M k).length ∧ M (k + 1) = M k ++ [⟨true, .cells cs⟩]) ∨ ((∀ x, ¬ Mk ops s run k x) ∧ M (k + 1) = M k) := by
  obtain ⟨o, ho⟩ := op_at hks
  have E := C.entry k o ho
  have hph : Nat.ble s k = false := by
    rw [Bool.eq_false_iff]; intro h; have : s ≤ k := by simpa using h
    omega
  cases hr : run k with
  | false => exact .inr ⟨fun x ⟨_, _, _, _, h4, _⟩ => by simp [hr] at h4, (E.skip hr).2⟩
  | true =>
    cases hkd : kd o.op with
    | eff => exact absurd hkd (E.early hph)
    | pure => exact .inr ⟨(fun x ⟨o', h1, _, h3, _, _⟩ => by rw [ho] at h1; cases h1; rw [hkd] at h3; exact absurd h3 (by simp)), (E.still hr hph (.inl hkd)).2⟩
    | quiet => exact .inr ⟨(fun x ⟨o', h1, _, h3, _, _⟩ => by rw [ho] at h1; cases h1; rw [hkd] at h3; exact absurd h3 (by simp)), (E.still hr hph (.inr hkd)).2⟩
    | mk =>
      obtain ⟨d, hd, _⟩ := C.L.self k o ho hkd
      obtain ⟨sh, cs, h1, h2, _⟩ := mk_spec hkd (E.made hr hph hkd)
      exact .inl ⟨d, ⟨o, ho, hk, hkd, hr, hd⟩, sh, cs, h1, h2⟩
/-- Part B: what touches no memory leaves it. -/
theorem mem_B {k : Nat} (hk : s ≤ k) (hks : k < ops.size) (hn : ¬ NB ops s k) : M (k + 1) = M k := by
  obtain ⟨o, ho⟩ := op_at hks
  have E := C.entry k o ho
  have hpure : kd o.op = .pure := Classical.byContradiction fun h => hn ⟨o, ho, hk, h⟩
  cases hr : run k with
  | false => exact (E.skip hr).2
  | true => exact (pure_mem hpure (E.late hr (by simpa using hk))).1
theorem mem_const {a : Nat} (ha : s ≤ a) : ∀ (n : Nat), a + n ≤ ops.size → (∀ j, a ≤ j → j < a + n → ¬ NB ops s j) → M (a + n) = M a
  | 0, _, _ => rfl
  | n + 1, hn, h => by
    have := mem_B C (k := a + n) (by omega) (by omega) (h (a + n) (by omega) (by omega))
    rw [← Nat.add_assoc, this]
    exact mem_const ha n (by omega) (fun j h1 h2 => h j h1 (by omega))
theorem s_le : s ≤ ops.size := by
  rw [C.L.first, ← Array.length_toList]
  generalize ops.toList = l
  induction l with
  | nil => simp [firstEff]
  | cons o l ih =>
    simp only [firstEff]
    split
    · omega
    · simp; omega

/-- All new blocks are taken in, in the order of the text. -/
theorem adopt_all (R0 : Rep g0 m0 w0) {D : Nat → Prop} {g : Nat → Pl} {t : List V} {pf : Nat → Nat} {a : Act} {w : World} (A : StA ng ops s m0 t0 M run v g0 w0 D g t pf a w) (hall : ∀ j x, Mk ops s run j x → D j) :
    ∃ g' t', StB ng ops m0 t0 v g0 w0 (M s) D g' t' a w := by
  have key : ∀ k, k ≤ s → ∃ g' t', Sim ng g' t' (M k) a w ∧ m0.length ≤ (M k).length ∧ (∀ i, i < m0.length → g' i = g i ∧ (M k)[i]? = m0[i]?) ∧
      (∀ i, m0.length ≤ i → i < (M k).length → ∃ j x, j < k ∧ Mk ops s run j x ∧ (g' i).1 = pf j) ∧ t'.length = t0.length ∧
      (∀ x, x < t0.length → (∀ j, Mk ops s run j x → j < k) → Wr ops v t0 D x (getT t' x)) ∧ (∀ x, (∀ j, Mk ops s run j x → ¬ j < k) → getT t' x = getT t x) := by
    intro k
    induction k with
    | zero =>
      intro _
      refine ⟨g, t, by rw [C.M0]; exact A.sim, by rw [C.M0]; exact Nat.le_refl _, fun i hi => ⟨rfl, by rw [C.M0]⟩, fun i h1 h2 => by rw [C.M0] at h2; omega, A.len, fun x hx h => A.wr x hx fun j hj => absurd (h j hj) (by omega), fun x _ => rfl⟩
    | succ k ih =>
      intro hk
      obtain ⟨g', t', S, hml, h1, h2, h3, h4, h5⟩ := ih (by omega)
      rcases mem_A C (k := k) (by omega) (by have := s_le C; omega) with ⟨x, hm, sh, cs, e1, e2⟩ | ⟨hno, e⟩
      · obtain ⟨hg, hlt, hge⟩ := A.ghost k x (hall k x hm) hm
        obtain ⟨c, e, q1, q2, q3, q4⟩ := hg sh cs e1 e2
        have hfresh : ∀ i, i < (M k).length → (g' i).1 ≠ pf k := by
          intro i hi he
          rcases Nat.lt_or_ge i m0.length with hi0 | hi0
          · rw [(h1 i hi0).1, A.step.eq i hi0] at he
            have hb : ∃ b, m0[i]? = some b := ⟨m0[i], by simp [hi0]⟩
            obtain ⟨b, hb⟩ := hb
            have := (R0.blk i b hb).size
            omega
          · obtain ⟨j, y, hjk, hmj, hj⟩ := h2 i hi0 hi
            exact A.apart j k y x (hall j y hmj) (hall k x hm) hmj hm (by omega) (by rw [← hj, he])
        have hc' : Rvs (M k).length g' cs c.toList := Rvs_mono hml (fun i hi => (h1 i hi).1) _ q4
        refine ⟨newAt g' (M k).length (pf k), t'.set x (mkV sh (M k).length), by rw [e2]; exact adopt S q1 hfresh hc' q3, by rw [e2]; simp; omega, fun i hi => ?_, fun i hi1 hi2 => ?_, by simp [h3], fun y hy hyk => ?_, fun y hyk => ?_⟩
        · refine ⟨by rw [newAt, newAtP, if_neg (by omega)]; exact (h1 i hi).1, ?_⟩
          rw [e2, List.getElem?_append_left (by omega)]
          exact (h1 i hi).2
        · rw [e2] at hi2
          simp only [List.length_append, List.length_cons, List.length_nil] at hi2
          rcases Nat.lt_or_ge i (M k).length with hi3 | hi3
          · obtain ⟨j, z, k1, k2, k3⟩ := h2 i hi1 hi3
            exact ⟨j, z, by omega, k2, by rw [newAt, newAtP, if_neg (by omega)]; exact k3⟩
          · exact ⟨k, x, by omega, hm, by rw [newAt, newAtP, if_pos (by omega)]⟩
        · rw [getT_set]
          by_cases hxy : x = y
          · subst hxy
            rw [if_pos ⟨rfl, by omega⟩, ← e1]
            obtain ⟨o, ho, _, _, _, hd⟩ := id hm
            refine .inl ⟨k, o, ho, hall k x hm, hd, rfl, fun k' o' hk' _ hd' => ?_⟩
            rcases Nat.lt_or_ge k k' with hlt' | hge'
            · exact absurd hd' (mk_slot C hk' hm (by omega))
            · exact hge'
          · rw [if_neg (fun h => hxy h.1)]
            refine h4 y hy fun j hj => ?_
            have := hyk j hj
            rcases Nat.lt_or_ge j k with h | h
            · exact h
            · exfalso
              have : j = k := by omega
              subst this
              obtain ⟨o, ho, _, _, _, hd⟩ := hm
              obtain ⟨o', ho', _, _, _, hd'⟩ := hj
              rw [ho] at ho'; cases ho'; rw [hd] at hd'; cases hd'; exact hxy rfl
        · rw [getT_set, if_neg (fun h => hyk k (by rw [← h.1]; exact hm) (by omega))]
          exact h5 y fun j hj hjk => hyk j hj (by omega)
      · refine ⟨g', t', by rw [e]; exact S, by rw [e]; exact hml, fun i hi => by rw [e]; exact h1 i hi, fun i hi1 hi2 => ?_, h3, fun y hy hyk => h4 y hy fun j hj => ?_, fun y hyk => h5 y fun j hj hjk => hyk j hj (by omega)⟩
        · rw [e] at hi2
          obtain ⟨j, z, k1, k2, k3⟩ := h2 i hi1 hi2
          exact ⟨j, z, by omega, k2, k3⟩
        · have := hyk j hj
          rcases Nat.lt_or_ge j k with h | h
          · exact h
          · exfalso
            have : j = k := by omega
            subst this
            exact hno y hj
  obtain ⟨g', t', S, hml, h1, h2, h3, h4, _⟩ := key s (Nat.le_refl _)
  refine ⟨g', t', S, ⟨hml, agree_of fun i hi => ⟨by rw [(h1 i hi).1]; exact A.step.eq i hi, by rw [getB_eq, getB_eq, List.getD_eq_getElem?_getD, List.getD_eq_getElem?_getD, (h1 i hi).2]⟩, A.step.os, A.step.tape, A.step.output, A.step.size, A.step.same, fun p hp ⟨i, b, hb, hw, he⟩ => ?_⟩, h3, fun x hx => h4 x hx fun j ⟨_, _, hjs, _⟩ => hjs⟩
  rcases Nat.lt_or_ge i m0.length with hi | hi
  · rw [(h1 i hi).1] at he
    rw [(h1 i hi).2] at hb
    exact A.step.foot p hp ⟨i, b, hb, hw, he⟩
  · obtain ⟨j, x, _, hm, hj⟩ := h2 i hi (List.getElem?_eq_some_iff.1 hb).1
    have := (A.ghost j x (hall j x hm) hm).2.2
    omega
end
end
end Go.Eng
/- The engine, part 19: regions that draw their order: the theorem; the whole evaluator. No condition. -/
namespace Go.Eng
open Go
section
variable {P : Program} {ng : Nat} {ops : Array Oper} {s : Nat} {m0 : List Blk} {t0 : List V} {T : Nat → List V} {M : Nat → List Blk} {run : Nat → Bool} {v : Nat → V}
variable {g0 : Nat → Pl} {w0 : World}
section
variable {Lax : Prop} (C : Ctx Lax P ng ops s m0 t0 T M run v) (R0 : Rep g0 m0 w0)
include C R0

omit C R0 in
theorem size_of {g : Nat → Pl} {t : List V} {m : List Blk} {a : Act} {w : World} (S : Sim ng g t m a w) : a.tmps.size = t.length := by
  have := Rvs_length S.tmps; rwa [Array.length_toList] at this

omit C R0 in
theorem load_kd {o : Oper} (h : isLoad o = true) : ¬ kd o.op ≠ .quiet := by
  unfold isLoad at h
  split at h
  · rename_i a b e; rw [e]; simp [kd]
  · exact absurd h (by simp)
/-- One operation, whichever may come up. -/
theorem inv_step {Q : Exit → Act → World → Prop} {D : Nat → Prop} (hc : Closed ops D) {i : Nat} {o : Oper} (hi : ops[i]? = some o) (hn : ¬ D i) (hr : ∀ e ∈ o.after, Region.binds .any e = true → D e.on)
    {a : Act} {w : World} (h : Inv ng ops s m0 t0 M run v g0 w0 D a w) {K : Act → World → Prop} (hK : ∀ a' w', Inv ng ops s m0 t0 M run v g0 w0 (fun j => D j ∨ j = i) a' w' → K a' w') : wpOp P ops Q i K a w := by
  have hlt : i < ops.size := (Array.getElem?_eq_some_iff.1 hi).1
  have E := C.entry i o hi
  have hlast := fun x hx => writes_last C.L hc hi hn (x := x) hx
  unfold wpOp
  simp only [hi]
  -- an operation of part B that looks into memory, or writes, at the state that it finds
  have late : ∀ g t, (s ≤ i) → kd o.op ≠ .pure → StB ng ops m0 t0 v g0 w0 (M i) D g t a w → (∀ k', NB ops s k' → D k' → k' ≤ i) →
      if Region.wanted o (yielded ops a.tmps) then o.wp P a w K Q ∨ (o.asks P a w ∧ LetsOut Q) else K (a.put o.dst undef) w := by
    intro g t hsi hk B hmax
    have hsame := same_reads C hc hi hn hr B.len (fun x hx _ => B.wr x hx)
    have hw := wanted_of B.sim (E.guard.congr fun j want d hg hd => (hsame d (guard_looks hg hd)).symm)
    rw [hw]
    have fin : ∀ g' t' a' w', t'.length = t0.length → Sim ng g' t' (M (i + 1)) a' w' → Step g0 m0 w0 g' (M (i + 1)) w' → (∀ x, x < t0.length → Wr ops v t0 (fun j => D j ∨ j = i) x (getT t' x)) → K a' w' := by
      intro g' t' a' w' hl S' hs' hwr
      exact hK a' w' (.inr ⟨i, ⟨o, hi, hsi, hk⟩, .inr rfl, fun k' hk' hD => by
        rcases hD with hD | rfl
        · exact hmax k' hk' hD
        · exact Nat.le_refl _, g', t', S', hs', hl, hwr⟩)
    cases hrun : run i with
    | false =>
      simp only [Bool.false_eq_true, if_false]
      obtain ⟨e1, e2⟩ := E.skip hrun
      refine fin g (putL o.dst t (v i)) _ w (by rw [putL_length, B.len]) ?_ (by rw [e2]; exact B.step) (fun x hx => wr_next hi hlast B.len hx (fun _ => B.wr x hx))
      rw [e1, e2]
      exact B.sim.put o.dst Rv_un B.sim.rep (.refl _ _ _)
    | true =>
      simp only [if_true]
      left
      have hev := E.late hrun (by simpa using hsi)
      rw [evOp_congr (ev_same fun x hx => (hsame x hx).symm)] at hev
      refine oper_wp_of_gets B.sim (evOp_sound B.sim o hev) (fun u m' g' x w' hu S' hs' => ?_)
      obtain ⟨rfl, rfl⟩ := hu
      exact fin g' (putL o.dst t (v i)) _ w' (by rw [putL_length, B.len]) S' (B.step.trans hs') (fun x hx => wr_next hi hlast B.len hx (fun _ => B.wr x hx))
  rcases h with ⟨hnone, g, t, pf, A⟩ | ⟨k, hNB, hDk, hmax, g, t, B⟩
  · by_cases hnb : s ≤ i ∧ kd o.op ≠ .pure
    · -- the first of part B
      have hall : ∀ j x, Mk ops s run j x → D j := by
        rintro j x ⟨o', hj, hjs, hk', _, _⟩
        exact pre_ready hc hi hr (((C.L.pair j i o' o (by omega) hj hi).2.1 hnb.1 (by rw [hk']; simp) hnb.2).resolve_right fun ⟨_, _, hl⟩ => load_kd hl (by rw [hk']; simp))
      obtain ⟨g', t', B⟩ := adopt_all C R0 A hall
      have hM : M i = M s := by
        have := mem_const C (Nat.le_refl s) (i - s) (by omega) (fun j h1 h2 hj => by
          obtain ⟨o', ho', _, hk'⟩ := id hj
          exact hnone j hj (pre_ready hc hi hr (((C.L.pair j i o' o (by omega) ho' hi).2.1 hnb.1 hk' hnb.2).resolve_right fun ⟨_, hl, _⟩ => by omega)))
        rwa [show s + (i - s) = i by omega] at this
      rw [← hM] at B
      exact late g' t' hnb.1 hnb.2 B (fun k' hk' hD => absurd hD (hnone k' hk'))
    · -- part A, or what touches no memory
      have hap : i < s ∨ kd o.op = .pure := by
        rcases Nat.lt_or_ge i s with h | h
        · exact .inl h
        · exact .inr (Classical.byContradiction fun hk => hnb ⟨h, hk⟩)
      have hnoD : ∀ k, NB ops s k → ¬ (D k ∨ k = i) := by
        intro k hk hD
        rcases hD with hD | rfl
        · exact hnone k hk hD
        · obtain ⟨o', ho', h1, h2⟩ := hk
          rw [hi] at ho'; cases ho'
          exact hnb ⟨h1, h2⟩
      have hsame := same_reads C hc hi hn hr A.len (fun x hx hxl => A.wr x hx fun j => no_mk C hi hap hxl j)
      have hw := wanted_of A.sim (E.guard.congr fun j want d hg hd => (hsame d (guard_looks hg hd)).symm)
      rw [hw]
      -- behind it: no new block
      have plain : (∀ x, ¬ Mk ops s run i x) → ∀ g' w' x, Sim ng g' (putL o.dst t (v i)) m0 (a.put o.dst x) w' → Step g m0 w g' m0 w' → K (a.put o.dst x) w' := by
        intro hnm g' w' y S' hs'
        refine hK _ _ (.inl ⟨hnoD, g', putL o.dst t (v i), pf, S', A.step.trans hs', by rw [putL_length, A.len], fun x hx hm => wr_next hi hlast A.len hx (fun _ => A.wr x hx hm), ?_, ?_⟩)
        · intro j x hj hm
          have hj : D j := by
            rcases hj with hj | rfl
            · exact hj
            · exact absurd hm (hnm x)
          exact ghosts_keep R0 A hs' (fun j x hj hm => put_getD (mk_slot C hi hm (fun e => hn (by rw [e]; exact hj)))) j x hj hm
        · intro j k x y hj hk hmj hmk hne
          have hj : D j := by
            rcases hj with hj | rfl
            · exact hj
            · exact absurd hmj (hnm x)
          have hk : D k := by
            rcases hk with hk | rfl
            · exact hk
            · exact absurd hmk (hnm y)
          exact A.apart j k x y hj hk hmj hmk hne
      cases hrun : run i with
      | false =>
        simp only [Bool.false_eq_true, if_false]
        refine plain (fun x ⟨_, _, _, _, h4, _⟩ => by simp [hrun] at h4) g w undef ?_ (.refl _ _ _)
        rw [(E.skip hrun).1]
        exact A.sim.put o.dst Rv_un A.sim.rep (.refl _ _ _)
      | true =>
        simp only [if_true]
        left
        -- what reads, or reckons
        have reckon : kd o.op ≠ .mk → (evOp P ng o.op (T i) m0 fun u b => u = v i ∧ b = m0) → o.wp P a w K Q := by
          intro hk hev
          rw [evOp_congr (ev_same fun x hx => (hsame x hx).symm)] at hev
          refine oper_wp_of_gets A.sim (evOp_sound A.sim o hev) (fun u m' g' x w' hu S' hs' => ?_)
          obtain ⟨rfl, rfl⟩ := hu
          exact plain (fun x ⟨o', h1, _, h3, _, _⟩ => by rw [hi] at h1; cases h1; exact hk h3) g' w' x S' hs'
        rcases Nat.lt_or_ge i s with his | his
        · have hph : Nat.ble s i = false := by
            rw [Bool.eq_false_iff]; intro h; have : s ≤ i := by simpa using h
            omega
          cases hk : kd o.op with
          | eff => exact absurd hk (E.early hph)
          | pure => exact reckon (by rw [hk]; simp) (E.still hrun hph (.inl hk)).1
          | quiet => exact reckon (by rw [hk]; simp) (E.still hrun hph (.inr hk)).1
          | mk =>
            obtain ⟨d, hd, _⟩ := C.L.self i o hi hk
            have hdl : d < t0.length := mkLt_spec C.lt i o (by simpa using hi) hk d hd
            have hm : Mk ops s run i d := ⟨o, hi, his, hk, hrun, hd⟩
            obtain ⟨sh, cs, e1, e2, e3⟩ := mk_spec hk (E.made hrun hph hk)
            obtain ⟨c, e, q1, q2⟩ := e3 o rfl A.sim (ev_same fun x hx => (hsame x hx).symm)
            unfold Oper.wp
            rw [q1]
            simp only [Oper.upon]
            have hh : ∀ p, p < w.heap.size → (w.heap.push (Obj.cells c e))[p]? = w.heap[p]? := fun p hp => by rw [Array.getElem?_push, if_neg (by omega)]
            have hs' : Step g m0 w g m0 { w with heap := w.heap.push (.cells c e) } := step_push g m0 w _
            have hw0 : w0.heap.size ≤ w.heap.size := A.step.size
            have S1 : Sim ng g (t.set d (.raw (mkX sh w.heap.size))) m0 (a.put o.dst (mkX sh w.heap.size)) { w with heap := w.heap.push (.cells c e) } := by
              have := A.sim.put o.dst (v := .raw (mkX sh w.heap.size)) (x := mkX sh w.heap.size) (by simp [Rv]) (rep_push A.sim.rep (.cells c e)) hs'
              rw [hd] at this ⊢
              exact this
            have hkeep := ghosts_keep R0 A (a' := a.put o.dst (mkX sh w.heap.size)) hs' (fun j x hj hm => put_getD (mk_slot C hi hm (fun e => hn (by rw [e]; exact hj))))
            have hux : ∀ x, Mk ops s run i x → x = d := by
              rintro x ⟨o', h1, _, _, _, h5⟩
              rw [hi] at h1; cases h1; rw [hd] at h5; cases h5; rfl
            refine hK _ _ (.inl ⟨hnoD, g, t.set d (.raw (mkX sh w.heap.size)), fun j => if j = i then w.heap.size else pf j, S1, A.step.trans hs', by simp [A.len], fun x hx hnm => ?_, ?_, ?_⟩)
            · have hxd : d ≠ x := fun e => hnm i (by rw [← e]; exact hm)
              rw [getT_set, if_neg (fun h => hxd h.1)]
              exact (A.wr x hx hnm).add hi (by rw [hd]; simpa using hxd)
            · intro j x hj hmj
              by_cases hji : j = i
              · subst hji
                have := hux x hmj
                subst this
                simp only [if_true]
                refine ⟨fun sh' cs' k1 k2 => ?_, by simp, hw0⟩
                have hsh : sh' = sh := mkV_inj (by rw [← k1, e1])
                have hcs : cs' = cs := by
                  rw [e2] at k2
                  have := List.append_cancel_left k2
                  simpa using this.symm
                subst hsh; subst hcs
                refine ⟨c, e, by simp, hw0, ?_, q2⟩
                rw [hd]
                exact put_getD_same (by rw [size_of A.sim, A.len]; exact hdl)
              · simp only [if_neg hji]
                have hj : D j := by
                  rcases hj with hj | rfl
                  · exact hj
                  · exact absurd rfl hji
                exact hkeep j x hj hmj
            · intro j k x y hj hk' hmj hmk hne
              have hold : ∀ j x, D j → Mk ops s run j x → pf j < w.heap.size := fun j x hj hm => (A.ghost j x hj hm).2.1
              by_cases hji : j = i
              · subst hji
                have hk' : D k := by
                  rcases hk' with hk' | rfl
                  · exact hk'
                  · exact absurd rfl hne
                simp only [if_true, if_neg (Ne.symm hne)]
                have := hold k y hk' hmk
                omega
              · have hjD : D j := by
                  rcases hj with hj | rfl
                  · exact hj
                  · exact absurd rfl hji
                by_cases hki : k = i
                · subst hki
                  simp only [if_true, if_neg hji]
                  have := hold j x hjD hmj
                  omega
                · have hkD : D k := by
                    rcases hk' with hk' | rfl
                    · exact hk'
                    · exact absurd rfl hki
                  simp only [if_neg hji, if_neg hki]
                  exact A.apart j k x y hjD hkD hmj hmk hne
        · have hk : kd o.op = .pure := hap.resolve_left (by omega)
          exact reckon (by rw [hk]; simp) ((pure_mem hk (E.late hrun (by simpa using his))).2 m0)
  · -- part B has begun
    obtain ⟨ok, hok, hsk, hkk⟩ := id hNB
    by_cases hp : kd o.op = .pure ∨ i < s
    · have hfree : kd o.op = .pure ∨ (Lax ∧ i < s ∧ isLoad o = true) := by
        refine Classical.byContradiction fun hno => ?_
        obtain ⟨n1, n2⟩ := not_or.1 hno
        have his : i < s := hp.resolve_left n1
        rcases (C.L.pair i k o ok (by omega) hi hok).2.1 hsk n1 hkk with h | h
        · exact hn (hc _ _ h hDk)
        · exact n2 h
      have hsame := same_reads C hc hi hn hr B.len (fun x hx _ => B.wr x hx)
      have hw := wanted_of B.sim (E.guard.congr fun j want d hg hd => (hsame d (guard_looks hg hd)).symm)
      rw [hw]
      have fin : ∀ g' w' x, Sim ng g' (putL o.dst t (v i)) (M (k + 1)) (a.put o.dst x) w' → Step g (M (k + 1)) w g' (M (k + 1)) w' → K (a.put o.dst x) w' := by
        intro g' w' y S' hs'
        refine hK _ _ (.inr ⟨k, hNB, .inl hDk, fun k' hk' hD => ?_, g', putL o.dst t (v i), S', B.step.trans hs', by rw [putL_length, B.len], fun x hx => wr_next hi hlast B.len hx (fun _ => B.wr x hx)⟩)
        rcases hD with hD | rfl
        · exact hmax k' hk' hD
        · obtain ⟨o', ho', h1, h2⟩ := hk'
          rw [hi] at ho'; cases ho'
          rcases hp with hp | hp
          · exact absurd hp h2
          · omega
      cases hrun : run i with
      | false =>
        simp only [Bool.false_eq_true, if_false]
        refine fin g w undef ?_ (.refl _ _ _)
        rw [(E.skip hrun).1]
        exact B.sim.put o.dst Rv_un B.sim.rep (.refl _ _ _)
      | true =>
        simp only [if_true]
        left
        have hev : evOp P ng o.op (T i) (M (k + 1)) fun u b => u = v i ∧ b = M (k + 1) := by
          rcases hfree with hp | ⟨hlx, his, hld⟩
          case inr => exact C.free hlx i o hi his hld hrun (k + 1) (by omega) (by have := (Array.getElem?_eq_some_iff.1 hok).1; omega)
          rcases Nat.lt_or_ge i s with his | his
          · have hph : Nat.ble s i = false := by
              rw [Bool.eq_false_iff]; intro h; have : s ≤ i := by simpa using h
              omega
            exact (pure_mem hp (E.still hrun hph (.inl hp)).1).2 _
          · exact (pure_mem hp (E.late hrun (by simpa using his))).2 _
        rw [evOp_congr (ev_same fun x hx => (hsame x hx).symm)] at hev
        refine oper_wp_of_gets B.sim (evOp_sound B.sim o hev) (fun u m' g' x w' hu S' hs' => ?_)
        obtain ⟨rfl, rfl⟩ := hu
        exact fin g' w' x S' hs'
    · obtain ⟨hp, his⟩ := not_or.1 hp
      have hki : k < i := by
        rcases Nat.lt_trichotomy k i with h | h | h
        · exact h
        · subst h; exact absurd hDk hn
        · exact absurd (hc _ _ (((C.L.pair i k o ok h hi hok).2.1 hsk hp hkk).resolve_right fun ⟨_, hl, _⟩ => by omega) hDk) hn
      have hM : M i = M (k + 1) := by
        have := mem_const C (a := k + 1) (by omega) (i - (k + 1)) (by omega) (fun j h1 h2 hj => by
          obtain ⟨o', ho', _, hk'⟩ := id hj
          have hDj := pre_ready hc hi hr (((C.L.pair j i o' o (by omega) ho' hi).2.1 (by omega) hk' hp).resolve_right fun ⟨_, hl, _⟩ => by omega)
          have := hmax j hj hDj
          omega)
        rwa [show k + 1 + (i - (k + 1)) = i by omega] at this
      rw [← hM] at B
      exact late g t (by omega) hp B (fun k' hk' hD => by have := hmax k' hk' hD; omega)

/-- All of them are through. -/
theorem inv_end {D : Nat → Prop} (hall : ∀ i, i < ops.size → D i) {K : List V → List Blk → Prop} (hK : K (T ops.size) (M ops.size)) {a : Act} {w : World} (h : Inv ng ops s m0 t0 M run v g0 w0 D a w) : Reach ng K g0 m0 w0 a w := by
  have fin : ∀ g t m, m = M ops.size → StB ng ops m0 t0 v g0 w0 m D g t a w → Reach ng K g0 m0 w0 a w := by
    intro g t m hm B
    obtain ⟨l, hw⟩ := text_wr C ops.size (Nat.le_refl _)
    have ht : t = T ops.size := by
      apply List.ext_getElem
      · rw [B.len, l]
      · intro x h1 h2
        have hx : x < t0.length := by rw [← B.len]; exact h1
        have := (B.wr x hx).unique ((hw x hx).congr fun j o hj _ => ⟨fun h => hall j h, fun _ => (Array.getElem?_eq_some_iff.1 hj).1⟩)
        rw [getT_eq, getT_eq] at this
        simpa [List.getD_eq_getElem?_getD, h1, h2] using this
    subst hm
    subst ht
    exact ⟨g, _, _, hK, B.sim, B.step⟩
  rcases h with ⟨hnone, g, t, pf, A⟩ | ⟨k, hNB, hDk, hmax, g, t, B⟩
  · have hs : s = ops.size := by
      have := s_le C
      rcases Nat.lt_or_ge s ops.size with h | h
      · exfalso
        obtain ⟨o, ho⟩ := op_at h
        refine hnone s ⟨o, ho, Nat.le_refl _, ?_⟩ (hall s h)
        have hf := C.L.first
        have ho' : ops.toList[s]? = some o := by simpa using ho
        have key : ∀ (l : List Oper) (o : Oper), l[firstEff l]? = some o → kd o.op = .eff := by
          intro l
          induction l with
          | nil => intro o h; simp at h
          | cons z l ih =>
            intro o h
            by_cases hz : kd z.op = .eff
            · simp only [firstEff, hz, List.getElem?_cons_zero, Option.some.injEq] at h
              rw [← h]; exact hz
            · have : firstEff (z :: l) = firstEff l + 1 := by
                rw [firstEff]
                split
                · contradiction
                · rfl
              rw [this] at h
              exact ih o (by simpa using h)
        rw [key _ o (by rw [← hf]; exact ho')]
        simp
      · omega
    obtain ⟨g', t', B⟩ := adopt_all C R0 A (fun j x ⟨_, hj, _⟩ => hall j (Array.getElem?_eq_some_iff.1 hj).1)
    exact fin g' t' _ (by rw [hs]) B
  · have hk : k < ops.size := by obtain ⟨o, ho, _⟩ := hNB; exact (Array.getElem?_eq_some_iff.1 ho).1
    have hsk : s ≤ k := by obtain ⟨o, _, h, _⟩ := hNB; exact h
    have hM : M ops.size = M (k + 1) := by
      have := mem_const C (a := k + 1) (by omega) (ops.size - (k + 1)) (by omega) (fun j h1 h2 hj => by
        have := hmax j hj (hall j (by omega)); omega)
      rwa [show k + 1 + (ops.size - (k + 1)) = ops.size by omega] at this
    exact fin g t _ hM.symm B

omit C R0 in
theorem count_set {l : List Bool} : ∀ {i : Nat}, l[i]? = some false → (l.set i true).count false + 1 = l.count false := by
  induction l with
  | nil => intro i h; simp at h
  | cons b l ih =>
    intro i h
    cases i with
    | zero => simp at h; subst h; simp
    | succ i =>
      have := ih (i := i) (by simpa using h)
      cases b <;> simp <;> omega

theorem any_of_inv {Q : Exit → Act → World → Prop} {K : List V → List Blk → Prop} (hK : K (T ops.size) (M ops.size)) (hQ : ∀ a' w', Reach ng K g0 m0 w0 a' w' → Q .normal a' w') :
    ∀ (fuel : Nat) (listed : Array Bool) (a : Act) (w : World), listed.size = ops.size → listed.toList.count false = fuel → Closed ops (fun j => listed.getD j false = true) →
      Inv ng ops s m0 t0 M run v g0 w0 (fun j => listed.getD j false = true) a w → wpAny P .any ops Q fuel listed a w := by
  intro fuel
  have hall_of : ∀ (listed : Array Bool), listed.size = ops.size → (∀ i, i < ops.size → listed.getD i false = true) → ∀ a w, Inv ng ops s m0 t0 M run v g0 w0 (fun j => listed.getD j false = true) a w → Q .normal a w :=
    fun listed _ h a w hI => hQ a w (inv_end C R0 h hK hI)
  -- where nothing is ready, all is through
  have done : ∀ (listed : Array Bool), listed.size = ops.size → Region.ready .any ops listed = [] → ∀ i, i < ops.size → listed.getD i false = true := by
    intro listed hl hr i
    induction i using Nat.strongRecOn with
    | _ i ih =>
      intro hi
      refine Classical.byContradiction fun hno => ?_
      obtain ⟨o, ho⟩ := op_at hi
      have : i ∈ Region.ready .any ops listed := by
        rw [mem_ready]
        refine ⟨?_, o, ho, fun e he hb => ?_⟩
        · have : i < listed.size := by omega
          simp [this] at hno ⊢
          exact hno
        · have := C.L.back i o ho e he hb
          exact ih e.on this (by omega)
      rw [hr] at this
      cases this
  induction fuel with
  | zero =>
    intro listed a w hl hc hcl hI
    have h0 : ∀ i, i < ops.size → listed.getD i false = true := by
      intro i hi
      have hi' : i < listed.size := by omega
      have : false ∉ listed.toList := List.count_eq_zero.1 hc
      have hm : listed[i] ∈ listed.toList := by simp
      cases hb : listed[i] with
      | true => simp [hi', hb]
      | false => rw [hb] at hm; exact absurd hm this
    refine ⟨?_, hall_of listed hl h0 a w hI⟩
    rw [List.eq_nil_iff_forall_not_mem]
    intro i hi
    obtain ⟨h1, o, ho, _⟩ := mem_ready.1 hi
    have hlt : i < ops.size := (Array.getElem?_eq_some_iff.1 ho).1
    have := h0 i hlt
    have hi' : i < listed.size := by omega
    simp [hi'] at h1 this
    rw [h1] at this; cases this
  | succ fuel ih =>
    intro listed a w hl hc hcl hI
    refine ⟨fun hr => hall_of listed hl (done listed hl hr) a w hI, fun i hi => ?_⟩
    obtain ⟨h1, o, ho, h2⟩ := mem_ready.1 hi
    have hlt : i < ops.size := (Array.getElem?_eq_some_iff.1 ho).1
    have hi' : i < listed.size := by omega
    have hif : listed[i] = false := by simpa [hi'] using h1
    refine inv_step C R0 hcl ho (by simp [hi', hif]) h2 hI (fun a' w' hI' => ?_)
    have hD : (fun j => (listed.setIfInBounds i true).getD j false = true) = fun j => listed.getD j false = true ∨ j = i := by
      funext j
      by_cases hji : j = i
      · subst hji; simp [hi']
      · simp [Array.getElem?_setIfInBounds_ne (Ne.symm hji), hji]
    refine ih _ a' w' (by simp [hl]) ?_ ?_ ?_
    · have := count_set (l := listed.toList) (i := i) (by simp [hi', hif])
      simp only [Array.toList_setIfInBounds]
      omega
    · rw [hD]; exact closed_add hcl ho h2
    · rw [hD]; exact hI'
end

theorem drawn_ctx {Lax : Prop} {id : Nat} {Q : Exit → Act → World → Prop} {g : Nat → Pl} {t : List V} {m : List Blk} {a : Act} {w : World} {K : List V → List Blk → Prop} (hm : P.follows .mixedOrders = true)
    (C : Ctx Lax P ng ops s m t T M run v) (h3 : K (T ops.size) (M ops.size)) (S : Sim ng g t m a w) (hQ : ∀ a' w', Reach ng K g m w a' w' → Q .normal a' w') : (Code.region id ops true).wp P Q a w := by
  have S1 : Sim ng g t m a { w with drawn := w.drawn + 1 } := ⟨S.defers, S.tmps, S.rep.heap rfl, S.glob⟩
  have hno : ∀ j, (Array.replicate ops.size false).getD j false = true → False := by
    intro j hj
    by_cases hlt : j < ops.size <;> simp [hlt] at hj
  refine wp_region_any hm (any_of_inv (g0 := g) (w0 := { w with drawn := w.drawn + 1 }) C S1.rep h3 (fun a' w' r => hQ a' w' (r.from (.drawn g m w _))) ops.size _ a _ (by simp) (by simp) ?_ ?_)
  · exact fun i j _ hj => (hno j hj).elim
  · exact .inl ⟨fun k _ hk => hno k hk, g, t, fun _ => 0, S1, .refl _ _ _, rfl, fun x hx _ => .inr ⟨fun j o _ hj => (hno j hj).elim, rfl⟩, fun j x hj => (hno j hj).elim, fun j k x y hj => (hno j hj).elim⟩
/-- **One walk in the order of the text serves every order.** -/
theorem drawn_sound {id : Nat} {Q : Exit → Act → World → Prop} {g : Nat → Pl} {t : List V} {m : List Blk} {a : Act} {w : World} {K : List V → List Blk → Prop} (hm : P.follows .mixedOrders = true) (hl : lookD ops = true)
    (hlt : mkLt t.length ops.toList = true) (S : Sim ng g t m a w) (h : evA P ng ops.toList m ops.toList t m K) (hQ : ∀ a' w', Reach ng K g m w a' w' → Q .normal a' w') : (Code.region id ops true).wp P Q a w := by
  obtain ⟨T, M, run, v, h1, h2, h3, h4⟩ := evA_walk _ _ _ _ h
  rw [Array.length_toList] at h3
  have C : Ctx False P ng ops (firstEff ops.toList) m t T M run v := ⟨by have := looked hl; simpa using this, hlt, h1, h2, fun k o ho => (h4 k o ho).1, fun k o ho => (h4 k o (by simpa using ho)).2, fun h => h.elim⟩
  exact drawn_ctx hm C h3 S hQ
/-- The same, where loads may come behind stores. -/
theorem drawn_lax {id : Nat} {Q : Exit → Act → World → Prop} {g : Nat → Pl} {t : List V} {m : List Blk} {a : Act} {w : World} {K : List V → List Blk → Prop} (hm : P.follows .mixedOrders = true) (hl : lookF ops = true)
    (hlt : mkLt t.length ops.toList = true) (S : Sim ng g t m a w) (h : evF P ng m ops.toList [] t m K) (hQ : ∀ a' w', Reach ng K g m w a' w' → Q .normal a' w') : (Code.region id ops true).wp P Q a w := by
  simp only [lookF, Bool.and_eq_true] at hl
  obtain ⟨T, M, v, h1, h2, h3, h4, _, h6⟩ := evF_walk (ops := ops.toList) _ (fun k o ho => noGuards_spec hl.1 k o ho) _ _ _ _ h
  rw [Array.length_toList] at h3
  have C : Ctx True P ng ops (firstEff ops.toList) m t T M (fun _ => true) v := ⟨by have := looked hl.2; simpa using this, hlt, h1, h2, fun k o ho => (h4 k o ho).1, fun k o ho => (h4 k o (by simpa using ho)).2, fun _ i o ho hi hld _ k h1 h2 => h6 i o (by simpa using ho) hi hld k h1 (by simpa using h2)⟩
  exact drawn_ctx hm C h3 S hQ
end
end Go.Eng
