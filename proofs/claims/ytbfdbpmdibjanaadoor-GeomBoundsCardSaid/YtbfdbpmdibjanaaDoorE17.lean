/- The engine, part 17: regions that draw their order: the states on the way, and the theorem. No condition. -/
import Derived.Test.YtbfdbpmdibjanaaDoorE16
namespace Go.Eng
open Go

def mkLt (n : Nat) : List Oper → Bool
  | [] => true
  | o :: os => (!(kd o.op == .mk) || (match o.dst with | some d => Nat.blt d n | none => true)) && mkLt n os
theorem mkLt_spec {n : Nat} : ∀ {l : List Oper}, mkLt n l = true → ∀ (k : Nat) (o : Oper), l[k]? = some o → kd o.op = .mk → ∀ d, o.dst = some d → d < n
  | [], _, k, o, ho, _, _, _ => by simp at ho
  | z :: l, h, k, o, ho, hm, d, hd => by
    simp only [mkLt, Bool.and_eq_true] at h
    cases k with
    | zero =>
      simp at ho; subst ho
      have := h.1
      simp only [hm, beq_self_eq_true, Bool.not_true, Bool.false_or, hd] at this
      simpa using this
    | succ k => exact mkLt_spec h.2 k o (by simpa using ho) hm d hd

structure Ctx (Lax : Prop) (P : Program) (ng : Nat) (ops : Array Oper) (s : Nat) (m0 : List Blk) (t0 : List V) (T : Nat → List V) (M : Nat → List Blk) (run : Nat → Bool) (v : Nat → V) : Prop where
  L : Looked Lax ops s
  lt : mkLt t0.length ops.toList = true
  T0 : T 0 = t0
  M0 : M 0 = m0
  step : ∀ (k : Nat) (o : Oper), ops.toList[k]? = some o → T (k + 1) = putL o.dst (T k) (v k)
  entry : ∀ (k : Nat) (o : Oper), ops[k]? = some o → Entry P ng ops.toList m0 (Nat.ble s k) o (T k) (M k) (run k) (v k) (M (k + 1))
  free : Lax → ∀ (i : Nat) (o : Oper), ops[i]? = some o → i < s → isLoad o = true → run i = true → ∀ k, s < k → k ≤ ops.size → evOp P ng o.op (T i) (M k) fun u b => u = v i ∧ b = M k

section
variable {P : Program} {ng : Nat} {ops : Array Oper} {s : Nat} {m0 : List Blk} {t0 : List V} {T : Nat → List V} {M : Nat → List Blk} {run : Nat → Bool} {v : Nat → V}
variable {g0 : Nat → Pl} {w0 : World}

def Mk (ops : Array Oper) (s : Nat) (run : Nat → Bool) (j x : Nat) : Prop := ∃ o, ops[j]? = some o ∧ j < s ∧ kd o.op = .mk ∧ run j = true ∧ o.dst = some x
def NB (ops : Array Oper) (s : Nat) (k : Nat) : Prop := ∃ o, ops[k]? = some o ∧ s ≤ k ∧ kd o.op ≠ .pure
def GhostAt (m0 : List Blk) (w0 : World) (M : Nat → List Blk) (v : Nat → V) (g : Nat → Pl) (a : Act) (w : World) (j x p : Nat) : Prop :=
  ∀ sh cs, v j = mkV sh (M j).length → M (j + 1) = M j ++ [⟨true, .cells cs⟩] →
    ∃ c e, w.heap[p]? = some (.cells c e) ∧ w0.heap.size ≤ p ∧ a.tmps.getD x undef = mkX sh p ∧ Rvs m0.length g cs c.toList
structure StA (ng : Nat) (ops : Array Oper) (s : Nat) (m0 : List Blk) (t0 : List V) (M : Nat → List Blk) (run : Nat → Bool) (v : Nat → V) (g0 : Nat → Pl) (w0 : World)
    (D : Nat → Prop) (g : Nat → Pl) (t : List V) (pf : Nat → Nat) (a : Act) (w : World) : Prop where
  sim : Sim ng g t m0 a w
  step : Step g0 m0 w0 g m0 w
  len : t.length = t0.length
  wr : ∀ x, x < t0.length → (∀ j, ¬ Mk ops s run j x) → Wr ops v t0 D x (getT t x)
  ghost : ∀ j x, D j → Mk ops s run j x → GhostAt m0 w0 M v g a w j x (pf j) ∧ pf j < w.heap.size ∧ w0.heap.size ≤ pf j
  apart : ∀ j k x y, D j → D k → Mk ops s run j x → Mk ops s run k y → j ≠ k → pf j ≠ pf k
structure StB (ng : Nat) (ops : Array Oper) (m0 : List Blk) (t0 : List V) (v : Nat → V) (g0 : Nat → Pl) (w0 : World)
    (m : List Blk) (D : Nat → Prop) (g : Nat → Pl) (t : List V) (a : Act) (w : World) : Prop where
  sim : Sim ng g t m a w
  step : Step g0 m0 w0 g m w
  len : t.length = t0.length
  wr : ∀ x, x < t0.length → Wr ops v t0 D x (getT t x)

theorem Guard.congr {l : List Oper} {o : Oper} {t t' : List V} {r : Bool} (h : Guard l o t r) (e : ∀ j want d, o.guard = some (j, want) → dstOf l j = some d → getT t d = getT t' d) : Guard l o t' r := by
  unfold Guard at *
  split at h
  · rename_i hg; exact h
  · rename_i j want hg
    obtain ⟨d, h1, h2⟩ := h
    exact ⟨d, h1, by rw [← e j want d hg h1]; exact h2⟩
theorem wanted_of {g : Nat → Pl} {t : List V} {m : List Blk} {a : Act} {w : World} {o : Oper} {r : Bool} (S : Sim ng g t m a w) (h : Guard ops.toList o t r) : Region.wanted o (yielded ops a.tmps) = r := by
  unfold Guard at h
  split at h
  · rename_i hg; rw [h]; simp [Region.wanted, hg]
  · rename_i j want hg
    obtain ⟨d, hd, h⟩ := h
    rw [dstOf_eq] at hd
    have hd' : (ops[j]?).bind (·.dst) = some d := by simpa using hd
    have hrv := Rvs_getD S.tmps d
    rw [← getT_eq] at hrv
    have hy : yielded ops a.tmps j = match a.tmps[d]? with | some (.bool b) => some b | _ => none := by
      simp only [yielded, hd', Option.bind_some]
      rfl
    rcases h with ⟨b, hb, rfl⟩ | ⟨⟨xs, hx⟩, rfl⟩
    · rw [hb] at hrv
      simp only [Rv] at hrv
      have hlt : d < a.tmps.size := by
        rcases Nat.lt_or_ge d a.tmps.size with h' | h'
        · exact h'
        · rw [List.getD_eq_getElem?_getD, List.getElem?_eq_none (by simpa using h')] at hrv
          simp [undef] at hrv
      have : a.tmps[d]? = some (.bool b) := by
        rw [Array.getElem?_eq_getElem hlt]
        simpa [hlt] using hrv
      rw [this] at hy
      simp [Region.wanted, hg, hy]
    · rw [hx] at hrv
      simp only [Rv] at hrv
      have hn : yielded ops a.tmps j = none := by
        rw [hy]
        rcases Nat.lt_or_ge d a.tmps.size with h' | h'
        · have : a.tmps[d]? = some (.tuple xs) := by
            rw [Array.getElem?_eq_getElem h']
            simpa [h'] using hrv
          rw [this]
        · rw [Array.getElem?_eq_none h']
      simp [Region.wanted, hg, hn]
theorem guard_looks {o : Oper} {j : Nat} {want : Bool} {d : Nat} (hg : o.guard = some (j, want)) (hd : dstOf ops.toList j = some d) : d ∈ o.looksAt ops := by
  rw [dstOf_eq] at hd
  have hd' : (ops[j]?).bind (·.dst) = some d := by simpa using hd
  simp only [Oper.looksAt, hg, hd', List.mem_append]
  exact .inr (by simp)
theorem operand_looks {o : Oper} {x : Nat} (h : Operand.tmp x ∈ o.op.operands) : x ∈ o.looksAt ops := by
  simp only [Oper.looksAt, List.mem_append, List.mem_filterMap]
  exact .inl ⟨_, by simpa using h, rfl⟩
theorem ev_same {t t' : List V} {o : Oper} (h : ∀ x, x ∈ o.looksAt ops → getT t x = getT t' x) : ∀ y ∈ o.op.operands, evO ng t y = evO ng t' y := by
  intro y hy
  cases y with
  | tmp x => simp only [evO]; exact h x (operand_looks hy)
  | const c => rfl
  | global c => rfl
  | func c => rfl

section
variable {Lax : Prop} (C : Ctx Lax P ng ops s m0 t0 T M run v) {D : Nat → Prop} (hc : Closed ops D) {i : Nat} {o : Oper} (hi : ops[i]? = some o) (hn : ¬ D i) (hr : ∀ e ∈ o.after, Region.binds .any e = true → D e.on)
include C
theorem text_wr (k : Nat) (hk : k ≤ ops.size) : (T k).length = t0.length ∧ ∀ x, x < t0.length → Wr ops v t0 (fun j => j < k) x (getT (T k) x) := Wr.text C.T0 C.step k hk
include hc hi hn hr
/-- What it reads is what the walk read. -/
theorem same_reads {t : List V} (hl : t.length = t0.length) (hw : ∀ x, x < t0.length → x ∈ o.looksAt ops → Wr ops v t0 D x (getT t x)) : ∀ x, x ∈ o.looksAt ops → getT t x = getT (T i) x := by
  intro x hx
  have hlt : i < ops.size := (Array.getElem?_eq_some_iff.1 hi).1
  obtain ⟨h1, h2⟩ := text_wr C i (by omega)
  rcases Nat.lt_or_ge x t0.length with h | h
  · exact (hw x h hx).unique ((h2 x h).congr fun j o' hj hd => (reads_text C.L hc hi hn hr hx j o' hj hd).symm)
  · rw [getT_eq, getT_eq, List.getD_eq_getElem?_getD, List.getD_eq_getElem?_getD, List.getElem?_eq_none (by omega), List.getElem?_eq_none (by omega)]
omit hc hn hr in
/-- Operations of part A, and such as touch no memory, look at no new block. -/
theorem no_mk (h : i < s ∨ kd o.op = .pure) {x : Nat} (hx : x ∈ o.looksAt ops) (j : Nat) : ¬ Mk ops s run j x := by
  rintro ⟨o', hj, hjs, hk, _, hd⟩
  rcases Nat.lt_trichotomy j i with h1 | h1 | h1
  · obtain ⟨d, e1, e2, _⟩ := (C.L.pair j i o' o h1 hj hi).2.2.1 hk hjs
    rw [hd] at e1; cases e1
    obtain ⟨k1, k2⟩ := e2 hx
    rcases h with h | h
    · omega
    · exact k2 h
  · subst h1
    rw [hi] at hj; cases hj
    obtain ⟨d, e1, e2⟩ := C.L.self j o hi hk
    rw [hd] at e1; cases e1
    exact e2 hx
  · obtain ⟨d, e1, e2, _⟩ := (C.L.pair i j o o' h1 hi hj).2.2.2 hk hjs
    rw [hd] at e1; cases e1
    exact e2 hx
omit hc hn hr in
/-- A new block's slot is nobody else's. -/
theorem mk_slot {j x : Nat} (hm : Mk ops s run j x) (hne : i ≠ j) : o.dst ≠ some x := by
  obtain ⟨o', hj, hjs, hk, _, hd⟩ := hm
  rcases Nat.lt_or_ge i j with h1 | h1
  · obtain ⟨d, e1, _, e3⟩ := (C.L.pair i j o o' h1 hi hj).2.2.2 hk hjs
    rw [hd] at e1; cases e1; exact e3
  · obtain ⟨d, e1, _, e3⟩ := (C.L.pair j i o' o (by omega) hj hi).2.2.1 hk hjs
    rw [hd] at e1; cases e1; exact e3
end

theorem getT_putL {d : Option Tmp} {t : List V} {u : V} {x : Nat} (h : d ≠ some x) : getT (putL d t u) x = getT t x := by
  cases d with
  | none => rfl
  | some d => simp only [putL]; rw [getT_set, if_neg (fun e => h (by rw [e.1]))]
theorem getT_putL_same {d : Nat} {t : List V} {u : V} (h : d < t.length) : getT (putL (some d) t u) d = u := by
  simp only [putL]; rw [getT_set, if_pos ⟨rfl, h⟩]
theorem put_getD {a : Act} {d : Option Tmp} {x : Nat} {u : Value} (h : d ≠ some x) : (a.put d u).tmps.getD x undef = a.tmps.getD x undef := by
  cases d with
  | none => rfl
  | some d =>
    simp only [Act.put]
    have : d ≠ x := fun e => h (by rw [e])
    simp [Array.getElem?_setIfInBounds_ne this]
theorem put_getD_same {a : Act} {d : Nat} {u : Value} (h : d < a.tmps.size) : (a.put (some d) u).tmps.getD d undef = u := by
  simp [Act.put, h]

/-- How the slots stand behind one operation more. -/
theorem wr_next {D : Nat → Prop} {i : Nat} {o : Oper} (hi : ops[i]? = some o) (hlast : ∀ x, o.dst = some x → ∀ k o', ops[k]? = some o' → D k → o'.dst = some x → k ≤ i) {t : List V} (hl : t.length = t0.length) {x : Nat} (hx : x < t0.length)
    (h : o.dst ≠ some x → Wr ops v t0 D x (getT t x)) : Wr ops v t0 (fun j => D j ∨ j = i) x (getT (putL o.dst t (v i)) x) := by
  by_cases hd : o.dst = some x
  · rw [hd, getT_putL_same (by omega)]
    exact .new hi hd (hlast x hd)
  · rw [getT_putL hd]
    exact (h hd).add hi hd

section
variable (R0 : Rep g0 m0 w0)
include R0
/-- A ghost stays where a call, a load, a reckoning passes. -/
theorem ghosts_keep {D : Nat → Prop} {g g' : Nat → Pl} {t : List V} {pf : Nat → Nat} {a a' : Act} {w w' : World} (A : StA ng ops s m0 t0 M run v g0 w0 D g t pf a w) (hs : Step g m0 w g' m0 w')
    (hx : ∀ j x, D j → Mk ops s run j x → a'.tmps.getD x undef = a.tmps.getD x undef) :
    ∀ j x, D j → Mk ops s run j x → GhostAt m0 w0 M v g' a' w' j x (pf j) ∧ pf j < w'.heap.size ∧ w0.heap.size ≤ pf j := by
  intro j x hj hm
  obtain ⟨h1, h2, h3⟩ := A.ghost j x hj hm
  refine ⟨fun sh cs e1 e2 => ?_, Nat.lt_of_lt_of_le h2 hs.size, h3⟩
  obtain ⟨c, e, k1, k2, k3, k4⟩ := h1 sh cs e1 e2
  refine ⟨c, e, ?_, k2, by rw [hx j x hj hm]; exact k3, Rvs_monoA (Nat.le_refl _) hs.ag _ k4⟩
  rw [hs.same _ h2, k1]
  rintro ⟨i, b, hb, _, he⟩
  have hlt := (List.getElem?_eq_some_iff.1 hb).1
  rw [A.step.eq i hlt] at he
  have := (R0.blk i b hb).size
  omega
end
end
end Go.Eng
