/- The engine, part 16: regions that draw their order: one walk serves every order. No condition. -/
import Derived.Test.YtbfdbpmdibjanaaDoorE15
namespace Go.Eng
open Go

/-! ### Who has written a slot -/
def Wr (ops : Array Oper) (v : Nat → V) (t0 : List V) (D : Nat → Prop) (x : Nat) (u : V) : Prop :=
  (∃ j o, ops[j]? = some o ∧ D j ∧ o.dst = some x ∧ u = v j ∧ ∀ k o', ops[k]? = some o' → D k → o'.dst = some x → k ≤ j) ∨
  ((∀ j o, ops[j]? = some o → D j → o.dst ≠ some x) ∧ u = getT t0 x)
section
variable {ops : Array Oper} {v : Nat → V} {t0 : List V} {D D' : Nat → Prop} {x : Nat} {u u' : V}
theorem Wr.unique (h : Wr ops v t0 D x u) (h' : Wr ops v t0 D x u') : u = u' := by
  rcases h with ⟨j, o, h1, h2, h3, rfl, h5⟩ | ⟨h1, rfl⟩
  · rcases h' with ⟨k, o', k1, k2, k3, rfl, k5⟩ | ⟨k1, rfl⟩
    · have := h5 k o' k1 k2 k3
      have := k5 j o h1 h2 h3
      have : j = k := by omega
      rw [this]
    · exact absurd h3 (k1 j o h1 h2)
  · rcases h' with ⟨k, o', k1, k2, k3, rfl, k5⟩ | ⟨k1, rfl⟩
    · exact absurd k3 (h1 k o' k1 k2)
    · rfl
theorem Wr.congr (h : Wr ops v t0 D x u) (e : ∀ j o, ops[j]? = some o → o.dst = some x → (D j ↔ D' j)) : Wr ops v t0 D' x u := by
  rcases h with ⟨j, o, h1, h2, h3, rfl, h5⟩ | ⟨h1, rfl⟩
  · exact .inl ⟨j, o, h1, (e j o h1 h3).1 h2, h3, rfl, fun k o' k1 k2 k3 => h5 k o' k1 ((e k o' k1 k3).2 k2) k3⟩
  · exact .inr ⟨fun j o h2 h3 h4 => h1 j o h2 ((e j o h2 h4).2 h3) h4, rfl⟩
theorem Wr.add (h : Wr ops v t0 D x u) {i : Nat} {o : Oper} (hi : ops[i]? = some o) (hx : o.dst ≠ some x) : Wr ops v t0 (fun j => D j ∨ j = i) x u :=
  h.congr fun j o' h1 h2 => ⟨.inl, fun h' => by
    rcases h' with h' | rfl
    · exact h'
    · rw [hi] at h1; cases h1; exact absurd h2 hx⟩
theorem Wr.new {i : Nat} {o : Oper} (hi : ops[i]? = some o) (hx : o.dst = some x) (hm : ∀ k o', ops[k]? = some o' → D k → o'.dst = some x → k ≤ i) : Wr ops v t0 (fun j => D j ∨ j = i) x (v i) :=
  .inl ⟨i, o, hi, .inr rfl, hx, rfl, fun k o' k1 k2 k3 => by
    rcases k2 with k2 | rfl
    · exact hm k o' k1 k2 k3
    · exact Nat.le_refl _⟩
theorem getT_set (t : List V) (d x : Nat) (u : V) : getT (t.set d u) x = if d = x ∧ x < t.length then u else getT t x := by
  rw [getT_eq, getT_eq, List.getD_eq_getElem?_getD, List.getD_eq_getElem?_getD, List.getElem?_set]
  by_cases h : d = x
  · subst h
    by_cases hl : d < t.length
    · simp [hl]
    · simp [hl]
  · simp [h]
theorem putL_length (d : Option Tmp) (t : List V) (u : V) : (putL d t u).length = t.length := by cases d <;> simp [putL]
theorem Wr.text {T : Nat → List V} (h0 : T 0 = t0) (hT : ∀ (k : Nat) (o : Oper), ops.toList[k]? = some o → T (k + 1) = putL o.dst (T k) (v k)) :
    ∀ k, k ≤ ops.size → (T k).length = t0.length ∧ ∀ x, x < t0.length → Wr ops v t0 (fun j => j < k) x (getT (T k) x)
  | 0, _ => by rw [h0]; exact ⟨rfl, fun x _ => .inr ⟨fun j o _ hj => absurd hj (by omega), rfl⟩⟩
  | k + 1, hk => by
    obtain ⟨l, ih⟩ := Wr.text h0 hT k (by omega)
    have ho : ops.toList[k]? = some ops[k] := by simp [show k < ops.size by omega]
    have ho' : ops[k]? = some ops[k] := by simp [show k < ops.size by omega]
    rw [hT k _ ho]
    refine ⟨by rw [putL_length, l], fun x hx => ?_⟩
    have step : ∀ u, Wr ops v t0 (fun j => j < k ∨ j = k) x u → Wr ops v t0 (fun j => j < k + 1) x u := fun u h => h.congr fun j o _ _ => by omega
    apply step
    cases hd : ops[k].dst with
    | none => exact (ih x hx).add ho' (by rw [hd]; simp)
    | some d =>
      simp only [putL]
      rw [getT_set]
      by_cases hdx : d = x
      · subst hdx
        rw [if_pos ⟨rfl, by omega⟩]
        exact .new ho' hd (fun j o' _ hj _ => by omega)
      · rw [if_neg (fun h => hdx h.1)]
        exact (ih x hx).add ho' (by rw [hd]; simpa using hdx)
end

/-! ### What the look gives -/
structure Looked (Lax : Prop) (ops : Array Oper) (s : Nat) : Prop where
  first : s = firstEff ops.toList
  back : ∀ (k : Nat) (o : Oper), ops[k]? = some o → ∀ e ∈ o.after, Region.binds .any e = true → e.on < k
  self : ∀ (k : Nat) (o : Oper), ops[k]? = some o → kd o.op = .mk → ∃ d, o.dst = some d ∧ d ∉ o.looksAt ops
  pair : ∀ (i j : Nat) (x y : Oper), i < j → ops[i]? = some x → ops[j]? = some y →
    (Pre ops.toList i j ∨ x.apart ops y = true) ∧
    (s ≤ j → kd x.op ≠ .pure → kd y.op ≠ .pure → Pre ops.toList i j ∨ (Lax ∧ i < s ∧ isLoad x = true)) ∧
    (kd x.op = .mk → i < s → ∃ d, x.dst = some d ∧ (d ∈ y.looksAt ops → s ≤ j ∧ kd y.op ≠ .pure) ∧ y.dst ≠ some d) ∧
    (kd y.op = .mk → j < s → ∃ d, y.dst = some d ∧ d ∉ x.looksAt ops ∧ x.dst ≠ some d)
theorem looked {lax : Bool} {ops : Array Oper} (h : lookX lax ops = true) : Looked (lax = true) ops (firstEff ops.toList) := by
  simp only [lookX, Bool.and_eq_true] at h
  obtain ⟨⟨h1, h2⟩, h3⟩ := h
  have hms := masks_spec (ops := ops.toList) ops.toList [] (by simp) (by simp)
  refine ⟨rfl, fun k o ho e he hb => ?_, fun k o ho hm => ?_, fun i j x y hij hx hy => ?_⟩
  · have := edgesBack_spec _ 0 h1 k o (by simpa using ho) e he hb; omega
  · obtain ⟨d, hd, hr⟩ := selfOk_spec _ h2 k o (by simpa using ho) hm
    exact ⟨d, hd, by simpa [reads] using hr⟩
  · have hp := pairsAll_spec _ 0 h3 i j x y hij (by simpa using hx) (by simpa using hy)
    simp only [Nat.zero_add, pairOk, Bool.and_eq_true] at hp
    obtain ⟨⟨⟨p1, p2⟩, p3⟩, p4⟩ := hp
    refine ⟨?_, fun hs hx' hy' => ?_, fun hm his => ?_, fun hm hjs => ?_⟩
    · rw [Bool.or_eq_true] at p1
      exact p1.imp (hms j i) id
    · have : Nat.ble (firstEff ops.toList) j = true := by simpa using hs
      simp only [this, Bool.not_true, Bool.false_or, Bool.or_eq_true, beq_iff_eq, hx', hy', false_or] at p2
      rcases p2 with p2 | p2
      · exact .inl (hms j i p2)
      · simp only [Bool.and_eq_true] at p2
        exact .inr ⟨p2.1.1, by simpa using p2.1.2, p2.2⟩
    · have : Nat.blt i (firstEff ops.toList) = true := by simpa using his
      simp only [hm, this, beq_self_eq_true, Bool.not_true, Bool.false_or] at p3
      cases hd : x.dst with
      | none => simp [hd] at p3
      | some d =>
        simp only [hd, Bool.and_eq_true, Bool.or_eq_true, Bool.not_eq_true'] at p3
        refine ⟨d, rfl, fun hr => ?_, ?_⟩
        · rcases p3.1 with q | q
          · exact absurd hr (by simpa [reads] using q)
          · exact ⟨by simpa using q.1, by simpa using q.2⟩
        · simpa [dstIs] using p3.2
    · have : Nat.blt j (firstEff ops.toList) = true := by simpa using hjs
      simp only [hm, this, beq_self_eq_true, Bool.not_true, Bool.false_or] at p4
      cases hd : y.dst with
      | none => simp [hd] at p4
      | some d =>
        simp only [hd, Bool.and_eq_true, Bool.not_eq_true'] at p4
        exact ⟨d, rfl, by simpa [reads] using p4.1, by simpa [dstIs] using p4.2⟩

def Closed (ops : Array Oper) (D : Nat → Prop) : Prop := ∀ i j, Pre ops.toList i j → D j → D i
theorem pre_ready {ops : Array Oper} {D : Nat → Prop} (hc : Closed ops D) {i : Nat} {o : Oper} (hi : ops[i]? = some o) (hr : ∀ e ∈ o.after, Region.binds .any e = true → D e.on) {j : Nat} (h : Pre ops.toList j i) : D j := by
  generalize hk : i = k at h
  induction h with
  | edge ho he hb =>
    subst hk
    have : o = _ := Option.some.inj (hi.symm.trans (by simpa using ho))
    subst this
    exact hr _ he hb
  | trans h h' ih ih' => exact hc _ _ h (ih' hk)
theorem apart_no {ops : Array Oper} {x y : Oper} {d : Nat} (h : x.apart ops y = true) : (x.dst = some d → d ∉ y.looksAt ops ∧ y.dst ≠ some d) ∧ (y.dst = some d → d ∉ x.looksAt ops ∧ x.dst ≠ some d) := by
  obtain ⟨h1, h2, h3⟩ := Oper.apart_spec h
  exact ⟨fun hd => ⟨h1 d hd, h2 d hd⟩, fun hd => ⟨h3 d hd, fun hx => h2 d hx hd⟩⟩

section
variable {Lax : Prop} {ops : Array Oper} {s : Nat} (L : Looked Lax ops s) {D : Nat → Prop} (hc : Closed ops D) {i : Nat} {o : Oper} (hi : ops[i]? = some o) (hn : ¬ D i) (hr : ∀ e ∈ o.after, Region.binds .any e = true → D e.on)
include L hc hi hn hr
/-- What an operation reads has been written by just those ahead of it. -/
theorem reads_text {x : Nat} (hx : x ∈ o.looksAt ops) : ∀ j o', ops[j]? = some o' → o'.dst = some x → (D j ↔ j < i) := by
  intro j o' hj hd
  rcases Nat.lt_trichotomy j i with h | h | h
  · refine ⟨fun _ => h, fun _ => ?_⟩
    rcases (L.pair j i o' o h hj hi).1 with hp | hap
    · exact pre_ready hc hi hr hp
    · exact absurd hx ((apart_no hap).1 hd).1
  · subst h; exact ⟨fun h => absurd h hn, fun h => absurd h (by omega)⟩
  · refine ⟨fun hDj => ?_, fun h' => by omega⟩
    rcases (L.pair i j o o' h hi hj).1 with hp | hap
    · exact absurd (hc _ _ hp hDj) hn
    · exact absurd hx ((apart_no hap).2 hd).1
omit hr in
/-- Nobody behind it has written its slot. -/
theorem writes_last {x : Nat} (hx : o.dst = some x) : ∀ k o', ops[k]? = some o' → D k → o'.dst = some x → k ≤ i := by
  intro k o' hk hDk hd
  rcases Nat.lt_or_ge i k with h | h
  · rcases (L.pair i k o o' h hi hk).1 with hp | hap
    · exact absurd (hc _ _ hp hDk) hn
    · exact absurd hd ((apart_no hap).1 hx).2
  · exact h
omit L hn in
theorem closed_add : Closed ops (fun j => D j ∨ j = i) := by
  intro k j hp hj
  rcases hj with hj | rfl
  · exact .inl (hc _ _ hp hj)
  · exact .inl (pre_ready hc hi hr hp)
end
end Go.Eng
