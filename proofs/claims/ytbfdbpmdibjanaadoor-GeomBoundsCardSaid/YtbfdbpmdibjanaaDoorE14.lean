/- The engine, part 14: regions that draw their order: what is looked at. No condition. -/
import Derived.Test.YtbfdbpmdibjanaaDoorE13
namespace Go.Eng
open Go

inductive Kd where
  | pure | quiet | mk | eff
  deriving DecidableEq
def kd : Op → Kd
  | .move _ | .assign _ | .pick .. | .build .. | .nilCheck _ | .binOp .. | .unOp .. | .convert .. | .slice .. | .fieldAddr .. | .field .. | .indexAddr .. | .index .. | .extract .. | .makeFunc .. => .pure
  | .load .. => .quiet
  | .alloc _ | .box .. | .buildSlice .. => .mk
  | .call c => match c.callee with
    | .builtin .len | .builtin .max | .builtin .min => .pure
    | .value _ => .quiet
    | _ => .eff
  | _ => .eff
section
variable {P : Program} {ng : Nat}

theorem pure_any {op : Op} (h : kd op = .pure) (t : List V) (m m' : List Blk) (K : V → List Blk → Prop) : evOp P ng op t m K = evOp P ng op t m' fun v _ => K v m := by
  cases op <;> try rfl
  case alloc e => simp [kd] at h
  case box e x => simp [kd] at h
  case buildSlice e x y => simp [kd] at h
  case load e x => simp [kd] at h
  case store e x y => simp [kd] at h
  case makeSlice e x y => simp [kd] at h
  case makeMap e x => simp [kd] at h
  case lookup a b c d => simp [kd] at h
  case mapUpdate a b c d => simp [kd] at h
  case slice ty x lo hi mx => cases hi <;> cases mx <;> rfl
  case call c =>
    obtain ⟨callee, args, ats⟩ := c
    cases callee with
    | value f => simp [kd] at h
    | invoke r n => simp [kd] at h
    | builtin b => cases b <;> first | rfl | (exact absurd h (by simp [kd]))

/-- An operation looks at its operands alone. -/
theorem evArgs_congr {t t' : List V} {os : List Operand} (h : ∀ x ∈ os, evO ng t x = evO ng t' x) (K : List V → Prop) : evArgs ng t os K = evArgs ng t' os K := by
  rw [evArgs_eq, evArgs_eq]
  congr 1
  exact List.map_congr_left h
theorem evParts_congr {t t' : List V} {ps : List (Nat × Operand)} (h : ∀ p ∈ ps, evO ng t p.2 = evO ng t' p.2) (K : List (Nat × V) → Prop) : evParts ng t ps K = evParts ng t' ps K := by
  rw [evParts_eq, evParts_eq]
  congr 1
  exact List.map_congr_left fun p hp => by rw [h p hp]
theorem boundV_congr {t t' : List V} {o : Option Operand} (h : ∀ x ∈ o.toArray, evO ng t x = evO ng t' x) (lo hi d : Nat) (K : Nat → Prop) : boundV ng t lo hi o d K = boundV ng t' lo hi o d K := by
  unfold boundV
  cases o with
  | none => rfl
  | some x => simp only [h x (by simp)]
theorem evOp_congr {op : Op} {t t' : List V} (h : ∀ x ∈ op.operands, evO ng t x = evO ng t' x) (m : List Blk) (K : V → List Blk → Prop) : evOp P ng op t m K = evOp P ng op t' m K := by
  cases op <;> try rfl
  case move x => simp only [evOp, h x (by simp [Op.operands])]
  case assign x => simp only [evOp, h x (by simp [Op.operands])]
  case pick c x y => simp only [evOp, h c (by simp [Op.operands]), h x (by simp [Op.operands]), h y (by simp [Op.operands])]
  case box e x => simp only [evOp, h x (by simp [Op.operands])]
  case build ty ps =>
    have hp : ∀ p ∈ ps.toList, evO ng t p.2 = evO ng t' p.2 := fun p hp => h p.2 (by simp only [Op.operands, List.mem_toArray, List.mem_map]; exact ⟨p, hp, rfl⟩)
    simp only [evOp, evParts_congr hp]
  case buildSlice ty n ps =>
    have hp : ∀ p ∈ ps.toList, evO ng t p.2 = evO ng t' p.2 := fun p hp => h p.2 (by simp only [Op.operands, List.mem_toArray, List.mem_map]; exact ⟨p, hp, rfl⟩)
    simp only [evOp, evParts_congr hp]
  case load ty x => simp only [evOp, h x (by simp [Op.operands])]
  case store ty x y => simp only [evOp, h x (by simp [Op.operands]), h y (by simp [Op.operands])]
  case nilCheck x => simp only [evOp, h x (by simp [Op.operands])]
  case binOp op ty x y yt => simp only [evOp, h x (by simp [Op.operands]), h y (by simp [Op.operands])]
  case unOp op ty x => simp only [evOp, h x (by simp [Op.operands])]
  case convert s d x => simp only [evOp, h x (by simp [Op.operands])]
  case makeFunc fn a b =>
    simp only [evOp]
    rw [evArgs_congr (t' := t') fun x hx => h x (by simp only [Op.operands, Array.mem_append]; exact .inl (by simpa using hx))]
    congr 1
    funext as
    rw [evArgs_congr (t' := t') fun x hx => h x (by simp only [Op.operands, Array.mem_append]; exact .inr (by simpa using hx))]
  case makeSlice ty l c => simp only [evOp, h l (by simp [Op.operands]), h c (by simp [Op.operands])]
  case makeMap ty r =>
    cases r with
    | none => rfl
    | some o => simp only [evOp, h o (by simp [Op.operands])]
  case lookup ty x k ok => simp only [evOp, h x (by simp [Op.operands]), h k (by simp [Op.operands])]
  case mapUpdate ty x k v => simp only [evOp, h x (by simp [Op.operands]), h k (by simp [Op.operands]), h v (by simp [Op.operands])]
  case slice ty x lo hi mx =>
    have hx := h x (by simp [Op.operands])
    have h1 : ∀ y ∈ lo.toArray, evO ng t y = evO ng t' y := fun y hy => h y (by simp only [Op.operands, Array.mem_append]; exact .inl (.inl (.inr hy)))
    have h2 : ∀ y ∈ hi.toArray, evO ng t y = evO ng t' y := fun y hy => h y (by simp only [Op.operands, Array.mem_append]; exact .inl (.inr hy))
    have h3 : ∀ y ∈ mx.toArray, evO ng t y = evO ng t' y := fun y hy => h y (by simp only [Op.operands, Array.mem_append]; exact .inr hy)
    cases hi <;> cases mx <;> simp only [evOp, hx, boundV_congr h1, boundV_congr h2, boundV_congr h3]
  case fieldAddr s x i => simp only [evOp, h x (by simp [Op.operands])]
  case field ty x i => simp only [evOp, h x (by simp [Op.operands])]
  case indexAddr ty x ix => simp only [evOp, h x (by simp [Op.operands]), h ix (by simp [Op.operands])]
  case index ty x ix => simp only [evOp, h x (by simp [Op.operands]), h ix (by simp [Op.operands])]
  case extract x i => simp only [evOp, h x (by simp [Op.operands])]
  case call c =>
    obtain ⟨callee, args, ats⟩ := c
    have ha : ∀ x ∈ args.toList, evO ng t x = evO ng t' x := fun x hx => h x (by
      simp only [Op.operands, Call.operands, Array.mem_append]; exact .inr (by simpa using hx))
    cases callee with
    | value f =>
      have hf := h f (by simp [Op.operands, Call.operands])
      simp only [evOp, hf, evArgs_congr ha]
    | invoke r n => rfl
    | builtin b =>
      cases b <;> try rfl
      case len =>
        simp only [evOp]
        split
        · rename_i x ty hx hty
          rw [ha x (by rw [hx]; simp)]
        · rfl
      case append =>
        simp only [evOp]
        split
        · rename_i s x ty tx hx hty
          rw [ha s (by rw [hx]; simp), ha x (by rw [hx]; simp)]
        · rfl
      case copy =>
        simp only [evOp]
        split
        · rename_i s x ty ts hx hty
          rw [ha s (by rw [hx]; simp), ha x (by rw [hx]; simp)]
        · rfl
      case max => simp only [evOp, evArgs_congr ha]
      case min => simp only [evOp, evArgs_congr ha]
end

/-! ### Which operation must come ahead of which -/
inductive Pre (ops : List Oper) : Nat → Nat → Prop
  | edge {j : Nat} {o : Oper} {e : Edge} (ho : ops[j]? = some o) (he : e ∈ o.after) (hb : Region.binds .any e = true) : Pre ops e.on j
  | trans {i k j : Nat} (h : Pre ops i k) (h' : Pre ops k j) : Pre ops i j
def mask1 (acc : List Nat) : List Edge → Nat
  | [] => 0
  | e :: es => match Region.binds .any e with
    | true => (1 <<< e.on) ||| acc.getD e.on 0 ||| mask1 acc es
    | false => mask1 acc es
def masks : List Oper → List Nat → List Nat
  | [], acc => acc
  | o :: os, acc => masks os (acc ++ [mask1 acc o.after.toList])
theorem mask1_spec {ops : List Oper} {acc : List Nat} {j : Nat} {o : Oper} (ho : ops[j]? = some o) (ha : ∀ k i, (acc.getD k 0).testBit i = true → Pre ops i k) :
    ∀ (es : List Edge), (∀ e ∈ es, e ∈ o.after) → ∀ i, (mask1 acc es).testBit i = true → Pre ops i j
  | [], _, i, h => by simp [mask1] at h
  | e :: es, he, i, h => by
    simp only [mask1] at h
    have hes := mask1_spec ho ha es (fun e' h' => he e' (by simp [h']))
    cases hb : Region.binds .any e with
    | false => simp only [hb] at h; exact hes i h
    | true =>
      simp only [hb, Nat.testBit_or, Bool.or_eq_true] at h
      have hedge := Pre.edge ho (he e (by simp)) hb
      rcases h with (h | h) | h
      · rw [Nat.shiftLeft_eq, Nat.one_mul, Nat.testBit_two_pow] at h
        simp only [decide_eq_true_eq] at h
        subst h; exact hedge
      · exact .trans (ha e.on i h) hedge
      · exact hes i h
theorem masks_spec {ops : List Oper} : ∀ (l : List Oper) (acc : List Nat), (∀ j, l[j]? = ops[acc.length + j]?) → (∀ k i, (acc.getD k 0).testBit i = true → Pre ops i k) →
    ∀ k i, ((masks l acc).getD k 0).testBit i = true → Pre ops i k
  | [], acc, _, ha => ha
  | o :: l, acc, hl, ha => by
    have h0 : ops[acc.length]? = some o := by simpa using (hl 0).symm
    refine masks_spec l _ (fun j => by have := hl (j + 1); simp only [List.getElem?_cons_succ] at this; rw [this]; simp; congr 1; omega) (fun k i h => ?_)
    rcases Nat.lt_trichotomy k acc.length with hk | hk | hk
    · rw [List.getD_eq_getElem?_getD, List.getElem?_append_left hk, ← List.getD_eq_getElem?_getD] at h
      exact ha k i h
    · subst hk
      rw [List.getD_eq_getElem?_getD, List.getElem?_append_right (Nat.le_refl _)] at h
      simp only [Nat.sub_self, List.getElem?_cons_zero, Option.getD_some] at h
      exact mask1_spec h0 ha _ (fun e he => by simpa using he) i h
    · rw [List.getD_eq_getElem?_getD, List.getElem?_eq_none (by simp; omega)] at h
      simp at h

/-! ### The look at a region -/
/-- Ahead of the first operation that writes: part A. -/
def firstEff : List Oper → Nat
  | [] => 0
  | o :: os => match kd o.op with
    | .eff => 0
    | _ => firstEff os + 1
def reads (ops : Array Oper) (o : Oper) (x : Tmp) : Bool := (o.looksAt ops).contains x
def dstIs (o : Oper) (x : Tmp) : Bool := o.dst == some x
/-- The pair i < j. -/
def isLoad (o : Oper) : Bool :=
  match o.op with
  | .load _ _ => true
  | _ => false
def pairOk (lax : Bool) (ops : Array Oper) (s : Nat) (ms : List Nat) (i j : Nat) (x y : Oper) : Bool :=
  let before := (ms.getD j 0).testBit i
  -- who isn't ahead of the other is apart from it
  (before || x.apart ops y) &&
  -- what reads or writes memory: in order, from the first writer on; but for loads that may come late
  (!(Nat.ble s j) || kd x.op == .pure || kd y.op == .pure || before || (lax && Nat.blt i s && isLoad x)) &&
  -- a new block of part A: looked at by part B's own alone, and written by no other
  (!(kd x.op == .mk) || !(Nat.blt i s) ||
    (match x.dst with
     | some d => (!(reads ops y d) || (Nat.ble s j && !(kd y.op == .pure))) && !(dstIs y d)
     | none => false)) &&
  (!(kd y.op == .mk) || !(Nat.blt j s) ||
    (match y.dst with
     | some d => !(reads ops x d) && !(dstIs x d)
     | none => false))
def edgesBack : Nat → List Oper → Bool
  | _, [] => true
  | j, o :: os => o.after.toList.all (fun e => Nat.blt e.on j || !Region.binds .any e) && edgesBack (j + 1) os
def noSel : List Oper → Bool
  | [] => true
  | o :: os => (match o.op with | .select .. => false | _ => true) && noSel os
def pairsFrom (lax : Bool) (ops : Array Oper) (s : Nat) (ms : List Nat) (i : Nat) (x : Oper) : Nat → List Oper → Bool
  | _, [] => true
  | j, y :: os => pairOk lax ops s ms i j x y && pairsFrom lax ops s ms i x (j + 1) os
def pairsAll (lax : Bool) (ops : Array Oper) (s : Nat) (ms : List Nat) : Nat → List Oper → Bool
  | _, [] => true
  | i, x :: os => pairsFrom lax ops s ms i x (i + 1) os && pairsAll lax ops s ms (i + 1) os
/-- A new block of part A has a slot, and isn't read by its own operation. -/
def selfOk (ops : Array Oper) : List Oper → Bool
  | [] => true
  | o :: os => (!(kd o.op == .mk) || (match o.dst with | some d => !(reads ops o d) | none => false)) && selfOk ops os
def lookX (lax : Bool) (ops : Array Oper) : Bool :=
  edgesBack 0 ops.toList && selfOk ops ops.toList && pairsAll lax ops (firstEff ops.toList) (masks ops.toList []) 0 ops.toList
def lookD (ops : Array Oper) : Bool := lookX false ops
def noGuards : List Oper → Bool
  | [] => true
  | o :: os => (match o.guard with | none => true | some _ => false) && noGuards os
/-- Loads may come behind stores. -/
def lookF (ops : Array Oper) : Bool := noGuards ops.toList && lookX true ops
theorem noGuards_spec : ∀ {l : List Oper}, noGuards l = true → ∀ (k : Nat) (o : Oper), l[k]? = some o → o.guard = none
  | [], _, k, o, ho => by simp at ho
  | z :: l, h, k, o, ho => by
    simp only [noGuards, Bool.and_eq_true] at h
    cases k with
    | zero =>
      simp at ho; subst ho
      cases hg : z.guard with
      | none => rfl
      | some p => rw [hg] at h; exact absurd h.1 (by simp)
    | succ k => exact noGuards_spec h.2 k o (by simpa using ho)

theorem pairsFrom_spec {lax : Bool} {ops : Array Oper} {s : Nat} {ms : List Nat} {i : Nat} {x : Oper} : ∀ (l : List Oper) (j : Nat), pairsFrom lax ops s ms i x j l = true → ∀ k y, l[k]? = some y → pairOk lax ops s ms i (j + k) x y = true
  | [], _, _, k, y, hy => by simp at hy
  | z :: l, j, h, k, y, hy => by
    simp only [pairsFrom, Bool.and_eq_true] at h
    cases k with
    | zero => simp at hy; subst hy; exact h.1
    | succ k => have := pairsFrom_spec l (j + 1) h.2 k y (by simpa using hy); rwa [show j + 1 + k = j + (k + 1) by omega] at this
theorem pairsAll_spec {lax : Bool} {ops : Array Oper} {s : Nat} {ms : List Nat} : ∀ (l : List Oper) (i : Nat), pairsAll lax ops s ms i l = true → ∀ p q x y, p < q → l[p]? = some x → l[q]? = some y → pairOk lax ops s ms (i + p) (i + q) x y = true
  | [], _, _, p, q, x, y, _, hx, _ => by simp at hx
  | z :: l, i, h, p, q, x, y, hpq, hx, hy => by
    simp only [pairsAll, Bool.and_eq_true] at h
    cases p with
    | zero =>
      simp at hx; subst hx
      obtain ⟨q, rfl⟩ : ∃ r, q = r + 1 := ⟨q - 1, by omega⟩
      have := pairsFrom_spec l (i + 1) h.1 q y (by simpa using hy)
      rwa [show i + 1 + q = i + (q + 1) by omega] at this
    | succ p =>
      obtain ⟨q, rfl⟩ : ∃ r, q = r + 1 := ⟨q - 1, by omega⟩
      have := pairsAll_spec l (i + 1) h.2 p q x y (by omega) (by simpa using hx) (by simpa using hy)
      rwa [show i + 1 + p = i + (p + 1) by omega, show i + 1 + q = i + (q + 1) by omega] at this
theorem edgesBack_spec : ∀ (l : List Oper) (j : Nat), edgesBack j l = true → ∀ (k : Nat) (o : Oper), l[k]? = some o → ∀ e ∈ o.after, Region.binds .any e = true → e.on < j + k
  | [], _, _, k, o, ho => by simp at ho
  | z :: l, j, h, k, o, ho => by
    simp only [edgesBack, Bool.and_eq_true] at h
    cases k with
    | zero =>
      simp at ho; subst ho
      intro e he hb
      have := List.all_eq_true.1 h.1 e (by simpa using he)
      simp only [hb, Bool.not_true, Bool.or_false] at this
      simpa using this
    | succ k =>
      intro e he hb
      have := edgesBack_spec l (j + 1) h.2 k o (by simpa using ho) e he hb
      omega
theorem selfOk_spec {ops : Array Oper} : ∀ (l : List Oper), selfOk ops l = true → ∀ (k : Nat) (o : Oper), l[k]? = some o → kd o.op = .mk → ∃ d, o.dst = some d ∧ reads ops o d = false
  | [], _, k, o, ho, _ => by simp at ho
  | z :: l, h, k, o, ho, hm => by
    simp only [selfOk, Bool.and_eq_true] at h
    cases k with
    | zero =>
      simp at ho; subst ho
      have := h.1
      simp only [hm, beq_self_eq_true, Bool.not_true, Bool.false_or] at this
      cases hd : z.dst with
      | none => simp [hd] at this
      | some d => simp only [hd, Bool.not_eq_true'] at this; exact ⟨d, rfl, this⟩
    | succ k => exact selfOk_spec l h.2 k o (by simpa using ho) hm
end Go.Eng
