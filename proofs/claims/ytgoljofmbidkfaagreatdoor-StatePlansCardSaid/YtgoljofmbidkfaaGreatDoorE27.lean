import Derived.Test.YtgoljofmbidkfaaGreatDoorE19
/- The engine: parts 26 to 27. No condition. -/
/- The engine, part 26: regions that draw their order and make new rows: what is looked at, and the walk. No condition. -/
namespace Go.Eng
open Go
set_option linter.unusedSimpArgs false
set_option linter.unusedVariables false

inductive Kd2 where
  | pure | quiet | mk | eff | bad
  deriving DecidableEq
/-- New blocks may come at any time ahead of the next writer; what looks at them is a writer. -/
def kd2 (op : Op) : Kd2 :=
  match op with
  | .makeSlice .. | .alloc _ | .box .. | .buildSlice .. => .mk
  | .build .. | .store .. => .eff
  | .load .. => .quiet
  | .call c => match c.callee with
    | .builtin .append => .eff
    | .builtin .len | .builtin .max | .builtin .min => .pure
    | .value f => match loudF f with
      | true => .mk
      | false => .quiet
    | _ => .bad
  | .move _ | .assign _ | .pick .. | .nilCheck _ | .binOp .. | .unOp .. | .convert .. | .slice .. | .fieldAddr .. | .field .. | .indexAddr .. | .index .. | .extract .. | .makeFunc .. => .pure
  | _ => .bad
/-- A call that makes a new row, and nothing else. -/
def isC : Op → Bool
  | .call c => match c.callee with
    | .value f => loudF f
    | _ => false
  | _ => false
/-- Rows of plain numbers. -/
def B.nums : B → Bool
  | .ints .. | .flts _ | .bools _ => true
  | _ => false
/-- A memory's blocks, all of them closed to writing. -/
def shutM : List Blk → List Blk
  | [] => []
  | b :: m => ⟨false, b.b⟩ :: shutM m
theorem shutM_len : ∀ m : List Blk, (shutM m).length = m.length
  | [] => rfl
  | _ :: m => by simp [shutM, shutM_len m]
theorem shutM_get : ∀ (m : List Blk) (i : Nat), (shutM m)[i]? = (m[i]?).map fun b => ⟨false, b.b⟩
  | [], i => by simp [shutM]
  | b :: m, 0 => by simp [shutM]
  | b :: m, i + 1 => by simp [shutM, shutM_get m i]
theorem kd2_pure {op : Op} (h : kd2 op = .pure) : kd op = .pure := by
  cases op <;> try (first | rfl | (simp [kd2] at h; done))
  case call c =>
    obtain ⟨callee, args, ats⟩ := c
    cases callee with
    | value f =>
      simp only [kd2] at h
      split at h <;> cases h
    | invoke r n => simp [kd2] at h
    | builtin b => cases b <;> first | rfl | (simp [kd2] at h; done)
def pair2 (ops : Array Oper) (ms : List Nat) (i j : Nat) (x y : Oper) : Bool :=
  let before := (ms.getD j 0).testBit i
  (before || x.apart ops y) &&
  (before || !(kd2 y.op == .eff) || !(kd2 x.op == .mk || kd2 x.op == .eff)) &&
  (before || !(kd2 x.op == .eff) || !(isC y.op)) &&
  (!(kd2 x.op == .mk) || (match x.dst with | some d => (!(reads ops y d) || kd2 y.op == .eff) && !(dstIs y d) | none => false)) &&
  (!(kd2 y.op == .mk) || (match y.dst with | some d => !(reads ops x d) && !(dstIs x d) | none => false))
def pairs2 (ops : Array Oper) (ms : List Nat) (i : Nat) (x : Oper) : Nat → List Oper → Bool
  | _, [] => true
  | j, y :: os => pair2 ops ms i j x y && pairs2 ops ms i x (j + 1) os
def pairsAll2 (ops : Array Oper) (ms : List Nat) : Nat → List Oper → Bool
  | _, [] => true
  | i, x :: os => pairs2 ops ms i x (i + 1) os && pairsAll2 ops ms (i + 1) os
def self2 (ops : Array Oper) (n : Nat) : List Oper → Bool
  | [] => true
  | o :: os => !(kd2 o.op == .bad) && (!(kd2 o.op == .mk) || (match o.dst with | some d => !(reads ops o d) && Nat.blt d n | none => false)) && self2 ops n os
def lookG (ops : Array Oper) (n : Nat) : Bool := noGuards ops.toList && edgesBack 0 ops.toList && self2 ops n ops.toList && pairsAll2 ops (masks ops.toList []) 0 ops.toList
structure Look2 (ops : Array Oper) (n : Nat) : Prop where
  ng : ∀ (k : Nat) (o : Oper), ops[k]? = some o → o.guard = none
  back : ∀ (k : Nat) (o : Oper), ops[k]? = some o → ∀ e ∈ o.after, Region.binds .any e = true → e.on < k
  good : ∀ (k : Nat) (o : Oper), ops[k]? = some o → kd2 o.op ≠ .bad
  self : ∀ (k : Nat) (o : Oper), ops[k]? = some o → kd2 o.op = .mk → ∃ d, o.dst = some d ∧ d ∉ o.looksAt ops ∧ d < n
  pair : ∀ (i j : Nat) (x y : Oper), i < j → ops[i]? = some x → ops[j]? = some y →
    (Pre ops.toList i j ∨ x.apart ops y = true) ∧
    (kd2 y.op = .eff → (kd2 x.op = .mk ∨ kd2 x.op = .eff) → Pre ops.toList i j) ∧
    (kd2 x.op = .eff → isC y.op = true → Pre ops.toList i j) ∧
    (kd2 x.op = .mk → ∃ d, x.dst = some d ∧ (d ∈ y.looksAt ops → kd2 y.op = .eff) ∧ y.dst ≠ some d) ∧
    (kd2 y.op = .mk → ∃ d, y.dst = some d ∧ d ∉ x.looksAt ops ∧ x.dst ≠ some d)
theorem pairs2_spec {ops : Array Oper} {ms : List Nat} {i : Nat} {x : Oper} : ∀ (l : List Oper) (j : Nat), pairs2 ops ms i x j l = true → ∀ k y, l[k]? = some y → pair2 ops ms i (j + k) x y = true
  | [], _, _, k, y, hy => by simp at hy
  | z :: l, j, h, k, y, hy => by
    simp only [pairs2, Bool.and_eq_true] at h
    cases k with
    | zero => simp at hy; subst hy; exact h.1
    | succ k => have := pairs2_spec l (j + 1) h.2 k y (by simpa using hy); rwa [show j + 1 + k = j + (k + 1) by omega] at this
theorem pairsAll2_spec {ops : Array Oper} {ms : List Nat} : ∀ (l : List Oper) (i : Nat), pairsAll2 ops ms i l = true → ∀ p q x y, p < q → l[p]? = some x → l[q]? = some y → pair2 ops ms (i + p) (i + q) x y = true
  | [], _, _, p, q, x, y, _, hx, _ => by simp at hx
  | z :: l, i, h, p, q, x, y, hpq, hx, hy => by
    simp only [pairsAll2, Bool.and_eq_true] at h
    cases p with
    | zero =>
      simp at hx; subst hx
      obtain ⟨q, rfl⟩ : ∃ r, q = r + 1 := ⟨q - 1, by omega⟩
      have := pairs2_spec l (i + 1) h.1 q y (by simpa using hy)
      rwa [show i + 1 + q = i + (q + 1) by omega] at this
    | succ p =>
      obtain ⟨q, rfl⟩ : ∃ r, q = r + 1 := ⟨q - 1, by omega⟩
      have := pairsAll2_spec l (i + 1) h.2 p q x y (by omega) (by simpa using hx) (by simpa using hy)
      rwa [show i + 1 + p = i + (p + 1) by omega, show i + 1 + q = i + (q + 1) by omega] at this
theorem self2_spec {ops : Array Oper} {n : Nat} : ∀ (l : List Oper), self2 ops n l = true → ∀ (k : Nat) (o : Oper), l[k]? = some o → kd2 o.op ≠ .bad ∧ (kd2 o.op = .mk → ∃ d, o.dst = some d ∧ reads ops o d = false ∧ d < n)
  | [], _, k, o, ho => by simp at ho
  | z :: l, h, k, o, ho => by
    simp only [self2, Bool.and_eq_true] at h
    cases k with
    | zero =>
      simp at ho; subst ho
      obtain ⟨⟨h1, h2⟩, _⟩ := h
      refine ⟨by simpa using h1, fun hm => ?_⟩
      simp only [hm, beq_self_eq_true, Bool.not_true, Bool.false_or] at h2
      cases hd : z.dst with
      | none => simp [hd] at h2
      | some d => simp only [hd, Bool.and_eq_true, Bool.not_eq_true'] at h2; exact ⟨d, rfl, h2.1, by simpa using h2.2⟩
    | succ k => exact self2_spec l h.2 k o (by simpa using ho)
theorem look2 {ops : Array Oper} {n : Nat} (h : lookG ops n = true) : Look2 ops n := by
  simp only [lookG, Bool.and_eq_true] at h
  obtain ⟨⟨⟨h0, h1⟩, h2⟩, h3⟩ := h
  have hms := masks_spec (ops := ops.toList) ops.toList [] (by simp) (by simp)
  refine ⟨fun k o ho => noGuards_spec h0 k o (by simpa using ho), fun k o ho e he hb => ?_, fun k o ho => (self2_spec _ h2 k o (by simpa using ho)).1, fun k o ho hm => ?_, fun i j x y hij hx hy => ?_⟩
  · have := edgesBack_spec _ 0 h1 k o (by simpa using ho) e he hb; omega
  · obtain ⟨d, hd, hr, hl⟩ := (self2_spec _ h2 k o (by simpa using ho)).2 hm
    exact ⟨d, hd, by simpa [reads] using hr, hl⟩
  · have hp := pairsAll2_spec _ 0 h3 i j x y hij (by simpa using hx) (by simpa using hy)
    simp only [Nat.zero_add, pair2, Bool.and_eq_true] at hp
    obtain ⟨⟨⟨⟨p1, p2⟩, p5⟩, p3⟩, p4⟩ := hp
    refine ⟨?_, fun hy' hx' => ?_, fun hx' hy' => ?_, fun hm => ?_, fun hm => ?_⟩
    · rw [Bool.or_eq_true] at p1
      exact p1.imp (hms j i) id
    · simp only [hy', beq_self_eq_true, Bool.not_true, Bool.or_false, Bool.or_eq_true, Bool.not_eq_true', Bool.or_eq_false_iff, beq_eq_false_iff_ne] at p2
      rcases p2 with p2 | p2
      · exact hms j i p2
      · rcases hx' with hx' | hx'
        · exact absurd hx' p2.1
        · exact absurd hx' p2.2
    · simp only [hx', hy', beq_self_eq_true, Bool.not_true, Bool.or_false] at p5
      exact hms j i p5
    · simp only [hm, beq_self_eq_true, Bool.not_true, Bool.false_or] at p3
      cases hd : x.dst with
      | none => simp [hd] at p3
      | some d =>
        simp only [hd, Bool.and_eq_true, Bool.or_eq_true, Bool.not_eq_true'] at p3
        refine ⟨d, rfl, fun hr => ?_, by simpa [dstIs] using p3.2⟩
        rcases p3.1 with q | q
        · exact absurd hr (by simpa [reads] using q)
        · simpa using q
    · simp only [hm, beq_self_eq_true, Bool.not_true, Bool.false_or] at p4
      cases hd : y.dst with
      | none => simp [hd] at p4
      | some d =>
        simp only [hd, Bool.and_eq_true, Bool.not_eq_true'] at p4
        exact ⟨d, rfl, by simpa [reads] using p4.1, by simpa [dstIs] using p4.2⟩

/-! ### Which memory a reader may find -/
def effs2 : Nat → List Oper → List Nat
  | _, [] => []
  | j, o :: os => match kd2 o.op with
    | .eff => j :: effs2 (j + 1) os
    | _ => effs2 (j + 1) os
theorem effs2_spec : ∀ (l : List Oper) (j : Nat) (x : Nat), x ∈ effs2 j l → ∃ o, l[x - j]? = some o ∧ j ≤ x ∧ kd2 o.op = .eff
  | [], j, x, h => by simp [effs2] at h
  | z :: l, j, x, h => by
    have tail : x ∈ effs2 (j + 1) l → ∃ o, (z :: l)[x - j]? = some o ∧ j ≤ x ∧ kd2 o.op = .eff := fun h => by
      obtain ⟨o, h1, h2, h3⟩ := effs2_spec l (j + 1) x h
      refine ⟨o, ?_, by omega, h3⟩
      rw [show x - j = (x - (j + 1)) + 1 by omega, List.getElem?_cons_succ]; exact h1
    unfold effs2 at h
    split at h
    · rename_i hk
      rcases List.mem_cons.1 h with rfl | h
      · exact ⟨z, by simp, Nat.le_refl _, hk⟩
      · exact tail h
    · exact tail h
/-- May operation 'i' find the memory behind all writers ahead of 'k'? -/
def okS (ms : List Nat) (i k : Nat) : List Nat → Bool
  | [] => true
  | j :: l => (match Nat.blt j k with | true => !(ms.getD j 0).testBit i | false => !(ms.getD i 0).testBit j) && okS ms i k l
theorem okS_of {ms : List Nat} {i k : Nat} : ∀ {l : List Nat}, (∀ j ∈ l, (j < k → (ms.getD j 0).testBit i = false) ∧ (k ≤ j → (ms.getD i 0).testBit j = false)) → okS ms i k l = true
  | [], _ => rfl
  | j :: l, h => by
    obtain ⟨h1, h2⟩ := h j (by simp)
    simp only [okS, Bool.and_eq_true]
    refine ⟨?_, okS_of fun x hx => h x (by simp [hx])⟩
    by_cases hjk : j < k
    · rw [show Nat.blt j k = true by simpa using hjk]; simp only [h1 hjk, Bool.not_false]
    · have e : Nat.blt j k = false := by
        rw [Bool.eq_false_iff]; intro h
        have : j < k := by simpa using h
        omega
      rw [e]
      simp only [h2 (by omega), Bool.not_false]
inductive Sh2 where
  | ptr | sl (n c : Nat) | sk (n c : Nat)
def mkV2 : Sh2 → Nat → V
  | .ptr, i => .ptr i 0
  | .sl n _, i => .sl i 0 n
  | .sk n c, i => .sk i 0 n c
def Sh2.ok : Sh2 → Prop
  | .ptr => True
  | .sl n c => n ≤ c
  | .sk n c => n ≤ c
/-- What a call comes to that makes a new row, wherever it is asked. -/
noncomputable def callN (P : Program) (ng : Nat) (op : Op) (t : List V) (mc : List Blk) (K : Sh2 → B → Prop) : Prop :=
  match op with
  | .call c => match c.callee with
    | .value f => match evO ng t f with
      | .clo (.func f) a b => evArgs ng t c.args.toList fun vs => ∃ sh B, (sh.ok ∧ B.nums = true ∧ COk P ng f (appL a (appL vs b)) (shutM mc) (mkV2 sh mc.length) (shutM mc ++ [⟨true, B⟩])) ∧ K sh B
      | _ => False
    | _ => False
  | _ => False
theorem callN_ex {P : Program} {ng : Nat} {op : Op} {t : List V} {mc : List Blk} {K : Sh2 → B → Prop} (h : callN P ng op t mc K) : ∃ sh B, K sh B ∧ sh.ok ∧ B.nums = true ∧ evOp P ng op t (shutM mc) fun u m' => u = mkV2 sh mc.length ∧ m' = shutM mc ++ [⟨true, B⟩] := by
  unfold callN at h
  split at h <;> try exact h.elim
  rename_i c
  obtain ⟨callee, args, ats⟩ := c
  cases callee with
  | value f =>
    simp only at h
    split at h <;> try exact h.elim
    rename_i f' a b he
    rw [evArgs_eq] at h
    obtain ⟨sh, B, ⟨h1, h2, h3⟩, h4⟩ := h
    refine ⟨sh, B, h4, h1, h2, ?_⟩
    simp only [evOp, he]
    rw [evArgs_eq]
    exact ⟨_, _, h3, by rw [fV_eq]; exact ⟨rfl, rfl⟩⟩
  | invoke r n => exact h.elim
  | builtin b => exact h.elim
theorem callN_mono {P : Program} {ng : Nat} {op : Op} {t : List V} {mc : List Blk} {K K' : Sh2 → B → Prop} (hk : ∀ sh b, K sh b → K' sh b) (h : callN P ng op t mc K) : callN P ng op t mc K' := by
  unfold callN at h ⊢
  split at h <;> try exact h.elim
  rename_i c
  obtain ⟨callee, args, ats⟩ := c
  cases callee with
  | value f =>
    simp only at h ⊢
    split at h <;> try exact h.elim
    rename_i f' a b he
    rw [evArgs_eq] at h ⊢
    obtain ⟨sh, B, h1, h4⟩ := h
    exact ⟨sh, B, h1, hk _ _ h4⟩
  | invoke r n => exact h.elim
  | builtin b => exact h.elim
structure Rec2 where
  i : Nat
  op : Op
  t : List V
  v : V
noncomputable def askS (P : Program) (ng : Nat) (ms es : List Nat) (i : Nat) (op : Op) (t : List V) (v : V) (l : List (Nat × List Blk)) : Prop → Prop :=
  List.rec (motive := fun _ => Prop → Prop) (fun K => K) (fun s _ ih K => br (okS ms i s.1 es) (evQ P ng op t s.2 (fun u => u = v) ∧ ih K) (ih K)) l
noncomputable def askF (P : Program) (ng : Nat) (ms es : List Nat) (k : Nat) (m : List Blk) (F : List Rec2) : Prop → Prop :=
  List.rec (motive := fun _ => Prop → Prop) (fun K => K) (fun r _ ih K => br (okS ms r.i k es) (evQ P ng r.op r.t m (fun u => u = r.v) ∧ ih K) (ih K)) F
noncomputable def evG (P : Program) (ng : Nat) (ms es : List Nat) (l : List Oper) : Nat → List Rec2 → List (Nat × List Blk) → List Blk → List V → List Blk → (List V → List Blk → Prop) → Prop :=
  List.rec (motive := fun _ => Nat → List Rec2 → List (Nat × List Blk) → List Blk → List V → List Blk → (List V → List Blk → Prop) → Prop) (fun _ _ _ _ t m K => K t m)
    (fun o _ ih j F Ss mc t m K => match kd2 o.op with
      | .pure => evOp P ng o.op t m fun v _ => putK o.dst t v fun t' => ih (j + 1) F Ss mc t' m K
      | .quiet => evQ P ng o.op t mc fun v => askS P ng ms es j o.op t v Ss (putK o.dst t v fun t' => ih (j + 1) (⟨j, o.op, t, v⟩ :: F) Ss mc t' m K)
      | .mk => match isC o.op with
        | true => callN P ng o.op t mc fun sh b => addB m ⟨true, b⟩ fun i m' => fV (mkV2 sh i) fun v => putK o.dst t v fun t' => ih (j + 1) F Ss mc t' m' K
        | false => evOp P ng o.op t m fun v m' => putK o.dst t v fun t' => ih (j + 1) F Ss mc t' m' K
      | .eff => evOp P ng o.op t m fun v m' => askF P ng ms es (j + 1) m' F (putK o.dst t v fun t' => ih (j + 1) F ((j + 1, m') :: Ss) m' t' m' K)
      | .bad => False) l
theorem evG_cons {P : Program} {ng : Nat} {ms es : List Nat} {o : Oper} {os : List Oper} {j : Nat} {F : List Rec2} {Ss : List (Nat × List Blk)} {mc : List Blk} {t : List V} {m : List Blk} {K : List V → List Blk → Prop} : evG P ng ms es (o :: os) j F Ss mc t m K =
    match kd2 o.op with
      | .pure => evOp P ng o.op t m fun v _ => putK o.dst t v fun t' => evG P ng ms es os (j + 1) F Ss mc t' m K
      | .quiet => evQ P ng o.op t mc fun v => askS P ng ms es j o.op t v Ss (putK o.dst t v fun t' => evG P ng ms es os (j + 1) (⟨j, o.op, t, v⟩ :: F) Ss mc t' m K)
      | .mk => match isC o.op with
        | true => callN P ng o.op t mc fun sh b => addB m ⟨true, b⟩ fun i m' => fV (mkV2 sh i) fun v => putK o.dst t v fun t' => evG P ng ms es os (j + 1) F Ss mc t' m' K
        | false => evOp P ng o.op t m fun v m' => putK o.dst t v fun t' => evG P ng ms es os (j + 1) F Ss mc t' m' K
      | .eff => evOp P ng o.op t m fun v m' => askF P ng ms es (j + 1) m' F (putK o.dst t v fun t' => evG P ng ms es os (j + 1) F ((j + 1, m') :: Ss) m' t' m' K)
      | .bad => False := rfl
section
variable {P : Program} {ng : Nat} {ms es : List Nat}
/-- What a reader gets. -/
def Q1 (P : Program) (ng : Nat) (op : Op) (t : List V) (m : List Blk) (v : V) : Prop := evOp P ng op t m fun a b => a = v ∧ b = m
theorem Q1_of {op : Op} {t : List V} {m : List Blk} {v : V} (h : evQ P ng op t m (fun u => u = v)) : Q1 P ng op t m v := by
  obtain ⟨v', rfl, h2⟩ := evQ_det h
  exact h2
theorem askS_spec {i : Nat} {op : Op} {t : List V} {v : V} {K : Prop} : ∀ {l : List (Nat × List Blk)}, askS P ng ms es i op t v l K → (∀ s ∈ l, okS ms i s.1 es = true → Q1 P ng op t s.2 v) ∧ K
  | [], h => ⟨fun s hs => (by cases hs), h⟩
  | s :: l, h => by
    have h : br (okS ms i s.1 es) (evQ P ng op t s.2 (fun u => u = v) ∧ askS P ng ms es i op t v l K) (askS P ng ms es i op t v l K) := h
    cases hk : okS ms i s.1 es with
    | true =>
      rw [hk] at h
      obtain ⟨h1, h2⟩ := askS_spec h.2
      refine ⟨fun s' hs' hk' => ?_, h2⟩
      rcases List.mem_cons.1 hs' with rfl | hs'
      · exact Q1_of h.1
      · exact h1 s' hs' hk'
    | false =>
      rw [hk] at h
      obtain ⟨h1, h2⟩ := askS_spec h
      refine ⟨fun s' hs' hk' => ?_, h2⟩
      rcases List.mem_cons.1 hs' with rfl | hs'
      · rw [hk] at hk'; cases hk'
      · exact h1 s' hs' hk'
theorem askF_spec {k : Nat} {m : List Blk} {K : Prop} : ∀ {F : List Rec2}, askF P ng ms es k m F K → (∀ r ∈ F, okS ms r.i k es = true → Q1 P ng r.op r.t m r.v) ∧ K
  | [], h => ⟨fun s hs => (by cases hs), h⟩
  | s :: l, h => by
    have h : br (okS ms s.i k es) (evQ P ng s.op s.t m (fun u => u = s.v) ∧ askF P ng ms es k m l K) (askF P ng ms es k m l K) := h
    cases hk : okS ms s.i k es with
    | true =>
      rw [hk] at h
      obtain ⟨h1, h2⟩ := askF_spec h.2
      refine ⟨fun s' hs' hk' => ?_, h2⟩
      rcases List.mem_cons.1 hs' with rfl | hs'
      · exact Q1_of h.1
      · exact h1 s' hs' hk'
    | false =>
      rw [hk] at h
      obtain ⟨h1, h2⟩ := askF_spec h
      refine ⟨fun s' hs' hk' => ?_, h2⟩
      rcases List.mem_cons.1 hs' with rfl | hs'
      · rw [hk] at hk'; cases hk'
      · exact h1 s' hs' hk'
/-- One operation on the way. -/
structure Ent2 (P : Program) (ng : Nat) (o : Oper) (t : List V) (m : List Blk) (v : V) (m' : List Blk) : Prop where
  good : kd2 o.op ≠ .bad
  pure : kd2 o.op = .pure → (∃ mx, evOp P ng o.op t m fun a b => a = v ∧ b = mx) ∧ m' = m
  quiet : kd2 o.op = .quiet → m' = m
  writes : (kd2 o.op = .mk ∧ isC o.op = false) ∨ kd2 o.op = .eff → evOp P ng o.op t m fun a b => a = v ∧ b = m'
/-- What a call that makes a row has made, and what was asked of it. -/
def MadeC (P : Program) (ng : Nat) (op : Op) (t : List V) (m : List Blk) (v : V) (m' mx : List Blk) : Prop :=
  ∃ sh b, v = mkV2 sh m.length ∧ m' = m ++ [⟨true, b⟩] ∧ sh.ok ∧ b.nums = true ∧ evOp P ng op t (shutM mx) fun u m' => u = mkV2 sh mx.length ∧ m' = shutM mx ++ [⟨true, b⟩]
def LastEff (l : List Oper) (M : Nat → List Blk) (mc : List Blk) (k : Nat) (mx : List Blk) : Prop :=
  (mx = mc ∧ ∀ (e : Nat) (oe : Oper), e < k → l[e]? = some oe → kd2 oe.op ≠ .eff) ∨
  ∃ (e : Nat) (oe : Oper), e < k ∧ l[e]? = some oe ∧ kd2 oe.op = .eff ∧ mx = M (e + 1) ∧ ∀ (e' : Nat) (oe' : Oper), e < e' → e' < k → l[e']? = some oe' → kd2 oe'.op ≠ .eff
def WalkG (P : Program) (ng : Nat) (ms es : List Nat) (l : List Oper) (j : Nat) (F : List Rec2) (Ss : List (Nat × List Blk)) (mc : List Blk) (t : List V) (m : List Blk) (K : List V → List Blk → Prop) : Prop :=
  ∃ (T : Nat → List V) (M : Nat → List Blk) (v : Nat → V), T 0 = t ∧ M 0 = m ∧ K (T l.length) (M l.length) ∧
    (∀ (k : Nat) (o : Oper), l[k]? = some o → T (k + 1) = putL o.dst (T k) (v k) ∧ Ent2 P ng o (T k) (M k) (v k) (M (k + 1))) ∧
    (∀ (k : Nat) (o : Oper), l[k]? = some o → kd2 o.op = .quiet → (∀ s ∈ Ss, okS ms (j + k) s.1 es = true → Q1 P ng o.op (T k) s.2 (v k)) ∧
      (∀ (e : Nat) (oe : Oper), l[e]? = some oe → kd2 oe.op = .eff → okS ms (j + k) (j + e + 1) es = true → Q1 P ng o.op (T k) (M (e + 1)) (v k))) ∧
    (∀ r ∈ F, ∀ (e : Nat) (oe : Oper), l[e]? = some oe → kd2 oe.op = .eff → okS ms r.i (j + e + 1) es = true → Q1 P ng r.op r.t (M (e + 1)) r.v) ∧
    (∀ (k : Nat) (o : Oper), l[k]? = some o → kd2 o.op = .mk → isC o.op = true → ∃ mx, MadeC P ng o.op (T k) (M k) (v k) (M (k + 1)) mx ∧ LastEff l M mc k mx)
/-- One step, and the rest. -/
theorem WalkG.cons {o : Oper} {os : List Oper} {j : Nat} {F F' : List Rec2} {Ss Ss' : List (Nat × List Blk)} {mc mc' : List Blk} {t : List V} {m m' : List Blk} {u : V} {K : List V → List Blk → Prop}
    (he : Ent2 P ng o t m u m')
    (hq : kd2 o.op = .quiet → (∀ s ∈ Ss, okS ms j s.1 es = true → Q1 P ng o.op t s.2 u) ∧ ⟨j, o.op, t, u⟩ ∈ F')
    (hF : ∀ r ∈ F, r ∈ F') (hS : ∀ s ∈ Ss, s ∈ Ss')
    (hs : kd2 o.op = .eff → (j + 1, m') ∈ Ss' ∧ ∀ r ∈ F, okS ms r.i (j + 1) es = true → Q1 P ng r.op r.t m' r.v)
    (hmc : (kd2 o.op ≠ .eff ∧ mc' = mc) ∨ (kd2 o.op = .eff ∧ mc' = m')) (hC : kd2 o.op = .mk → isC o.op = true → MadeC P ng o.op t m u m' mc)
    (h : WalkG P ng ms es os (j + 1) F' Ss' mc' (putL o.dst t u) m' K) : WalkG P ng ms es (o :: os) j F Ss mc t m K := by
  obtain ⟨T, M, v, h1, h2, h3, h4, h5, h6, h7⟩ := h
  refine ⟨fun | 0 => t | k + 1 => T k, fun | 0 => m | k + 1 => M k, fun | 0 => u | k + 1 => v k, rfl, rfl, h3, ?_, ?_, ?_, ?_⟩
  · intro k o' ho
    cases k with
    | zero =>
      simp only [List.getElem?_cons_zero, Option.some.injEq] at ho
      subst ho
      simp only [h1, h2]
      exact ⟨trivial, he⟩
    | succ k => exact h4 k o' (by simpa using ho)
  · intro k o' ho hk
    cases k with
    | zero =>
      simp only [List.getElem?_cons_zero, Option.some.injEq] at ho
      subst ho
      obtain ⟨q1, q2⟩ := hq hk
      refine ⟨q1, fun e oe ho' hk' hok => ?_⟩
      cases e with
      | zero =>
        simp only [List.getElem?_cons_zero, Option.some.injEq] at ho'
        subst ho'
        rw [hk] at hk'; cases hk'
      | succ e =>
        have := h6 _ q2 e oe (by simpa using ho') hk' (by rw [show j + 1 + e + 1 = j + (e + 1) + 1 by omega]; exact hok)
        exact this
    | succ k =>
      obtain ⟨q1, q2⟩ := h5 k o' (by simpa using ho) hk
      refine ⟨fun s hs' hok => q1 s (hS s hs') (by rw [show j + 1 + k = j + (k + 1) by omega]; exact hok), fun e oe ho' hk' hok => ?_⟩
      cases e with
      | zero =>
        simp only [List.getElem?_cons_zero, Option.some.injEq] at ho'
        subst ho'
        have := q1 _ (hs hk').1 (by rw [show j + 1 + k = j + (k + 1) by omega]; exact hok)
        simp only [h2]
        exact this
      | succ e => exact q2 e oe (by simpa using ho') hk' (by rw [show j + 1 + k = j + (k + 1) by omega, show j + 1 + e + 1 = j + (e + 1) + 1 by omega]; exact hok)
  · intro r hr e oe ho' hk' hok
    cases e with
    | zero =>
      simp only [List.getElem?_cons_zero, Option.some.injEq] at ho'
      subst ho'
      simp only [h2]
      exact (hs hk').2 r hr hok
    | succ e => exact h6 r (hF r hr) e oe (by simpa using ho') hk' (by rw [show j + 1 + e + 1 = j + (e + 1) + 1 by omega]; exact hok)
  · intro k o' ho hk hc
    cases k with
    | zero =>
      simp only [List.getElem?_cons_zero, Option.some.injEq] at ho
      subst ho
      refine ⟨mc, ?_, .inl ⟨rfl, fun e oe he => absurd he (Nat.not_lt_zero e)⟩⟩
      simp only [h2]
      exact hC hk hc
    | succ k =>
      obtain ⟨mx, q1, q2⟩ := h7 k o' (by simpa using ho) hk hc
      refine ⟨mx, q1, ?_⟩
      rcases q2 with ⟨rfl, q3⟩ | ⟨e, oe, q3, q4, q5, q6, q7⟩
      · rcases hmc with ⟨n1, n2⟩ | ⟨n1, n2⟩
        · refine .inl ⟨n2, fun e oe he hoe => ?_⟩
          cases e with
          | zero =>
            simp only [List.getElem?_cons_zero, Option.some.injEq] at hoe
            subst hoe
            exact n1
          | succ e => exact q3 e oe (by omega) (by simpa using hoe)
        · refine .inr ⟨0, o, by omega, rfl, n1, by rw [n2]; exact h2.symm, fun e' oe' h0 he' hoe' => ?_⟩
          cases e' with
          | zero => omega
          | succ e' => exact q3 e' oe' (by omega) (by simpa using hoe')
      · refine .inr ⟨e + 1, oe, by omega, by simpa using q4, q5, q6, fun e' oe' h0 he' hoe' => ?_⟩
        cases e' with
        | zero => omega
        | succ e' => exact q7 e' oe' (by omega) (by omega) (by simpa using hoe')
theorem evG_walk : ∀ (l : List Oper) (j : Nat) (F : List Rec2) (Ss : List (Nat × List Blk)) (mc : List Blk) (t : List V) (m : List Blk) (K : List V → List Blk → Prop), (∃ s, (s, mc) ∈ Ss) → evG P ng ms es l j F Ss mc t m K → WalkG P ng ms es l j F Ss mc t m K
  | [], j, F, Ss, mc, t, m, K, _, h => ⟨fun _ => t, fun _ => m, fun _ => V.un, rfl, rfl, h, by simp, by simp, by simp, by simp⟩
  | o :: os, j, F, Ss, mc, t, m, K, hmc, h => by
    rw [evG_cons] at h
    cases hk : kd2 o.op with
    | pure =>
      simp only [hk] at h
      obtain ⟨u, mx, h1, h2⟩ := evOp_det h
      rw [putK_L] at h1
      refine .cons (m' := m) (u := u) (F' := F) (Ss' := Ss) (mc' := mc) ⟨(by rw [hk]; simp), fun _ => ⟨⟨mx, h2⟩, rfl⟩, fun _ => rfl, fun h => (by rw [hk] at h; simp at h)⟩ (fun h => (by rw [hk] at h; cases h)) (fun _ h => h) (fun _ h => h) (fun h => (by rw [hk] at h; cases h)) (.inl ⟨by rw [hk]; simp, rfl⟩) (fun h => (by rw [hk] at h; cases h))
        (evG_walk os (j + 1) F Ss mc _ m K hmc h1)
    | quiet =>
      simp only [hk] at h
      obtain ⟨u, h1, h2⟩ := evQ_det h
      obtain ⟨h3, h4⟩ := askS_spec h1
      rw [putK_L] at h4
      refine .cons (m' := m) (u := u) (F' := ⟨j, o.op, t, u⟩ :: F) (Ss' := Ss) (mc' := mc) ⟨(by rw [hk]; simp), fun h => (by rw [hk] at h; cases h), fun _ => rfl, fun h => (by rw [hk] at h; simp at h)⟩ (fun _ => ⟨h3, by simp⟩) (fun _ h => by simp [h]) (fun _ h => h) (fun h => (by rw [hk] at h; cases h)) (.inl ⟨by rw [hk]; simp, rfl⟩) (fun h => (by rw [hk] at h; cases h))
        (evG_walk os (j + 1) _ Ss mc _ m K hmc h4)
    | mk =>
      simp only [hk] at h
      cases hcc : isC o.op with
      | false =>
        simp only [hcc] at h
        obtain ⟨u, m', h1, h2⟩ := evOp_det h
        rw [putK_L] at h1
        refine .cons (m' := m') (u := u) (F' := F) (Ss' := Ss) (mc' := mc) ⟨(by rw [hk]; simp), fun h => (by rw [hk] at h; cases h), fun h => (by rw [hk] at h; cases h), fun _ => h2⟩ (fun h => (by rw [hk] at h; cases h)) (fun _ h => h) (fun _ h => h) (fun h => (by rw [hk] at h; cases h)) (.inl ⟨by rw [hk]; simp, rfl⟩) (fun _ h => (by rw [hcc] at h; cases h))
          (evG_walk os (j + 1) F Ss mc _ m' K hmc h1)
      | true =>
        simp only [hcc] at h
        obtain ⟨sh, b, h1, s1, s2, s3⟩ := callN_ex h
        rw [addB_eq, fV_eq, putK_L] at h1
        refine .cons (m' := m ++ [⟨true, b⟩]) (u := mkV2 sh m.length) (F' := F) (Ss' := Ss) (mc' := mc) ⟨(by rw [hk]; simp), fun h => (by rw [hk] at h; cases h), fun h => (by rw [hk] at h; cases h), fun h => (by
            rcases h with ⟨_, h⟩ | h
            · rw [hcc] at h; cases h
            · rw [hk] at h; cases h)⟩ (fun h => (by rw [hk] at h; cases h)) (fun _ h => h) (fun _ h => h) (fun h => (by rw [hk] at h; cases h)) (.inl ⟨by rw [hk]; simp, rfl⟩) (fun _ _ => ⟨sh, b, rfl, rfl, s1, s2, s3⟩)
          (evG_walk os (j + 1) F Ss mc _ _ K hmc h1)
    | eff =>
      simp only [hk] at h
      obtain ⟨u, m', h1, h2⟩ := evOp_det h
      obtain ⟨h3, h4⟩ := askF_spec h1
      rw [putK_L] at h4
      refine .cons (m' := m') (u := u) (F' := F) (Ss' := (j + 1, m') :: Ss) (mc' := m') ⟨(by rw [hk]; simp), fun h => (by rw [hk] at h; cases h), fun h => (by rw [hk] at h; cases h), fun _ => h2⟩ (fun h => (by rw [hk] at h; cases h)) (fun _ h => h) (fun _ h => by simp [h]) (fun _ => ⟨by simp, h3⟩) (.inr ⟨hk, rfl⟩) (fun h => (by rw [hk] at h; cases h))
        (evG_walk os (j + 1) F _ m' _ m' K ⟨j + 1, by simp⟩ h4)
    | bad => simp only [hk] at h

/-! ### New blocks, whatever memory lies before them -/
def mkX2 : Sh2 → Nat → Value
  | .ptr, p => .pointer (some ⟨p, 0, none⟩)
  | .sl n c, p => .slice (some ⟨p, 0, none⟩) n c
  | .sk n c, p => .slice (some ⟨p, 0, none⟩) n c
theorem Rv_mk2 {n : Nat} {g : Nat → Pl} {sh : Sh2} {i p : Nat} (hi : i < n) (hg : g i = ⟨p, 0, 0, 0⟩) (hs : sh.ok) : Rv n g (mkV2 sh i) (mkX2 sh p) := by
  cases sh with
  | ptr => simp [mkV2, mkX2, Rv, hg, hi]
  | sl k c => unfold mkV2 mkX2; unfold Rv; rw [hg]; exact ⟨hi, rfl, _, _, rfl, hs, fun _ => rfl⟩
  | sk k c => unfold mkV2 mkX2; unfold Rv; rw [hg]; exact ⟨hi, rfl, _, rfl, hs, fun _ => rfl⟩
/-- The cells of a new block. -/
def CellsAre (n : Nat) (g : Nat → Pl) (b : B) (c : Array Value) : Prop := ∀ (j : Nat) (v : V), b.get j = some v → ∃ x, c[j]? = some x ∧ Rv n g v x
/-- What an operation makes. -/
structure Makes (P : Program) (ng : Nat) (op : Op) (t : List V) (v : V) (m m' : List Blk) (sh : Sh2) (b : B) : Prop where
  val : v = mkV2 sh m.length
  mem : m' = m ++ [⟨true, b⟩]
  ok : sh.ok
  plain : b.plain = true
  run : ∀ {g : Nat → Pl} {t1 : List V} {m1 : List Blk} {a : Act} {w : World} (o : Oper), o.op = op → Sim ng g t1 m1 a w → (∀ x ∈ op.operands, evO ng t x = evO ng t1 x) →
        ∃ c e, (execOp a.eval o).run P w = .ok (.value (mkX2 sh w.heap.size)) { w with heap := w.heap.push (.cells c e) } ∧ CellsAre m1.length g b c
theorem kd2_mk {op : Op} (h : kd2 op = .mk) (hcc : isC op = false) : kd op = .mk ∨ ∃ ty l c, op = .makeSlice ty l c := by
  cases op <;> try (first | exact .inl rfl | (simp [kd2] at h; done))
  case makeSlice ty l c => exact .inr ⟨_, _, _, rfl⟩
  case call c =>
    obtain ⟨callee, args, ats⟩ := c
    cases callee with
    | value f =>
      simp only [isC] at hcc
      simp [kd2, hcc] at h
    | invoke r n => simp [kd2] at h
    | builtin b => cases b <;> simp [kd2] at h
theorem zrow_plain {e : TypeId} {n : Nat} {K : B → Prop} (h : zrow P e n K) : ∃ b, K b ∧ b.plain = true := by
  unfold zrow at h
  split at h
  · split at h
    · exact ⟨_, h, rfl⟩
    · exact ⟨_, h, rfl⟩
    · exact ⟨_, h, rfl⟩
    · exact h.elim
  · exact h.elim
def sh2of : Sh → Sh2
  | .ptr => .ptr
  | .sl n => if n = 0 then .sk 0 0 else .sl n n
theorem mkV2_of (sh : Sh) (i : Nat) : mkV2 (sh2of sh) i = mkV sh i := by
  cases sh with
  | ptr => rfl
  | sl n =>
    show mkV2 (if n = 0 then .sk 0 0 else .sl n n) i = bsV i n
    by_cases hn : n = 0
    · subst hn; rfl
    · rw [if_neg hn, bsV_pos hn]; rfl
theorem mkX2_of (sh : Sh) (i : Nat) : mkX2 (sh2of sh) i = mkX sh i := by
  cases sh with
  | ptr => rfl
  | sl n =>
    show mkX2 (if n = 0 then .sk 0 0 else .sl n n) i = _
    by_cases hn : n = 0
    · subst hn; rfl
    · rw [if_neg hn]; rfl
theorem sh2of_ok (sh : Sh) : (sh2of sh).ok := by
  cases sh with
  | ptr => trivial
  | sl n =>
    show Sh2.ok (if n = 0 then .sk 0 0 else .sl n n)
    by_cases hn : n = 0
    · rw [if_pos hn]; exact Nat.le_refl _
    · rw [if_neg hn]; exact Nat.le_refl _
theorem mk_spec2 {op : Op} (hk : kd2 op = .mk) (hcc : isC op = false) {t : List V} {m : List Blk} {v : V} {m' : List Blk} (h : evOp P ng op t m fun a b => a = v ∧ b = m') : ∃ sh b, Makes P ng op t v m m' sh b := by
  rcases kd2_mk hk hcc with hk | ⟨ty, lo, co, rfl⟩
  · obtain ⟨sh, cs, h1, h2, h3⟩ := mk_spec hk h
    refine ⟨sh2of sh, .cells cs, by rw [mkV2_of]; exact h1, h2, sh2of_ok sh, rfl, fun {g t1 m1 a w} o ho S hx => ?_⟩
    obtain ⟨c, e, q1, q2⟩ := h3 o ho S hx
    exact ⟨c, e, by rw [mkX2_of]; exact q1, cells_get q2⟩
  · simp only [evOp] at h
    cases hu : P.underlying ty with
    | none => simp [hu, sliceD] at h
    | some d =>
      cases d <;> simp only [hu, sliceD] at h <;> try exact h.elim
      rename_i e
      split at h
      · rename_i e' k1 lv k2 cv he hl hc
        cases he
        obtain ⟨h1, h2⟩ := br_F h
        simp only [decide_eq_true_eq] at h1
        obtain ⟨h3, h4⟩ := br_F h2
        have h3 : 0 < P.cellsOf e := by simpa using h3
        obtain ⟨b, q2, hz⟩ := (lin_zrow P e _).det _ h4
        rw [addB_eq] at q2
        have hpl : b.plain = true := by
          obtain ⟨b', r1, r2⟩ := zrow_plain hz
          rw [← r1]; exact r2
        obtain ⟨inf, hinf⟩ := info_of_pos h3
        obtain ⟨wl, wc⟩ := wrap_small ⟨h1.1, h1.2.1, h1.2.2.1⟩
        have hby : inf.bytes = P.bytesOf e := by simp [Program.bytesOf, hinf]
        have hsh : ∃ sh : Sh2, v = mkV2 sh m.length ∧ m' = m ++ [⟨true, b⟩] ∧ sh.ok ∧ ∀ p, mkX2 sh p = .slice (some ⟨p, 0, none⟩) lv.toNat cv.toNat := by
          unfold pickSl at q2
          split at q2
          · rcases q2 with ⟨r1, r2⟩ | ⟨r1, r2⟩
            · exact ⟨.sl lv.toNat cv.toNat, r1.symm, r2.symm, by show lv.toNat ≤ cv.toNat; omega, fun _ => rfl⟩
            · exact ⟨.sk lv.toNat cv.toNat, r1.symm, r2.symm, by show lv.toNat ≤ cv.toNat; omega, fun _ => rfl⟩
          · exact ⟨.sk lv.toNat cv.toNat, q2.1.symm, q2.2.symm, by show lv.toNat ≤ cv.toNat; omega, fun _ => rfl⟩
        obtain ⟨sh, s1, s2, s3, s4⟩ := hsh
        refine ⟨sh, b, s1, s2, s3, hpl, fun {g t1 m1 a w} o ho S hx => ?_⟩
        have hlv := eval_of S ((hx lo (by simp [Op.operands])).symm.trans hl)
        have hcv := eval_of S ((hx co (by simp [Op.operands])).symm.trans hc)
        simp only [Rv] at hlv hcv
        obtain ⟨b', z, q1, rfl, qp, q3⟩ := zrow_sound (n := m1.length) (g := g) hz w
        by_cases hn : cv.toNat * P.cellsOf e = 0
        · refine ⟨#[], e, ?_, ?_⟩
          · rw [s4]
            simp only [execOp, ho, hlv, hcv, Instr.makeSlice, asInt, asIntOf, Sem.run_bind, run_underlying' w hu, Result.andThen_ok, Sem.run_pure, typeInfo, run_program, hinf, wl, wc, Sem.run_ite, hby]
            rw [if_neg (by
              simp only [Bool.or_eq_true, decide_eq_true_eq, not_or]
              omega)]
            simp only [run_askRoom, Result.andThen_ok, run_sizeOf w hinf]
            rw [if_pos hn]
            simp only [Sem.run_pure, Result.andThen_ok, newRow, Sem.run_bind, run_newObj, hn]
            rw [show ∀ f : Nat → Value, (Array.range 0).map f = #[] from fun f => Array.eq_empty_of_size_eq_zero (by simp)]
          · intro j v hv
            obtain ⟨x, hx, _⟩ := q3 j v hv
            rw [hn] at hx
            rw [show ∀ f : Nat → Value, (Array.range 0).map f = #[] from fun f => Array.eq_empty_of_size_eq_zero (by simp)] at hx
            simp at hx
        · refine ⟨_, e, ?_, q3⟩
          rw [s4]
          simp only [execOp, ho, hlv, hcv, Instr.makeSlice, asInt, asIntOf, Sem.run_bind, run_underlying' w hu, Result.andThen_ok, Sem.run_pure, typeInfo, run_program, hinf, wl, wc, Sem.run_ite, hby]
          rw [if_neg (by
            simp only [Bool.or_eq_true, decide_eq_true_eq, not_or]
            omega)]
          simp only [run_askRoom, Result.andThen_ok, run_sizeOf w hinf]
          rw [if_neg hn]
          simp only [Sem.run_bind, q1, Sem.run_pure, Result.andThen_ok, newRow, run_newObj]
      · exact h.elim
/-! ### What a writer does to memory -/
def Shape (m m' : List Blk) : Prop := m' = m ∨ (∃ i b, m' = m.set i ⟨true, b⟩) ∨ ∃ b, m' = m ++ [⟨true, b⟩]
theorem storeV_shape {ty : TypeId} {a v : V} {m m' : List Blk} (h : storeV P ty a v m fun b => b = m') : Shape m m' := by
  unfold storeV at h
  split at h
  · split at h
    · obtain ⟨b, h1, _⟩ := (lin_wrN _ _ _).det _ h
      rw [setB_eq] at h1
      exact .inr (.inl ⟨_, b, h1.symm⟩)
    · exact h.elim
  · obtain ⟨_, h⟩ := h
    split at h
    · obtain ⟨b, h1, _⟩ := (lin_wrN _ _ _).det _ h
      rw [setB_eq] at h1
      exact .inr (.inl ⟨_, b, h1.symm⟩)
    · exact h.elim
  · exact h.elim
theorem srcV_ex {es : Nat} {x : V} {m : List Blk} {K : Nat → B → Prop} (h : srcV es x m K) : ∃ n b, K n b := by
  obtain ⟨p, h1, _⟩ := (lin_srcV es x m).det (fun p => K p.1 p.2) h
  exact ⟨p.1, p.2, h1⟩
theorem growNew_ex {z : Zero} {b : B} {K : B → Prop} (h : growNew z b K) : ∃ b, K b := by
  obtain ⟨p, h1, _⟩ := (lin_growNew z b).det K h
  exact ⟨p, h1⟩
theorem growB_ex {z : B} {b : B} {K : B → Prop} (h : growB z b K) : ∃ b, K b := by
  obtain ⟨p, h1, _⟩ := (lin_growB z b).det K h
  exact ⟨p, h1⟩
theorem pasteB_ex {z : B} {n : Nat} {b : B} {K : B → Prop} (h : pasteB z n b K) : ∃ b, K b := by
  obtain ⟨p, h1, _⟩ := (lin_pasteB z n b).det K h
  exact ⟨p, h1⟩
theorem segB_ex {z : B} {n k : Nat} {K : B → Prop} (h : segB z n k K) : ∃ b, K b := by
  obtain ⟨p, h1, _⟩ := (lin_segB z n k).det K h
  exact ⟨p, h1⟩
theorem catB_ex {z : B} {b : B} {K : B → Prop} (h : catB z b K) : ∃ b, K b := by
  obtain ⟨p, h1, _⟩ := (lin_catB z b).det K h
  exact ⟨p, h1⟩
theorem appendV_shape {ty : TypeId} {s x : V} {m m' : List Blk} {v : V} (h : appendV P ty s x m fun a b => a = v ∧ b = m') : Shape m m' := by
  unfold appendV at h
  split at h
  · split at h
    · obtain ⟨_, h⟩ := br_F h
      obtain ⟨n, c, h⟩ := srcV_ex h
      split at h
      · obtain ⟨b, h⟩ := growNew_ex h.2
        rw [addB_eq] at h
        exact .inr (.inr ⟨b, h.2.symm⟩)
      · have h := h.2
        split at h
        · obtain ⟨b, h⟩ := growB_ex h
          rw [setB_eq] at h
          exact .inr (.inl ⟨_, b, h.2.symm⟩)
        · exact h.elim
      · have h := h.2
        rw [br_iff] at h
        rcases h with ⟨_, h⟩ | ⟨_, h⟩
        · split at h
          · obtain ⟨b, h⟩ := pasteB_ex h
            rw [setB_eq] at h
            exact .inr (.inl ⟨_, b, h.2.symm⟩)
          · exact h.elim
        · obtain ⟨d, h⟩ := segB_ex h
          obtain ⟨d, h⟩ := catB_ex h
          obtain ⟨d, h⟩ := growNew_ex h
          rw [addB_eq] at h
          exact .inr (.inr ⟨_, h.2.symm⟩)
      · exact h.elim
    · exact h.elim
  · exact h.elim
theorem eff_shape {op : Op} (hk : kd2 op = .eff) {t : List V} {m m' : List Blk} {v : V} (h : evOp P ng op t m fun a b => a = v ∧ b = m') : Shape m m' := by
  cases op <;> try (simp [kd2] at hk; done)
  case build ty ps =>
    have := pure_any (P := P) (ng := ng) (op := .build ty ps) rfl t m [] fun a b => a = v ∧ b = m'
    rw [this] at h
    obtain ⟨_, _, ⟨_, h3⟩, _⟩ := evOp_det h
    exact .inl h3.symm
  case store ty x y =>
    simp only [evOp, fV_eq] at h
    exact storeV_shape ((lin_storeV P ty _ _ m).mono _ _ (fun b hb => hb.2) h)
  case call c =>
    obtain ⟨callee, args, ats⟩ := c
    cases callee with
    | value f =>
      simp only [kd2] at hk
      split at hk <;> cases hk
    | invoke r n => simp [kd2] at hk
    | builtin b =>
      cases b <;> try (simp [kd2] at hk; done)
      simp only [evOp] at h
      split at h
      · split at h
        · exact appendV_shape h
        · exact h.elim
      · exact h.elim
end
end Go.Eng
/- The engine, part 27: regions that draw their order and make new rows: the states on the way, and the theorem. No condition. -/
namespace Go.Eng
open Go
set_option linter.unusedSimpArgs false
set_option linter.unusedVariables false

def Stage (ops : Array Oper) (s : Nat) : Prop := s = 0 ∨ ∃ o, 0 < s ∧ ops[s - 1]? = some o ∧ kd2 o.op = .eff
def OkP (ops : Array Oper) (i s : Nat) : Prop := ∀ j o, ops[j]? = some o → kd2 o.op = .eff → (j < s → ¬ Pre ops.toList i j) ∧ (s ≤ j → ¬ Pre ops.toList j i)
structure Ctx2 (P : Program) (ng : Nat) (ops : Array Oper) (m0 : List Blk) (t0 : List V) (T : Nat → List V) (M : Nat → List Blk) (v : Nat → V) : Prop where
  L : Look2 ops t0.length
  T0 : T 0 = t0
  M0 : M 0 = m0
  step : ∀ (k : Nat) (o : Oper), ops.toList[k]? = some o → T (k + 1) = putL o.dst (T k) (v k)
  ent : ∀ (k : Nat) (o : Oper), ops[k]? = some o → Ent2 P ng o (T k) (M k) (v k) (M (k + 1))
  read : ∀ (k : Nat) (o : Oper), ops[k]? = some o → kd2 o.op = .quiet → ∀ s, Stage ops s → OkP ops k s → Q1 P ng o.op (T k) (M s) (v k)
  mkc : ∀ (k : Nat) (o : Oper), ops[k]? = some o → kd2 o.op = .mk → isC o.op = true → ∃ mx, MadeC P ng o.op (T k) (M k) (v k) (M (k + 1)) mx ∧ ∀ s, Stage ops s → OkP ops k s → M s = mx
section
variable {P : Program} {ng : Nat} {ops : Array Oper} {n : Nat} (L : Look2 ops n) {D : Nat → Prop} (hc : Closed ops D) {i : Nat} {o : Oper} (hi : ops[i]? = some o) (hn : ¬ D i) (hr : ∀ e ∈ o.after, Region.binds .any e = true → D e.on)
include L hc hi hn hr
theorem reads_text2 {x : Nat} (hx : x ∈ o.looksAt ops) : ∀ j o', ops[j]? = some o' → o'.dst = some x → (D j ↔ j < i) := by
  intro j o' hj hd
  rcases Nat.lt_trichotomy j i with h | h | h
  · refine ⟨fun _ => h, fun _ => ?_⟩
    rcases (L.pair j i o' o h hj hi).1 with hp | hap
    · exact pre_ready hc hi hr hp
    · exact absurd hx ((apart_no hap).1 hd).1
  · subst h; exact ⟨fun h => absurd h hn, fun h => absurd h (by omega)⟩
  · refine ⟨fun hDj => ?_, fun h' => by omega⟩
    rcases (L.pair i j o o' h hi hj).1 with hp | hap
    · exact absurd (hc _ _ hp hDj) hn
    · exact absurd hx ((apart_no hap).2 hd).1
omit hr in
theorem writes_last2 {x : Nat} (hx : o.dst = some x) : ∀ k o', ops[k]? = some o' → D k → o'.dst = some x → k ≤ i := by
  intro k o' hk hDk hd
  rcases Nat.lt_or_ge i k with h | h
  · rcases (L.pair i k o o' h hi hk).1 with hp | hap
    · exact absurd (hc _ _ hp hDk) hn
    · exact absurd hd ((apart_no hap).1 hx).2
  · exact h
end

/-- A new block that is not taken in yet, at stage 'k'. -/
def Gh (ops : Array Oper) (k j x : Nat) : Prop := ∃ o, ops[j]? = some o ∧ k ≤ j ∧ kd2 o.op = .mk ∧ o.dst = some x
def GhostAt2 (M : Nat → List Blk) (v : Nat → V) (k : Nat) (g : Nat → Pl) (a : Act) (w : World) (j x p : Nat) : Prop :=
  ∀ sh b, v j = mkV2 sh (M j).length → M (j + 1) = M j ++ [⟨true, b⟩] →
    ∃ pl : Pl, pl.1 = p ∧ RepB (M k).length g w pl ⟨true, b⟩ ∧ ∀ i N G, i < N → G i = pl → Rv N G (mkV2 sh i) (a.tmps.getD x undef)
theorem mkV2_inj {sh sh' : Sh2} {n : Nat} (h : mkV2 sh n = mkV2 sh' n) : ∀ i, mkV2 sh i = mkV2 sh' i := by
  intro i
  cases sh <;> cases sh' <;> simp_all [mkV2]
structure St2 (ng : Nat) (ops : Array Oper) (m0 : List Blk) (t0 : List V) (M : Nat → List Blk) (v : Nat → V) (g0 : Nat → Pl) (w0 : World)
    (k : Nat) (D : Nat → Prop) (g : Nat → Pl) (t : List V) (pf : Nat → Nat) (a : Act) (w : World) : Prop where
  sim : Sim ng g t (M k) a w
  step : Step g0 m0 w0 g (M k) w
  len : t.length = t0.length
  wr : ∀ x, x < t0.length → (∀ j, ¬ Gh ops k j x) → Wr ops v t0 D x (getT t x)
  ghost : ∀ j x, D j → Gh ops k j x → GhostAt2 M v k g a w j x (pf j) ∧ pf j < w.heap.size ∧ w0.heap.size ≤ pf j ∧ ∀ i, i < (M k).length → (g i).1 ≠ pf j
  apart : ∀ j l x y, D j → D l → Gh ops k j x → Gh ops k l y → j ≠ l → pf j ≠ pf l
def Inv2 (ng : Nat) (ops : Array Oper) (m0 : List Blk) (t0 : List V) (M : Nat → List Blk) (v : Nat → V) (g0 : Nat → Pl) (w0 : World) (D : Nat → Prop) (a : Act) (w : World) : Prop :=
  ∃ k, Stage ops k ∧ k ≤ ops.size ∧ (∀ j o, ops[j]? = some o → kd2 o.op = .eff → (D j ↔ j < k)) ∧ (∀ j o, ops[j]? = some o → kd2 o.op = .mk → j < k → D j) ∧ ∃ g t pf, St2 ng ops m0 t0 M v g0 w0 k D g t pf a w
theorem mkV2_Rv {sh : Sh2} {L n : Nat} {g : Nat → Pl} {x : Value} (h : Rv n g (mkV2 sh L) x) {pl : Pl} (hp : g L = pl) : ∀ i N G, i < N → G i = pl → Rv N G (mkV2 sh i) x := by
  intro i N G hi hG
  subst hp
  cases sh with
  | ptr => simp only [mkV2, Rv] at *; rw [hG]; exact ⟨hi, h.2⟩
  | sl n c => simp only [mkV2, Rv] at *; rw [hG]; exact ⟨hi, h.2⟩
  | sk n c => simp only [mkV2, Rv] at *; rw [hG]; exact ⟨hi, h.2⟩
/-- A block that lies there is taken in. -/
theorem adopt2 {ng : Nat} {g : Nat → Pl} {t : List V} {m : List Blk} {a : Act} {w : World} (S : Sim ng g t m a w) {x : Nat} {sh : Sh2} {b : B} {pl : Pl} (hR : RepB m.length g w pl ⟨true, b⟩)
    (hf : ∀ i, i < m.length → (g i).1 ≠ pl.1) (hx : ∀ i N G, i < N → G i = pl → Rv N G (mkV2 sh i) (a.tmps.getD x undef)) :
    Sim ng (newAtP g m.length pl) (t.set x (mkV2 sh m.length)) (m ++ [⟨true, b⟩]) a w := by
  have hag : ∀ i, i < m.length → newAtP g m.length pl i = g i := fun i hi => by exact newAtP_old g m.length _ i hi
  have hnew : newAtP g m.length pl m.length = pl := by simp [newAtP]
  have hlen : (m ++ [(⟨true, b⟩ : Blk)]).length = m.length + 1 := by simp
  have hget : ∀ (i : Nat) (d : Blk), (m ++ [(⟨true, b⟩ : Blk)])[i]? = some d → (i < m.length ∧ m[i]? = some d) ∨ (i = m.length ∧ d = ⟨true, b⟩) := fun i d hd => snoc_get hd
  refine ⟨S.defers, ?_, ⟨fun i d hd => ?_, fun i j y z hij hy hz hw hl hl' => ?_⟩, ⟨by have := S.glob.1; omega, fun i hi => by rw [hag i (by have := S.glob.1; omega)]; exact S.glob.2 i hi⟩⟩
  · rw [hlen]
    have h1 := Rvs_mono (n' := m.length + 1) (by omega) hag _ S.tmps
    have h2 := Rvs_set h1 x (v := mkV2 sh m.length) (x := a.tmps.getD x undef) (hx _ _ _ (by omega) hnew)
    have he : a.tmps.toList.set x (a.tmps.getD x undef) = a.tmps.toList := by
      apply List.ext_getElem?
      intro i
      rw [List.getElem?_set]
      by_cases hi : x = i
      · subst hi
        rcases Nat.lt_or_ge x a.tmps.size with hlt | hlt
        · rw [if_pos rfl, if_pos (by simpa using hlt)]
          simp [hlt]
        · rw [if_pos rfl, if_neg (by simpa using hlt)]
          simp [hlt]
      · rw [if_neg hi]
    rwa [he] at h2
  · rcases hget i d hd with ⟨hi, hd⟩ | ⟨rfl, rfl⟩
    · have R := S.rep.blk i d hd
      rw [hag i hi, hlen]
      exact R.congr rfl (by omega) fun i hi => .inl (hag i hi)
    · rw [hnew, hlen]
      exact hR.congr rfl (by omega) fun i hi => .inl (hag i hi)
  · rcases hget i y hy with ⟨hi, hy⟩ | ⟨rfl, rfl⟩
    · rcases hget j z hz with ⟨hj, hz⟩ | ⟨rfl, rfl⟩
      · rw [hag i hi, hag j hj]; exact S.rep.apart i j y z hij hy hz hw hl hl'
      · rw [hag i hi, hnew]; exact hf i hi
    · rcases hget j z hz with ⟨hj, hz⟩ | ⟨rfl, rfl⟩
      · rw [hag j hj, hnew]; exact (hf j hj).symm
      · exact absurd rfl hij
/-- A row that was just made, as a ghost. -/
theorem ghost_push {n : Nat} {g : Nat → Pl} {w : World} {b : B} {c : Array Value} {e : TypeId} (hpl : b.plain = true) (hc : CellsAre n g b c) : RepB n g { w with heap := w.heap.push (.cells c e) } ⟨w.heap.size, 0, 0, 0⟩ ⟨true, b⟩ := by
  have hp : (w.heap.push (Obj.cells c e))[w.heap.size]? = some (.cells c e) := by simp
  refine ⟨by simp, fun j u hu => ?_, fun _ _ j => ?_, (fun _ j hj => absurd hj (Nat.not_lt_zero j)), (fun f hf => ?_), ?_⟩
  · obtain ⟨y, hy, hr⟩ := hc j u hu
    refine ⟨y, ?_, hr⟩
    unfold World.cell?
    simp only [hp, Nat.zero_add]
    simpa using hy
  · unfold World.frozen?
    simp only [hp]
    simp
  · have hf : b = .mpI f := hf
    rw [hf] at hpl; cases hpl
  · cases b <;> first | rfl | (cases hpl)
section
variable {P : Program} {ng : Nat} {ops : Array Oper} {m0 : List Blk} {t0 : List V} {T : Nat → List V} {M : Nat → List Blk} {v : Nat → V} {g0 : Nat → Pl} {w0 : World}
section
variable (C : Ctx2 P ng ops m0 t0 T M v)
include C
/-- A new block's slot is nobody else's. -/
theorem gh_slot {k j x i : Nat} {o : Oper} (hi : ops[i]? = some o) (hm : Gh ops k j x) (hne : i ≠ j) : o.dst ≠ some x := by
  obtain ⟨o', hj, _, hk, hd⟩ := hm
  rcases Nat.lt_or_ge i j with h1 | h1
  · obtain ⟨d, e1, _, e3⟩ := (C.L.pair i j o o' h1 hi hj).2.2.2.2 hk
    rw [hd] at e1; cases e1; exact e3
  · obtain ⟨d, e1, _, e3⟩ := (C.L.pair j i o' o (by omega) hj hi).2.2.2.1 hk
    rw [hd] at e1; cases e1; exact e3
/-- Who looks at a new block's slot is a writer behind it. -/
theorem no_gh {k i : Nat} {o : Oper} (hi : ops[i]? = some o) (h : kd2 o.op ≠ .eff ∨ i ≤ k) {x : Nat} (hx : x ∈ o.looksAt ops) (j : Nat) : ¬ Gh ops k j x := by
  rintro ⟨o', hj, hkj, hk, hd⟩
  rcases Nat.lt_trichotomy j i with h1 | h1 | h1
  · obtain ⟨d, e1, e2, _⟩ := (C.L.pair j i o' o h1 hj hi).2.2.2.1 hk
    rw [hd] at e1; cases e1
    rcases h with h | h
    · exact h (e2 hx)
    · omega
  · subst h1
    rw [hi] at hj; cases hj
    obtain ⟨d, e1, e2, _⟩ := C.L.self j o hi hk
    rw [hd] at e1; cases e1
    exact e2 hx
  · obtain ⟨d, e1, e2, _⟩ := (C.L.pair i j o o' h1 hi hj).2.2.2.2 hk
    rw [hd] at e1; cases e1
    exact e2 hx
theorem text_wr2 (k : Nat) (hk : k ≤ ops.size) : (T k).length = t0.length ∧ ∀ x, x < t0.length → Wr ops v t0 (fun j => j < k) x (getT (T k) x) := Wr.text C.T0 C.step k hk
theorem same_reads2 {D : Nat → Prop} (hc : Closed ops D) {i : Nat} {o : Oper} (hi : ops[i]? = some o) (hn : ¬ D i) (hr : ∀ e ∈ o.after, Region.binds .any e = true → D e.on)
    {t : List V} (hl : t.length = t0.length) (hw : ∀ x, x < t0.length → x ∈ o.looksAt ops → Wr ops v t0 D x (getT t x)) : ∀ x, x ∈ o.looksAt ops → getT t x = getT (T i) x := by
  intro x hx
  have hlt : i < ops.size := (Array.getElem?_eq_some_iff.1 hi).1
  obtain ⟨h1, h2⟩ := text_wr2 C i (by omega)
  rcases Nat.lt_or_ge x t0.length with h | h
  · exact (hw x h hx).unique ((h2 x h).congr fun j o' hj hd => (reads_text2 C.L hc hi hn hr hx j o' hj hd).symm)
  · rw [getT_eq, getT_eq, List.getD_eq_getElem?_getD, List.getD_eq_getElem?_getD, List.getElem?_eq_none (by omega), List.getElem?_eq_none (by omega)]
/-- One operation further in the text, where it writes nothing, or has made its block. -/
theorem adopt_one {D : Nat → Prop} {p : Nat} {g : Nat → Pl} {t : List V} {pf : Nat → Nat} {a : Act} {w : World} {o : Oper} (ho : ops[p]? = some o) (he : kd2 o.op ≠ .eff) (hd : kd2 o.op = .mk → D p)
    (A : St2 ng ops m0 t0 M v g0 w0 p D g t pf a w) : ∃ g' t', St2 ng ops m0 t0 M v g0 w0 (p + 1) D g' t' pf a w := by
  have E := C.ent p o ho
  by_cases hk : kd2 o.op = .mk
  · obtain ⟨sh, b, hval, hmem⟩ : ∃ sh b, v p = mkV2 sh (M p).length ∧ M (p + 1) = M p ++ [⟨true, b⟩] := by
      cases hcc : isC o.op with
      | false =>
        obtain ⟨sh, b, hM⟩ := mk_spec2 hk hcc (E.writes (.inl ⟨hk, hcc⟩))
        exact ⟨sh, b, hM.val, hM.mem⟩
      | true =>
        obtain ⟨mx, ⟨sh, b, q1, q2, _⟩, _⟩ := C.mkc p o ho hk hcc
        exact ⟨sh, b, q1, q2⟩
    obtain ⟨x, hx, _, hxl⟩ := C.L.self p o ho hk
    have hg : Gh ops p p x := ⟨o, ho, Nat.le_refl _, hk, hx⟩
    obtain ⟨h1, h2, h3, h4⟩ := A.ghost p x (hd hk) hg
    obtain ⟨pl, hpl, q1, q2⟩ := h1 sh b hval hmem
    have S := adopt2 A.sim q1 (by rw [hpl]; exact h4) q2
    have hml := A.step.len
    have hlen : (M (p + 1)).length = (M p).length + 1 := by rw [hmem]; simp
    have old : ∀ i, i < (M p).length → newAtP g (M p).length pl i = g i := fun i hi => by exact newAtP_old g _ _ i hi
    refine ⟨newAtP g (M p).length pl, t.set x (mkV2 sh (M p).length), by rw [hmem]; exact S, ⟨by omega, fun i hi => ?_, A.step.os, A.step.tape, A.step.output, A.step.size, A.step.same, fun q hq hF => ?_⟩, by rw [List.length_set]; exact A.len, fun y hy hng => ?_, fun j y hj hgj => ?_, fun j l y z hj hl hgj hgl hne => ?_⟩
    · have := A.step.agree i hi
      rw [old i (by omega), hmem, getB_snoc (by omega)]
      exact this
    · obtain ⟨i, d, hd', hw, he'⟩ := hF
      rw [hmem] at hd'
      rcases snoc_get hd' with ⟨hi, hd'⟩ | ⟨rfl, rfl⟩
      · rw [old i hi] at he'
        exact A.step.foot q hq ⟨i, d, hd', hw, he'⟩
      · simp only [newAtP, if_true] at he'
        omega
    · rw [getT_set]
      by_cases hxy : x = y
      · subst hxy
        rw [if_pos ⟨rfl, by rw [A.len]; exact hy⟩, ← hval]
        refine .inl ⟨p, o, ho, hd hk, hx, rfl, fun k' o' hk' _ hd' => ?_⟩
        rcases Nat.lt_or_ge p k' with hlt | hge
        · exact absurd hd' (gh_slot C hk' hg (by omega))
        · exact hge
      · rw [if_neg (fun h => hxy h.1)]
        refine A.wr y hy fun j hgj => ?_
        obtain ⟨o', k1, k2, k3, k4⟩ := hgj
        by_cases hjp : j = p
        · subst hjp
          rw [ho] at k1; cases k1
          rw [hx] at k4; cases k4
          exact hxy rfl
        · exact hng j ⟨o', k1, by omega, k3, k4⟩
    · obtain ⟨o', k1, k2, k3, k4⟩ := id hgj
      have hgp : Gh ops p j y := ⟨o', k1, by omega, k3, k4⟩
      obtain ⟨r1, r2, r3, r4⟩ := A.ghost j y hj hgp
      refine ⟨fun sh' b' e1 e2 => ?_, r2, r3, fun i hi => ?_⟩
      · obtain ⟨pl', s1, s2, s3⟩ := r1 sh' b' e1 e2
        exact ⟨pl', s1, s2.congr rfl (by omega) (fun i hi => .inl (old i hi)), s3⟩
      · rw [hlen] at hi
        rcases Nat.lt_or_ge i (M p).length with h | h
        · rw [old i h]; exact r4 i h
        · obtain rfl : i = (M p).length := by omega
          simp only [newAtP, if_true]
          rw [hpl]
          exact A.apart p j x y (hd hk) hj hg hgp (by omega)
    · obtain ⟨o', k1, k2, k3, k4⟩ := hgj
      obtain ⟨o'', l1, l2, l3, l4⟩ := hgl
      exact A.apart j l y z hj hl ⟨o', k1, by omega, k3, k4⟩ ⟨o'', l1, by omega, l3, l4⟩ hne
  · have hmem : M (p + 1) = M p := by
      cases hkk : kd2 o.op with
      | pure => exact (E.pure hkk).2
      | quiet => exact E.quiet hkk
      | mk => exact absurd hkk hk
      | eff => exact absurd hkk he
      | bad => exact absurd hkk E.good
    have up : ∀ j x, Gh ops (p + 1) j x ↔ Gh ops p j x := fun j x => ⟨fun ⟨o', k1, k2, k3, k4⟩ => ⟨o', k1, by omega, k3, k4⟩, fun ⟨o', k1, k2, k3, k4⟩ => ⟨o', k1, by
      rcases Nat.lt_or_ge p j with h | h
      · exact h
      · obtain rfl : j = p := by omega
        rw [ho] at k1; cases k1
        exact absurd k3 hk, k3, k4⟩⟩
    refine ⟨g, t, by rw [hmem]; exact A.sim, by rw [hmem]; exact A.step, A.len, fun x hx hng => A.wr x hx fun j hj => hng j ((up j x).2 hj), fun j x hj hgj => ?_, fun j l x y hj hl hgj hgl => A.apart j l x y hj hl ((up j x).1 hgj) ((up l y).1 hgl)⟩
    have := A.ghost j x hj ((up j x).1 hgj)
    unfold GhostAt2 at this ⊢
    rw [hmem]
    exact this
theorem adopt_to {D : Nat → Prop} {t : List V} {pf : Nat → Nat} {a : Act} {w : World} {k : Nat} : ∀ (d : Nat), k + d ≤ ops.size → (∀ j o, ops[j]? = some o → k ≤ j → j < k + d → kd2 o.op ≠ .eff ∧ (kd2 o.op = .mk → D j)) →
    ∀ {g : Nat → Pl}, St2 ng ops m0 t0 M v g0 w0 k D g t pf a w → ∃ g' t', St2 ng ops m0 t0 M v g0 w0 (k + d) D g' t' pf a w
  | 0, _, _, g, A => ⟨g, t, A⟩
  | d + 1, hle, h, g, A => by
    obtain ⟨g', t', A'⟩ := adopt_to d (by omega) (fun j o h1 h2 h3 => h j o h1 h2 (by omega)) A
    obtain ⟨o, ho⟩ := op_at (ops := ops) (k := k + d) (by omega)
    obtain ⟨h1, h2⟩ := h (k + d) o ho (by omega) (by omega)
    obtain ⟨g'', t'', A''⟩ := adopt_one C ho h1 h2 A'
    exact ⟨g'', t'', A''⟩
omit C in
/-- A ghost stays where a call, a load, a reckoning passes. -/
theorem ghosts_keep2 {D : Nat → Prop} {k : Nat} {g g' : Nat → Pl} {t : List V} {pf : Nat → Nat} {a a' : Act} {w w' : World} (A : St2 ng ops m0 t0 M v g0 w0 k D g t pf a w) (hs : Step g (M k) w g' (M k) w')
    (hx : ∀ j x, D j → Gh ops k j x → a'.tmps.getD x undef = a.tmps.getD x undef) :
    ∀ j x, D j → Gh ops k j x → GhostAt2 M v k g' a' w' j x (pf j) ∧ pf j < w'.heap.size ∧ w0.heap.size ≤ pf j ∧ ∀ i, i < (M k).length → (g' i).1 ≠ pf j := by
  intro j x hj hm
  obtain ⟨h1, h2, h3, h4⟩ := A.ghost j x hj hm
  refine ⟨fun sh cs e1 e2 => ?_, Nat.lt_of_lt_of_le h2 hs.size, h3, fun i hi => by rw [hs.eq i hi]; exact h4 i hi⟩
  obtain ⟨pl, k1, k2, k3⟩ := h1 sh cs e1 e2
  refine ⟨pl, k1, k2.congr ?_ (Nat.le_refl _) hs.ag, by rw [hx j x hj hm]; exact k3⟩
  rw [k1]
  refine hs.same _ h2 ?_
  rintro ⟨i, b, hb, _, he⟩
  exact h4 i (List.getElem?_eq_some_iff.1 hb).1 he
/-- One operation, whichever may come up. -/
theorem inv_step2 {Q : Exit → Act → World → Prop} {D : Nat → Prop} (hc : Closed ops D) {i : Nat} {o : Oper} (hi : ops[i]? = some o) (hn : ¬ D i) (hr : ∀ e ∈ o.after, Region.binds .any e = true → D e.on)
    {a : Act} {w : World} (h : Inv2 ng ops m0 t0 M v g0 w0 D a w) {K : Act → World → Prop} (hK : ∀ a' w', Inv2 ng ops m0 t0 M v g0 w0 (fun j => D j ∨ j = i) a' w' → K a' w') : wpOp P ops Q i K a w := by
  have hlt : i < ops.size := (Array.getElem?_eq_some_iff.1 hi).1
  have E := C.ent i o hi
  have hlast := fun x hx => writes_last2 C.L hc hi hn (x := x) hx
  obtain ⟨k, hst, hks, heff, hmkd, g, t, pf, A⟩ := h
  unfold wpOp
  simp only [hi]
  have hw : Region.wanted o (yielded ops a.tmps) = true := by simp [Region.wanted, C.L.ng i o hi]
  rw [hw]
  simp only [if_true]
  left
  by_cases hke : kd2 o.op = .eff
  · -- a writer
    have hki : k ≤ i := by
      rcases Nat.lt_or_ge i k with h | h
      · exact absurd ((heff i o hi hke).2 h) hn
      · exact h
    have hbefore : ∀ j x, ops[j]? = some x → j < i → (kd2 x.op = .mk ∨ kd2 x.op = .eff) → D j := fun j x hj hji hx =>
      pre_ready hc hi hr ((C.L.pair j i x o hji hj hi).2.1 hke hx)
    obtain ⟨g1, t1, A1⟩ := adopt_to C (k := k) (i - k) (by omega) (fun j x hj h1 h2 => ⟨fun hx => by
      have := (heff j x hj hx).1 (hbefore j x hj (by omega) (.inr hx))
      omega, fun hx => hbefore j x hj (by omega) (.inl hx)⟩) A
    rw [show k + (i - k) = i by omega] at A1
    have hsame := same_reads2 C hc hi hn hr A1.len (fun x hx hxl => A1.wr x hx fun j => no_gh C hi (.inr (Nat.le_refl _)) hxl j)
    have hev := E.writes (.inr hke)
    have hsh := eff_shape hke hev
    rw [evOp_congr (ev_same fun x hx => (hsame x hx).symm)] at hev
    refine oper_wp_of_gets A1.sim (evOp_sound A1.sim o hev) (fun u m' g' x w' hu S' hs' => ?_)
    obtain ⟨rfl, rfl⟩ := hu
    have gh1 : ∀ j y, (D j ∨ j = i) → Gh ops (i + 1) j y → D j ∧ Gh ops i j y ∧ i ≠ j := fun j y hj hg => by
      obtain ⟨o', k1, k2, k3, k4⟩ := hg
      refine ⟨hj.resolve_right (by omega), ⟨o', k1, by omega, k3, k4⟩, by omega⟩
    refine hK _ _ ⟨i + 1, .inr ⟨o, by omega, by simpa using hi, hke⟩, by omega, fun j x hj hx => ?_, fun j x hj hx hji => ?_, g', putL o.dst t1 (v i), pf, S', A1.step.trans hs', by rw [putL_length, A1.len], fun x hx hng => ?_, fun j y hj hg => ?_, fun j l y z hj hl hgj hgl hne => ?_⟩
    · refine ⟨fun hj' => ?_, fun hji => ?_⟩
      · rcases hj' with hj' | rfl
        · have := (heff j x hj hx).1 hj'
          omega
        · omega
      · by_cases hji' : j = i
        · exact .inr hji'
        · exact .inl (hbefore j x hj (by omega) (.inr hx))
    · by_cases hji' : j = i
      · exact .inr hji'
      · exact .inl (hbefore j x hj (by omega) (.inl hx))
    · refine wr_next hi hlast A1.len hx fun hd => A1.wr x hx fun j hg => ?_
      obtain ⟨o', k1, k2, k3, k4⟩ := hg
      by_cases hji : j = i
      · subst hji
        rw [hi] at k1; cases k1
        rw [hke] at k3; cases k3
      · exact hng j ⟨o', k1, by omega, k3, k4⟩
    · obtain ⟨hD, hg', hne⟩ := gh1 j y hj hg
      obtain ⟨r1, r2, r3, r4⟩ := A1.ghost j y hD hg'
      refine ⟨fun sh b e1 e2 => ?_, Nat.lt_of_lt_of_le r2 hs'.size, r3, fun l hl => ?_⟩
      · obtain ⟨pl, s1, s2, s3⟩ := r1 sh b e1 e2
        refine ⟨pl, s1, s2.congr ?_ hs'.len hs'.ag, ?_⟩
        · rw [s1]
          refine hs'.same _ r2 ?_
          rintro ⟨l, b, hb, _, he⟩
          exact r4 l (List.getElem?_eq_some_iff.1 hb).1 he
        · rw [put_getD (gh_slot C hi hg' hne)]; exact s3
      · intro hp
        have foot : ∀ d, (M (i + 1))[l]? = some d → d.w = true → False := fun d hd hdw => by
          obtain ⟨l', b', hb', _, he'⟩ := hs'.foot (pf j) r2 ⟨l, d, hd, hdw, hp⟩
          exact r4 l' (List.getElem?_eq_some_iff.1 hb').1 he'
        have stay : l < (M i).length → (getB (M (i + 1)) l).b.vof = (getB (M i) l).b.vof → False := fun hl' hv => by
          rcases (hs'.agree l hl').2 with he | ⟨he, _⟩
          · rw [he] at hp; exact r4 l hl' hp
          · omega
        rcases hsh with hm | ⟨i0, b0, hm⟩ | ⟨b0, hm⟩
        · rw [hm] at hl stay
          exact stay hl rfl
        · rw [hm, List.length_set] at hl
          by_cases hli : l = i0
          · subst hli
            exact foot ⟨true, b0⟩ (by rw [hm, List.getElem?_set_self hl]) rfl
          · refine stay hl ?_
            rw [hm, getB_eq, getB_eq, List.getD_eq_getElem?_getD, List.getD_eq_getElem?_getD, List.getElem?_set_ne (Ne.symm hli)]
        · rw [hm, List.length_append, List.length_singleton] at hl
          rcases Nat.lt_or_ge l (M i).length with h1 | h1
          · refine stay h1 ?_
            rw [hm, getB_snoc h1]
          · obtain rfl : l = (M i).length := by omega
            exact foot ⟨true, b0⟩ (by rw [hm]; simp) rfl
    · obtain ⟨hDj, hgj', _⟩ := gh1 j y hj hgj
      obtain ⟨hDl, hgl', _⟩ := gh1 l z hl hgl
      exact A1.apart j l y z hDj hDl hgj' hgl' hne
  · have hstay : ∀ j x, ops[j]? = some x → kd2 x.op = .eff → ((D j ∨ j = i) ↔ j < k) := fun j x hj hx => by
      rw [← heff j x hj hx]
      refine ⟨fun h' => ?_, .inl⟩
      rcases h' with h' | rfl
      · exact h'
      · rw [hi] at hj; cases hj; exact absurd hx hke
    have hsame := same_reads2 C hc hi hn hr A.len (fun x hx hxl => A.wr x hx fun j => no_gh C hi (.inl hke) hxl j)
    by_cases hkm : kd2 o.op = .mk
    · -- a new block
      have hki : k ≤ i := by
        rcases Nat.lt_or_ge i k with h | h
        · exact absurd (hmkd i o hi hkm h) hn
        · exact h
      obtain ⟨d, hd, _, hdl⟩ := C.L.self i o hi hkm
      have hm : Gh ops k i d := ⟨o, hi, hki, hkm, hd⟩
      cases hcc : isC o.op with
      | true =>
        obtain ⟨mx, ⟨sh, b, hval, hmem, hsok, hnum, hev⟩, hmx⟩ := C.mkc i o hi hkm hcc
        have hMk : M k = mx := hmx k hst fun j x hj hx => ⟨fun hjk hp => hn (hc _ _ hp ((heff j x hj hx).2 hjk)), fun hkj hp => by
          have := (heff j x hj hx).1 (pre_ready hc hi hr hp)
          omega⟩
        subst hMk
        rw [evOp_congr (ev_same fun x hx => (hsame x hx).symm)] at hev
        have hro : ∀ p, ¬ Foot g (shutM (M k)) p := by
          rintro p ⟨l, d, hd', hw', _⟩
          rw [shutM_get] at hd'
          cases hq : (M k)[l]? with
          | none => rw [hq] at hd'; cases hd'
          | some d' => rw [hq] at hd'; cases hd'; cases hw'
        have S0 : Sim ng g t (shutM (M k)) a w := by
          refine ⟨A.sim.defers, by rw [shutM_len]; exact A.sim.tmps, ⟨fun l d hd' => ?_, fun l l' d d' hne hd' _ hw' => ?_⟩, by rw [shutM_len]; exact A.sim.glob⟩
          · rw [shutM_get] at hd'
            cases hq : (M k)[l]? with
            | none => rw [hq] at hd'; cases hd'
            | some d' =>
              rw [hq] at hd'; cases hd'
              have R := A.sim.rep.blk l d' hq
              rw [shutM_len]
              exact ⟨R.size, R.cell, fun h => (nomatch h), R.room, R.map, R.ver⟩
          · rw [shutM_get] at hd'
            cases hq : (M k)[l]? with
            | none => rw [hq] at hd'; cases hd'
            | some d' => rw [hq] at hd'; cases hd'; cases hw'
        refine oper_wp_of_gets S0 (evOp_sound S0 o hev) (fun u m' g' x w' hu S' hs0 => ?_)
        obtain ⟨rfl, rfl⟩ := hu
        have hL : (shutM (M k) ++ [(⟨true, b⟩ : Blk)]).length = (M k).length + 1 := by simp [shutM_len]
        have hg' : ∀ l, l < (M k).length → g' l = g l := fun l hl => by
          have hv : (getB (shutM (M k) ++ [(⟨true, b⟩ : Blk)]) l).b.vof = (getB (shutM (M k)) l).b.vof := by rw [getB_snoc (by rw [shutM_len]; exact hl)]
          rcases (hs0.agree l (by rw [shutM_len]; exact hl)).2 with he | ⟨he, _⟩
          · exact he
          · omega
        have hsame' : ∀ p, p < w.heap.size → w'.heap[p]? = w.heap[p]? := fun p hp => hs0.same p hp (hro p)
        have hs' : Step g (M k) w g (M k) w' := ⟨Nat.le_refl _, agree_of fun _ _ => ⟨rfl, rfl⟩, hs0.os, hs0.tape, hs0.output, hs0.size, fun p hp _ => hsame' p hp, fun p _ h => h⟩
        have hrep : Rep g (M k) w' := ⟨fun l d hd' => (A.sim.rep.blk l d hd').congr (hsame' _ (A.sim.rep.blk l d hd').size) (Nat.le_refl _) fun _ _ => .inl rfl, A.sim.rep.apart⟩
        have hlast' : (shutM (M k) ++ [(⟨true, b⟩ : Blk)])[(M k).length]? = some ⟨true, b⟩ := by
          rw [List.getElem?_append_right (by rw [shutM_len]; exact Nat.le_refl _), shutM_len]; simp
        have hnewB := S'.rep.blk (M k).length _ hlast'
        have hpge : w.heap.size ≤ (g' (M k).length).1 := by
          rcases Nat.lt_or_ge (g' (M k).length).1 w.heap.size with h | h
          · exact absurd (hs0.foot _ h ⟨(M k).length, ⟨true, b⟩, hlast', rfl, rfl⟩) (hro _)
          · exact h
        have hB : RepB (M k).length g w' (g' (M k).length) ⟨true, b⟩ := by
          refine ⟨hnewB.size, fun j u hu => ?_, hnewB.free, hnewB.room, hnewB.map, hnewB.ver⟩
          obtain ⟨y, hy, hr'⟩ := hnewB.cell j u hu
          refine ⟨y, hy, ?_⟩
          have hu : b.get j = some u := hu
          have key : ∀ (n n' : Nat) (G G' : Nat → Pl), Rv n G u y → Rv n' G' u y := by
            cases b <;> first
              | (cases hnum; done)
              | (simp only [B.get, Option.map_eq_some_iff] at hu; obtain ⟨_, _, rfl⟩ := hu; intro n n' G G' h; simpa [Rv] using h)
          exact key _ _ _ _ hr'
        have hxv : Rv ((M k).length + 1) g' (mkV2 sh (M k).length) ((a.put o.dst x).tmps.getD d undef) := by
          have h1 := S'.tmps
          rw [hd] at h1 ⊢
          rw [hL] at h1
          obtain ⟨z, z1, z2⟩ := Rvs_get h1 (i := d) (v := mkV2 sh (M k).length) (by
            show (t.set d (mkV2 sh (M k).length))[d]? = _
            rw [List.getElem?_set_self (by rw [A.len]; exact hdl)])
          have : (a.put (some d) x).tmps.getD d undef = z := by
            rw [Array.getD_eq_getD_getElem?, ← Array.getElem?_toList, z1]; rfl
          rw [this]; exact z2
        have hw0 : w0.heap.size ≤ w.heap.size := A.step.size
        have S1 : Sim ng g (t.set d (.raw x)) (M k) (a.put o.dst x) w' := by
          have := A.sim.put o.dst (v := .raw x) (x := x) (by simp [Rv]) hrep hs'
          rw [hd] at this ⊢
          exact this
        have hkeep := ghosts_keep2 A (a' := a.put o.dst x) hs' (fun j x hj hm => put_getD (gh_slot C hi hm (fun e => hn (by rw [e]; exact hj))))
        have hux : ∀ x, Gh ops k i x → x = d := by
          rintro x ⟨o', h1, _, _, h5⟩
          rw [hi] at h1; cases h1; rw [hd] at h5; cases h5; rfl
        refine hK _ _ ⟨k, hst, hks, hstay, fun j x hj hx hjk => .inl (hmkd j x hj hx hjk), g, t.set d (.raw x), fun j => if j = i then (g' (M k).length).1 else pf j, S1, A.step.trans hs', by simp [A.len], fun x hx hnm => ?_, ?_, ?_⟩
        · have hxd : d ≠ x := fun e => hnm i (by rw [← e]; exact hm)
          rw [getT_set, if_neg (fun h => hxd h.1)]
          exact (A.wr x hx hnm).add hi (by rw [hd]; simpa using hxd)
        · intro j x hj hmj
          by_cases hji : j = i
          · subst hji
            have := hux x hmj
            subst this
            simp only [if_true]
            refine ⟨fun sh' b' k1 k2 => ?_, hnewB.size, by omega, fun l hl => ?_⟩
            · have hsh : mkV2 sh' (M j).length = mkV2 sh (M j).length := by rw [← k1, hval]
              have hb : b' = b := by
                rw [hmem] at k2
                have := List.append_cancel_left k2
                simpa using this.symm
              subst hb
              refine ⟨g' (M k).length, rfl, hB, fun l N G hl hG => ?_⟩
              rw [mkV2_inj hsh l]
              exact mkV2_Rv hxv rfl l N G hl hG
            · have hb : ∃ b, (M k)[l]? = some b := ⟨(M k)[l], by simp [hl]⟩
              obtain ⟨b', hb'⟩ := hb
              have := (A.sim.rep.blk l b' hb').size
              omega
          · simp only [if_neg hji]
            have hj : D j := by
              rcases hj with hj | rfl
              · exact hj
              · exact absurd rfl hji
            exact hkeep j x hj hmj
        · intro j l x y hj hl hmj hml hne
          have hold : ∀ j x, D j → Gh ops k j x → pf j < w.heap.size := fun j x hj hm => (A.ghost j x hj hm).2.1
          by_cases hji : j = i
          · subst hji
            have hl : D l := by
              rcases hl with hl | rfl
              · exact hl
              · exact absurd rfl hne
            simp only [if_true, if_neg (Ne.symm hne)]
            have := hold l y hl hml
            omega
          · have hjD : D j := by
              rcases hj with hj | rfl
              · exact hj
              · exact absurd rfl hji
            by_cases hli : l = i
            · subst hli
              simp only [if_true, if_neg hji]
              have := hold j x hjD hmj
              omega
            · have hlD : D l := by
                rcases hl with hl | rfl
                · exact hl
                · exact absurd rfl hli
              simp only [if_neg hji, if_neg hli]
              exact A.apart j l x y hjD hlD hmj hml hne
      | false =>
        obtain ⟨sh, b, hM⟩ := mk_spec2 hkm hcc (E.writes (.inl ⟨hkm, hcc⟩))
        obtain ⟨c, e, q1, q2⟩ := hM.run o rfl A.sim (ev_same fun x hx => (hsame x hx).symm)
        unfold Oper.wp
        rw [q1]
        simp only [Oper.upon]
        have hh : ∀ p, p < w.heap.size → (w.heap.push (Obj.cells c e))[p]? = w.heap[p]? := fun p hp => by rw [Array.getElem?_push, if_neg (by omega)]
        have hs' : Step g (M k) w g (M k) { w with heap := w.heap.push (.cells c e) } := step_push g (M k) w _
        have hw0 : w0.heap.size ≤ w.heap.size := A.step.size
        have S1 : Sim ng g (t.set d (.raw (mkX2 sh w.heap.size))) (M k) (a.put o.dst (mkX2 sh w.heap.size)) { w with heap := w.heap.push (.cells c e) } := by
          have := A.sim.put o.dst (v := .raw (mkX2 sh w.heap.size)) (x := mkX2 sh w.heap.size) (by simp [Rv]) (rep_push A.sim.rep (.cells c e)) hs'
          rw [hd] at this ⊢
          exact this
        have hkeep := ghosts_keep2 A (a' := a.put o.dst (mkX2 sh w.heap.size)) hs' (fun j x hj hm => put_getD (gh_slot C hi hm (fun e => hn (by rw [e]; exact hj))))
        have hux : ∀ x, Gh ops k i x → x = d := by
          rintro x ⟨o', h1, _, _, h5⟩
          rw [hi] at h1; cases h1; rw [hd] at h5; cases h5; rfl
        refine hK _ _ ⟨k, hst, hks, hstay, fun j x hj hx hjk => .inl (hmkd j x hj hx hjk), g, t.set d (.raw (mkX2 sh w.heap.size)), fun j => if j = i then w.heap.size else pf j, S1, A.step.trans hs', by simp [A.len], fun x hx hnm => ?_, ?_, ?_⟩
        · have hxd : d ≠ x := fun e => hnm i (by rw [← e]; exact hm)
          rw [getT_set, if_neg (fun h => hxd h.1)]
          exact (A.wr x hx hnm).add hi (by rw [hd]; simpa using hxd)
        · intro j x hj hmj
          by_cases hji : j = i
          · subst hji
            have := hux x hmj
            subst this
            simp only [if_true]
            refine ⟨fun sh' b' k1 k2 => ?_, by simp, hw0, fun l hl => ?_⟩
            · have hsh : mkV2 sh' (M j).length = mkV2 sh (M j).length := by rw [← k1, hM.val]
              have hb : b' = b := by
                rw [hM.mem] at k2
                have := List.append_cancel_left k2
                simpa using this.symm
              subst hb
              have ht : (a.put o.dst (mkX2 sh w.heap.size)).tmps.getD x undef = mkX2 sh w.heap.size := by
                rw [hd]
                exact put_getD_same (by rw [size_of A.sim, A.len]; exact hdl)
              refine ⟨⟨w.heap.size, 0, 0, 0⟩, rfl, ghost_push hM.plain q2, fun l N G hl hG => ?_⟩
              rw [ht, mkV2_inj hsh l]
              exact Rv_mk2 hl hG hM.ok
            · have hb : ∃ b, (M k)[l]? = some b := ⟨(M k)[l], by simp [hl]⟩
              obtain ⟨b', hb'⟩ := hb
              have := (A.sim.rep.blk l b' hb').size
              omega
          · simp only [if_neg hji]
            have hj : D j := by
              rcases hj with hj | rfl
              · exact hj
              · exact absurd rfl hji
            exact hkeep j x hj hmj
        · intro j l x y hj hl hmj hml hne
          have hold : ∀ j x, D j → Gh ops k j x → pf j < w.heap.size := fun j x hj hm => (A.ghost j x hj hm).2.1
          by_cases hji : j = i
          · subst hji
            have hl : D l := by
              rcases hl with hl | rfl
              · exact hl
              · exact absurd rfl hne
            simp only [if_true, if_neg (Ne.symm hne)]
            have := hold l y hl hml
            omega
          · have hjD : D j := by
              rcases hj with hj | rfl
              · exact hj
              · exact absurd rfl hji
            by_cases hli : l = i
            · subst hli
              simp only [if_true, if_neg hji]
              have := hold j x hjD hmj
              omega
            · have hlD : D l := by
                rcases hl with hl | rfl
                · exact hl
                · exact absurd rfl hli
              simp only [if_neg hji, if_neg hli]
              exact A.apart j l x y hjD hlD hmj hml hne
    · -- what reads, or reckons
      have hnot : ∀ x, ¬ Gh ops k i x := by
        rintro x ⟨o', h1, _, h3, _⟩
        rw [hi] at h1; cases h1; exact hkm h3
      have hev : evOp P ng o.op (T i) (M k) fun u b => u = v i ∧ b = M k := by
        cases hkk : kd2 o.op with
        | pure =>
          obtain ⟨mx, h1⟩ := (E.pure hkk).1
          exact (pure_mem (kd2_pure hkk) h1).2 _
        | quiet =>
          refine C.read i o hi hkk k hst fun j x hj hx => ⟨fun hjk hp => hn (hc _ _ hp ((heff j x hj hx).2 hjk)), fun hkj hp => ?_⟩
          have := (heff j x hj hx).1 (pre_ready hc hi hr hp)
          omega
        | mk => exact absurd hkk hkm
        | eff => exact absurd hkk hke
        | bad => exact absurd hkk E.good
      rw [evOp_congr (ev_same fun x hx => (hsame x hx).symm)] at hev
      refine oper_wp_of_gets A.sim (evOp_sound A.sim o hev) (fun u m' g' x w' hu S' hs' => ?_)
      obtain ⟨rfl, rfl⟩ := hu
      have hDj : ∀ j x, (D j ∨ j = i) → Gh ops k j x → D j := fun j x hj hg => by
        rcases hj with hj | rfl
        · exact hj
        · exact absurd hg (hnot x)
      refine hK _ _ ⟨k, hst, hks, hstay, fun j x hj hx hjk => .inl (hmkd j x hj hx hjk), g', putL o.dst t (v i), pf, S', A.step.trans hs', by rw [putL_length, A.len], fun x hx hng => wr_next hi hlast A.len hx (fun _ => A.wr x hx hng), ?_, ?_⟩
      · intro j y hj hg
        exact ghosts_keep2 A hs' (fun j x hj hm => put_getD (gh_slot C hi hm (fun e => hn (by rw [e]; exact hj)))) j y (hDj j y hj hg) hg
      · intro j l y z hj hl hgj hgl hne
        exact A.apart j l y z (hDj j y hj hgj) (hDj l z hl hgl) hgj hgl hne
/-- All of them are through. -/
theorem inv_end2 {D : Nat → Prop} (hall : ∀ i, i < ops.size → D i) {K : List V → List Blk → Prop} (hK : K (T ops.size) (M ops.size)) {a : Act} {w : World} (h : Inv2 ng ops m0 t0 M v g0 w0 D a w) : Reach ng K g0 m0 w0 a w := by
  obtain ⟨k, hst, hks, heff, hmkd, g, t, pf, A⟩ := h
  obtain ⟨g', t', B⟩ := adopt_to C (k := k) (ops.size - k) (by omega) (fun j x hj h1 h2 => ⟨fun hx => by
    have := (heff j x hj hx).1 (hall j (by omega))
    omega, fun _ => hall j (by omega)⟩) A
  rw [show k + (ops.size - k) = ops.size by omega] at B
  obtain ⟨l, hw⟩ := text_wr2 C ops.size (Nat.le_refl _)
  have ht : t' = T ops.size := by
    apply List.ext_getElem
    · rw [B.len, l]
    · intro x h1 h2
      have hx : x < t0.length := by rw [← B.len]; exact h1
      have hng : ∀ j, ¬ Gh ops ops.size j x := by
        rintro j ⟨o', h1, h2, _⟩
        have := (Array.getElem?_eq_some_iff.1 h1).1
        omega
      have := (B.wr x hx hng).unique ((hw x hx).congr fun j o hj _ => ⟨fun h => hall j h, fun _ => (Array.getElem?_eq_some_iff.1 hj).1⟩)
      rw [getT_eq, getT_eq] at this
      simpa [List.getD_eq_getElem?_getD, h1, h2] using this
  subst ht
  exact ⟨g', _, _, hK, B.sim, B.step⟩
theorem any_of_inv2 {Q : Exit → Act → World → Prop} {K : List V → List Blk → Prop} (hK : K (T ops.size) (M ops.size)) (hQ : ∀ a' w', Reach ng K g0 m0 w0 a' w' → Q .normal a' w') :
    ∀ (fuel : Nat) (listed : Array Bool) (a : Act) (w : World), listed.size = ops.size → listed.toList.count false = fuel → Closed ops (fun j => listed.getD j false = true) →
      Inv2 ng ops m0 t0 M v g0 w0 (fun j => listed.getD j false = true) a w → wpAny P .any ops Q fuel listed a w := by
  intro fuel
  have hall_of : ∀ (listed : Array Bool), listed.size = ops.size → (∀ i, i < ops.size → listed.getD i false = true) → ∀ a w, Inv2 ng ops m0 t0 M v g0 w0 (fun j => listed.getD j false = true) a w → Q .normal a w :=
    fun listed _ h a w hI => hQ a w (inv_end2 C h hK hI)
  have done : ∀ (listed : Array Bool), listed.size = ops.size → Region.ready .any ops listed = [] → ∀ i, i < ops.size → listed.getD i false = true := by
    intro listed hl hr i
    induction i using Nat.strongRecOn with
    | _ i ih =>
      intro hi
      refine Classical.byContradiction fun hno => ?_
      obtain ⟨o, ho⟩ := op_at (ops := ops) hi
      have : i ∈ Region.ready .any ops listed := by
        rw [mem_ready]
        refine ⟨?_, o, ho, fun e he hb => ?_⟩
        · have : i < listed.size := by omega
          simp [this] at hno ⊢
          exact hno
        · have := C.L.back i o ho e he hb
          exact ih e.on this (by omega)
      rw [hr] at this
      cases this
  induction fuel with
  | zero =>
    intro listed a w hl hc hcl hI
    have h0 : ∀ i, i < ops.size → listed.getD i false = true := by
      intro i hi
      have hi' : i < listed.size := by omega
      have : false ∉ listed.toList := List.count_eq_zero.1 hc
      have hm : listed[i] ∈ listed.toList := by simp
      cases hb : listed[i] with
      | true => simp [hi', hb]
      | false => rw [hb] at hm; exact absurd hm this
    refine ⟨?_, hall_of listed hl h0 a w hI⟩
    rw [List.eq_nil_iff_forall_not_mem]
    intro i hi
    obtain ⟨h1, o, ho, _⟩ := mem_ready.1 hi
    have hlt : i < ops.size := (Array.getElem?_eq_some_iff.1 ho).1
    have := h0 i hlt
    have hi' : i < listed.size := by omega
    simp [hi'] at h1 this
    rw [h1] at this; cases this
  | succ fuel ih =>
    intro listed a w hl hc hcl hI
    refine ⟨fun hr => hall_of listed hl (done listed hl hr) a w hI, fun i hi => ?_⟩
    obtain ⟨h1, o, ho, h2⟩ := mem_ready.1 hi
    have hlt : i < ops.size := (Array.getElem?_eq_some_iff.1 ho).1
    have hi' : i < listed.size := by omega
    have hif : listed[i] = false := by simpa [hi'] using h1
    refine inv_step2 C hcl ho (by simp [hi', hif]) h2 hI (fun a' w' hI' => ?_)
    have hD : (fun j => (listed.setIfInBounds i true).getD j false = true) = fun j => listed.getD j false = true ∨ j = i := by
      funext j
      by_cases hji : j = i
      · subst hji; simp [hi']
      · simp [Array.getElem?_setIfInBounds_ne (Ne.symm hji), hji]
    refine ih _ a' w' (by simp [hl]) ?_ ?_ ?_
    · have := count_set (l := listed.toList) (i := i) (by simp [hi', hif])
      simp only [Array.toList_setIfInBounds]
      omega
    · rw [hD]; exact closed_add hcl ho h2
    · rw [hD]; exact hI'
end
/-- **One walk in the order of the text serves every order, new rows and all.** -/
theorem drawn_made {id : Nat} {Q : Exit → Act → World → Prop} {g : Nat → Pl} {t : List V} {m : List Blk} {a : Act} {w : World} {K : List V → List Blk → Prop} (hm : P.follows .mixedOrders = true) (hl : lookG ops t.length = true)
    (S : Sim ng g t m a w) (h : evG P ng (masks ops.toList []) (effs2 0 ops.toList) ops.toList 0 [] [(0, m)] m t m K) (hQ : ∀ a' w', Reach ng K g m w a' w' → Q .normal a' w') : (Code.region id ops true).wp P Q a w := by
  have L := look2 hl
  obtain ⟨T, M, v, h1, h2, h3, h4, h5, _, h7⟩ := evG_walk _ _ _ _ _ _ _ _ ⟨0, by simp⟩ h
  rw [Array.length_toList] at h3
  have hms := masks_spec (ops := ops.toList) ops.toList [] (by simp) (by simp)
  have C : Ctx2 P ng ops m t T M v := by
    have hcs : ∀ (k : Nat) (o : Oper), ops[k]? = some o → kd2 o.op = .mk → isC o.op = true → ∃ mx, MadeC P ng o.op (T k) (M k) (v k) (M (k + 1)) mx ∧ ∀ s, Stage ops s → OkP ops k s → M s = mx := by
      intro k o ho hk hcc
      obtain ⟨mx, q1, q2⟩ := h7 k o (by simpa using ho) hk hcc
      refine ⟨mx, q1, fun s hst hok => ?_⟩
      have late : ∀ (e : Nat) (oe : Oper), ops[e]? = some oe → kd2 oe.op = .eff → k < e → e < s → False := fun e oe he hke h1 h2 =>
        (hok e oe he hke).1 h2 ((L.pair k e o oe h1 ho he).2.1 hke (.inl hk))
      have kne : ∀ (e : Nat) (oe : Oper), ops[e]? = some oe → kd2 oe.op = .eff → e ≠ k := fun e oe he hke h => by
        subst h; rw [ho] at he; cases he; rw [hk] at hke; cases hke
      rcases q2 with ⟨rfl, q3⟩ | ⟨e, oe, q3, q4, q5, q6, q7⟩
      · rcases hst with rfl | ⟨os, s1, s2, s3⟩
        · exact h2
        · exfalso
          rcases Nat.lt_trichotomy (s - 1) k with h | h | h
          · exact q3 (s - 1) os h (by simpa using s2) s3
          · exact kne _ os s2 s3 h
          · exact late _ os s2 s3 h (by omega)
      · have q4' : ops[e]? = some oe := by simpa using q4
        have hes : e < s := by
          rcases Nat.lt_or_ge e s with h | h
          · exact h
          · exact absurd ((L.pair e k oe o q3 q4' ho).2.2.1 q5 hcc) ((hok e oe q4' q5).2 h)
        rcases hst with rfl | ⟨os, s1, s2, s3⟩
        · omega
        · have : s - 1 = e := by
            rcases Nat.lt_trichotomy (s - 1) k with h | h | h
            · rcases Nat.lt_or_ge e (s - 1) with h' | h'
              · exact absurd s3 (q7 (s - 1) os h' h (by simpa using s2))
              · omega
            · exact absurd h (kne _ os s2 s3)
            · exact (late _ os s2 s3 h (by omega)).elim
          rw [q6, ← this, show s - 1 + 1 = s by omega]
    refine ⟨L, h1, h2, fun k o ho => (h4 k o ho).1, fun k o ho => (h4 k o (by simpa using ho)).2, fun k o ho hk s hst hok => ?_, hcs⟩
    have hokb : okS (masks ops.toList []) k s (effs2 0 ops.toList) = true := by
      refine okS_of fun j hj => ?_
      obtain ⟨oj, e1, _, e3⟩ := effs2_spec _ _ _ hj
      obtain ⟨p1, p2⟩ := hok j oj (by simpa using e1) e3
      refine ⟨fun hjs => ?_, fun hjs => ?_⟩
      · rw [Bool.eq_false_iff]; exact fun hb => p1 hjs (hms j k hb)
      · rw [Bool.eq_false_iff]; exact fun hb => p2 hjs (hms k j hb)
    obtain ⟨r1, r2⟩ := h5 k o (by simpa using ho) hk
    rcases hst with rfl | ⟨oe, k1, k2, k3⟩
    · have := r1 (0, m) (by simp) (by rw [Nat.zero_add]; exact hokb)
      rw [h2]; exact this
    · have := r2 (s - 1) oe (by simpa using k2) k3 (by rw [Nat.zero_add, Nat.zero_add, show s - 1 + 1 = s by omega]; exact hokb)
      rwa [show s - 1 + 1 = s by omega] at this
  have S1 : Sim ng g t m a { w with drawn := w.drawn + 1 } := ⟨S.defers, S.tmps, S.rep.heap rfl, S.glob⟩
  have hno : ∀ j, (Array.replicate ops.size false).getD j false = true → False := by
    intro j hj
    by_cases hlt : j < ops.size <;> simp [hlt] at hj
  refine wp_region_any hm (any_of_inv2 (g0 := g) (w0 := { w with drawn := w.drawn + 1 }) C h3 (fun a' w' r => hQ a' w' (r.from (.drawn g m w _))) ops.size _ a _ (by simp) (by simp) ?_ ?_)
  · exact fun i j _ hj => (hno j hj).elim
  · exact ⟨0, .inl rfl, Nat.zero_le _, fun j o _ _ => ⟨fun hj => (hno j hj).elim, fun hj => absurd hj (Nat.not_lt_zero j)⟩, fun j o _ _ hj => absurd hj (Nat.not_lt_zero j), g, t, fun _ => 0, by rw [h2]; exact S1, by rw [h2]; exact .refl _ _ _, rfl, fun x hx _ => .inr ⟨fun j o _ hj => (hno j hj).elim, rfl⟩, fun j x hj => (hno j hj).elim, fun j k x y hj => (hno j hj).elim⟩
end
end Go.Eng
