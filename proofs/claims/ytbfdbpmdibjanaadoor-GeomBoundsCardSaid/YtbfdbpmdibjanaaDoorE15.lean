/- The engine, part 15: regions that draw their order: the walk in the order of the text, and what it yields. No condition. -/
import Derived.Test.YtbfdbpmdibjanaaDoorE14
namespace Go.Eng
open Go

/-- A call that leaves memory alone. -/
noncomputable def callQ (P : Program) (ng : Nat) (f : FuncId) (args : List V) (m : List Blk) (K : V → Prop) : Prop := ∃ r, COk P ng f args m r m ∧ fV r K
noncomputable def evQ (P : Program) (ng : Nat) (op : Op) (t : List V) (m : List Blk) (K : V → Prop) : Prop :=
  match op with
  | .load ty a => loadV P ty (evO ng t a) m K
  | .call c => match c.callee with
    | .value f => match evO ng t f with
      | .clo (.func f) a b => evArgs ng t c.args.toList fun vs => callQ P ng f (appL a (appL vs b)) m K
      | _ => False
    | _ => False
  | _ => False
noncomputable def evOne (P : Program) (ng : Nat) (k : Kd) (op : Op) (t : List V) (m0 m : List Blk) (K : V → List Blk → Prop) : Prop :=
  match k with
  | .pure => evOp P ng op t m0 fun v _ => K v m
  | .quiet => evQ P ng op t m0 fun v => K v m
  | .mk => evOp P ng op t m K
  | .eff => False
noncomputable def evA (P : Program) (ng : Nat) (ops : List Oper) (m0 : List Blk) (l : List Oper) : List V → List Blk → (List V → List Blk → Prop) → Prop :=
  List.rec (motive := fun _ => List V → List Blk → (List V → List Blk → Prop) → Prop) (fun t m K => K t m)
    (fun o os ih t m K => match kd o.op with
      | .eff => evOps P ng ops (o :: os) t m K
      | k =>
        match o.guard with
        | none => evOne P ng k o.op t m0 m fun v m' => putK o.dst t v fun t' => ih t' m' K
        | some (j, want) =>
          match dstOf ops j with
          | some d => match getT t d with
            | .bool c =>
              br c
                (setT t d (.bool true) fun t => match want with
                  | true => evOne P ng k o.op t m0 m fun v m' => putK o.dst t v fun t' => ih t' m' K
                  | false => putK o.dst t .un fun t' => ih t' m K)
                (setT t d (.bool false) fun t => match want with
                  | false => evOne P ng k o.op t m0 m fun v m' => putK o.dst t v fun t' => ih t' m' K
                  | true => putK o.dst t .un fun t' => ih t' m K)
            | .raw (.tuple _) => putK o.dst t .un fun t' => ih t' m K
            | _ => False
          | none => False) l
theorem evA_cons {P : Program} {ng : Nat} {ops : List Oper} {m0 : List Blk} {o : Oper} {os : List Oper} {t : List V} {m : List Blk} {K : List V → List Blk → Prop} : evA P ng ops m0 (o :: os) t m K =
    match kd o.op with
    | .eff => evOps P ng ops (o :: os) t m K
    | k =>
      match o.guard with
      | none => evOne P ng k o.op t m0 m fun v m' => putK o.dst t v fun t' => evA P ng ops m0 os t' m' K
      | some (j, want) =>
        match dstOf ops j with
        | some d => match getT t d with
          | .bool c =>
            br c
              (setT t d (.bool true) fun t => match want with
                | true => evOne P ng k o.op t m0 m fun v m' => putK o.dst t v fun t' => evA P ng ops m0 os t' m' K
                | false => putK o.dst t .un fun t' => evA P ng ops m0 os t' m K)
              (setT t d (.bool false) fun t => match want with
                | false => evOne P ng k o.op t m0 m fun v m' => putK o.dst t v fun t' => evA P ng ops m0 os t' m' K
                | true => putK o.dst t .un fun t' => evA P ng ops m0 os t' m K)
          | .raw (.tuple _) => putK o.dst t .un fun t' => evA P ng ops m0 os t' m K
          | _ => False
        | none => False := rfl

section
variable {P : Program} {ng : Nat}
theorem evOp_mono {op : Op} {t : List V} {m : List Blk} {K K' : V → List Blk → Prop} (h : ∀ v m, K v m → K' v m) (hh : evOp P ng op t m K) : evOp P ng op t m K' :=
  (lin_op P ng op t m).mono (fun p => K p.1 p.2) (fun p => K' p.1 p.2) (fun p => h p.1 p.2) hh
theorem evOp_det {op : Op} {t : List V} {m : List Blk} {K : V → List Blk → Prop} (h : evOp P ng op t m K) : ∃ v m', K v m' ∧ evOp P ng op t m fun a b => a = v ∧ b = m' := by
  obtain ⟨p, h1, h2⟩ := (lin_op P ng op t m).det (fun p => K p.1 p.2) h
  exact ⟨p.1, p.2, h1, evOp_mono (fun v m hv => by cases hv; exact ⟨rfl, rfl⟩) h2⟩
theorem evQ_det {op : Op} {t : List V} {m : List Blk} {K : V → Prop} (h : evQ P ng op t m K) : ∃ v, K v ∧ evOp P ng op t m fun a b => a = v ∧ b = m := by
  unfold evQ at h
  cases op <;> try exact h.elim
  case load ty a =>
    obtain ⟨v, h1, h2⟩ := (lin_loadV P ty _ m).det K h
    exact ⟨v, h1, (lin_loadV P ty _ m).mono _ (fun a => a = v ∧ m = m) (fun a ha => ⟨ha, rfl⟩) h2⟩
  case call c =>
    obtain ⟨callee, args, ats⟩ := c
    cases callee <;> try exact h.elim
    rename_i f
    simp only at h
    cases hf : evO ng t f <;> rw [hf] at h <;> try exact h.elim
    rename_i fn a b
    cases fn <;> try exact h.elim
    rename_i f'
    simp only [evArgs_eq] at h
    obtain ⟨r, h1, h2⟩ := h
    rw [fV_eq] at h2
    refine ⟨r, h2, ?_⟩
    simp only [evOp, hf, evArgs_eq]
    exact ⟨r, m, h1, by rw [fV_eq]; exact ⟨rfl, rfl⟩⟩

/-- Does the operation run? -/
def Guard (ops : List Oper) (o : Oper) (t : List V) (run : Bool) : Prop :=
  match o.guard with
  | none => run = true
  | some (j, want) => ∃ d, dstOf ops j = some d ∧ ((∃ b, getT t d = .bool b ∧ run = (b == want)) ∨ ((∃ xs, getT t d = .raw (.tuple xs)) ∧ run = false))
/-- One operation of the walk; 'ph': from the first writer on. -/
structure Entry (P : Program) (ng : Nat) (ops : List Oper) (m0 : List Blk) (ph : Bool) (o : Oper) (t : List V) (m : List Blk) (run : Bool) (v : V) (m' : List Blk) : Prop where
  guard : Guard ops o t run
  skip : run = false → v = V.un ∧ m' = m
  still : run = true → ph = false → kd o.op = .pure ∨ kd o.op = .quiet → evOp P ng o.op t m0 (fun a b => a = v ∧ b = m0) ∧ m' = m
  made : run = true → ph = false → kd o.op = .mk → evOp P ng o.op t m (fun a b => a = v ∧ b = m')
  early : ph = false → kd o.op ≠ .eff
  late : run = true → ph = true → evOp P ng o.op t m (fun a b => a = v ∧ b = m')
def putL (d : Option Tmp) (t : List V) (v : V) : List V :=
  match d with
  | some d => t.set d v
  | none => t

theorem set_self {t : List V} {d : Nat} {c : Bool} (h : getT t d = .bool c) : t.set d (.bool c) = t := by
  rw [getT_eq] at h
  apply List.ext_getElem?
  intro i
  rw [List.getElem?_set]
  by_cases hi : d = i
  · subst hi
    rcases Nat.lt_or_ge d t.length with hd | hd
    · simp only [hd, if_true]
      rw [List.getD_eq_getElem?_getD, List.getElem?_eq_getElem hd] at h
      rw [List.getElem?_eq_getElem hd]
      simpa using h.symm
    · rw [List.getD_eq_getElem?_getD, List.getElem?_eq_none hd] at h
      simp at h
  · rw [if_neg hi]

/-- The walk's states, operation by operation. -/
def Walk (P : Program) (ng : Nat) (ops : List Oper) (m0 : List Blk) (ph : Nat → Bool) (l : List Oper) (t : List V) (m : List Blk) (K : List V → List Blk → Prop) : Prop :=
  ∃ (T : Nat → List V) (M : Nat → List Blk) (run : Nat → Bool) (v : Nat → V), T 0 = t ∧ M 0 = m ∧ K (T l.length) (M l.length) ∧
    ∀ (k : Nat) (o : Oper), l[k]? = some o → T (k + 1) = putL o.dst (T k) (v k) ∧ Entry P ng ops m0 (ph k) o (T k) (M k) (run k) (v k) (M (k + 1))
theorem Walk.nil {ops : List Oper} {m0 : List Blk} {ph : Nat → Bool} {t : List V} {m : List Blk} {K : List V → List Blk → Prop} (h : K t m) : Walk P ng ops m0 ph [] t m K :=
  ⟨fun _ => t, fun _ => m, fun _ => false, fun _ => V.un, rfl, rfl, h, by simp⟩
theorem Walk.cons {ops : List Oper} {m0 : List Blk} {ph : Nat → Bool} {o : Oper} {l : List Oper} {t : List V} {m m' : List Blk} {r : Bool} {u : V} {K : List V → List Blk → Prop}
    (he : Entry P ng ops m0 (ph 0) o t m r u m') (h : Walk P ng ops m0 (fun k => ph (k + 1)) l (putL o.dst t u) m' K) : Walk P ng ops m0 ph (o :: l) t m K := by
  obtain ⟨T, M, run, v, h1, h2, h3, h4⟩ := h
  refine ⟨fun | 0 => t | k + 1 => T k, fun | 0 => m | k + 1 => M k, fun | 0 => r | k + 1 => run k, fun | 0 => u | k + 1 => v k, rfl, rfl, h3, ?_⟩
  intro k o' ho
  cases k with
  | zero =>
    simp only [List.getElem?_cons_zero, Option.some.injEq] at ho
    subst ho
    simp only [h1, h2]
    exact ⟨trivial, he⟩
  | succ k => exact h4 k o' (by simpa using ho)

theorem putK_L (d : Option Tmp) (t : List V) (v : V) (K : List V → Prop) : putK d t v K = K (putL d t v) := putK_eq d t v K

theorem evOps_walk {ops : List Oper} {m0 : List Blk} : ∀ (l : List Oper) (t : List V) (m : List Blk) (K : List V → List Blk → Prop), evOps P ng ops l t m K → Walk P ng ops m0 (fun _ => true) l t m K
  | [], t, m, K, h => .nil h
  | o :: os, t, m, K, h => by
    have exec : Guard ops o t true → (evOp P ng o.op t m fun v m' => putK o.dst t v fun t' => evOps P ng ops os t' m' K) → Walk P ng ops m0 (fun _ => true) (o :: os) t m K := by
      intro hg h
      obtain ⟨v, m', h1, h2⟩ := evOp_det h
      rw [putK_L] at h1
      exact .cons ⟨hg, by simp, by simp, by simp, by simp, fun _ _ => h2⟩ (evOps_walk os _ m' K h1)
    have skip : Guard ops o t false → (putK o.dst t V.un fun t' => evOps P ng ops os t' m K) → Walk P ng ops m0 (fun _ => true) (o :: os) t m K := by
      intro hg h
      rw [putK_L] at h
      exact .cons (m' := m) ⟨hg, fun _ => ⟨rfl, rfl⟩, by simp, by simp, by simp, by simp⟩ (evOps_walk os _ m K h)
    rw [evOps_cons] at h
    split at h
    · rename_i hg
      exact exec (by unfold Guard; rw [hg]) h
    · rename_i j want hg
      split at h
      · rename_i d hd
        split at h
        · rename_i c hc
          rw [br_iff] at h
          rcases h with ⟨rfl, h⟩ | ⟨rfl, h⟩ <;> rw [setT_eq, set_self hc] at h
          · cases want with
            | true => exact exec (by unfold Guard; rw [hg]; exact ⟨d, hd, .inl ⟨_, hc, rfl⟩⟩) h
            | false => exact skip (by unfold Guard; rw [hg]; exact ⟨d, hd, .inl ⟨_, hc, rfl⟩⟩) h
          · cases want with
            | true => exact skip (by unfold Guard; rw [hg]; exact ⟨d, hd, .inl ⟨_, hc, rfl⟩⟩) h
            | false => exact exec (by unfold Guard; rw [hg]; exact ⟨d, hd, .inl ⟨_, hc, rfl⟩⟩) h
        · rename_i xs hc
          exact skip (by unfold Guard; rw [hg]; exact ⟨d, hd, .inr ⟨⟨_, hc⟩, rfl⟩⟩) h
        · exact h.elim
      · exact h.elim

theorem Walk.congr {ops : List Oper} {m0 : List Blk} {ph ph' : Nat → Bool} (e : ∀ k, ph k = ph' k) {l : List Oper} {t : List V} {m : List Blk} {K : List V → List Blk → Prop} (h : Walk P ng ops m0 ph l t m K) : Walk P ng ops m0 ph' l t m K := by
  rw [← show ph = ph' from funext e]; exact h

theorem evA_walk {ops : List Oper} {m0 : List Blk} : ∀ (l : List Oper) (t : List V) (m : List Blk) (K : List V → List Blk → Prop), evA P ng ops m0 l t m K → Walk P ng ops m0 (fun k => Nat.ble (firstEff l) k) l t m K
  | [], t, m, K, h => .nil h
  | o :: os, t, m, K, h => by
    by_cases he : kd o.op = .eff
    · rw [evA_cons] at h; simp only [he] at h
      exact (evOps_walk (o :: os) t m K h).congr fun k => by simp [firstEff, he]
    · have hs : firstEff (o :: os) = firstEff os + 1 := by
        rw [firstEff]
        split
        · contradiction
        · rfl
      have hph : ∀ k, Nat.ble (firstEff (o :: os)) (k + 1) = Nat.ble (firstEff os) k := by intro k; rw [hs]; rfl
      have hp0 : Nat.ble (firstEff (o :: os)) 0 = false := by rw [hs]; rfl
      have exec : Guard ops o t true → (evOne P ng (kd o.op) o.op t m0 m fun v m' => putK o.dst t v fun t' => evA P ng ops m0 os t' m' K) → Walk P ng ops m0 (fun k => Nat.ble (firstEff (o :: os)) k) (o :: os) t m K := by
        intro hg h
        cases hk : kd o.op with
        | eff => exact absurd hk he
        | pure =>
          simp only [evOne, hk] at h
          obtain ⟨v, m', h1, h2⟩ := evOp_det h
          rw [putK_L] at h1
          have h2' : evOp P ng o.op t m0 fun a b => a = v ∧ b = m0 := by
            rw [pure_any hk t m0 [] _] at h2 ⊢
            exact evOp_mono (fun a b ⟨h, _⟩ => ⟨h, rfl⟩) h2
          exact .cons (m' := m) ⟨hg, by simp, fun _ _ _ => ⟨h2', rfl⟩, fun _ _ h => by rw [hk] at h; exact absurd h (by simp), fun _ => he, fun _ h => by rw [hp0] at h; exact absurd h (by simp)⟩ ((evA_walk os _ m K h1).congr fun k => (hph k).symm)
        | quiet =>
          simp only [evOne, hk] at h
          obtain ⟨v, h1, h2⟩ := evQ_det h
          rw [putK_L] at h1
          exact .cons (m' := m) ⟨hg, by simp, fun _ _ _ => ⟨h2, rfl⟩, fun _ _ h => by rw [hk] at h; exact absurd h (by simp), fun _ => he, fun _ h => by rw [hp0] at h; exact absurd h (by simp)⟩ ((evA_walk os _ m K h1).congr fun k => (hph k).symm)
        | mk =>
          simp only [evOne, hk] at h
          obtain ⟨v, m', h1, h2⟩ := evOp_det h
          rw [putK_L] at h1
          exact .cons ⟨hg, by simp, fun _ _ h => by rw [hk] at h; rcases h with h | h <;> exact absurd h (by simp), fun _ _ _ => h2, fun _ => he, fun _ h => by rw [hp0] at h; exact absurd h (by simp)⟩ ((evA_walk os _ m' K h1).congr fun k => (hph k).symm)
      have skip : Guard ops o t false → (putK o.dst t V.un fun t' => evA P ng ops m0 os t' m K) → Walk P ng ops m0 (fun k => Nat.ble (firstEff (o :: os)) k) (o :: os) t m K := by
        intro hg h
        rw [putK_L] at h
        exact .cons (m' := m) ⟨hg, fun _ => ⟨rfl, rfl⟩, by simp, by simp, fun _ => he, by simp⟩ ((evA_walk os _ m K h).congr fun k => (hph k).symm)
      have h : (match o.guard with
        | none => evOne P ng (kd o.op) o.op t m0 m fun v m' => putK o.dst t v fun t' => evA P ng ops m0 os t' m' K
        | some (j, want) =>
          match dstOf ops j with
          | some d => match getT t d with
            | .bool c =>
              br c
                (setT t d (.bool true) fun t => match want with
                  | true => evOne P ng (kd o.op) o.op t m0 m fun v m' => putK o.dst t v fun t' => evA P ng ops m0 os t' m' K
                  | false => putK o.dst t .un fun t' => evA P ng ops m0 os t' m K)
                (setT t d (.bool false) fun t => match want with
                  | false => evOne P ng (kd o.op) o.op t m0 m fun v m' => putK o.dst t v fun t' => evA P ng ops m0 os t' m' K
                  | true => putK o.dst t .un fun t' => evA P ng ops m0 os t' m K)
            | .raw (.tuple _) => putK o.dst t .un fun t' => evA P ng ops m0 os t' m K
            | _ => False
          | none => False) := by
        rw [evA_cons] at h
        cases hk : kd o.op <;> simp only [hk] at h <;> first | exact h | exact absurd hk he
      split at h
      · rename_i hg
        exact exec (by unfold Guard; rw [hg]) h
      · rename_i j want hg
        split at h
        · rename_i d hd
          split at h
          · rename_i c hc
            rw [br_iff] at h
            rcases h with ⟨rfl, h⟩ | ⟨rfl, h⟩ <;> rw [setT_eq, set_self hc] at h
            · cases want with
              | true => exact exec (by unfold Guard; rw [hg]; exact ⟨d, hd, .inl ⟨_, hc, rfl⟩⟩) h
              | false => exact skip (by unfold Guard; rw [hg]; exact ⟨d, hd, .inl ⟨_, hc, rfl⟩⟩) h
            · cases want with
              | true => exact skip (by unfold Guard; rw [hg]; exact ⟨d, hd, .inl ⟨_, hc, rfl⟩⟩) h
              | false => exact exec (by unfold Guard; rw [hg]; exact ⟨d, hd, .inl ⟨_, hc, rfl⟩⟩) h
          · rename_i xs hc
            exact skip (by unfold Guard; rw [hg]; exact ⟨d, hd, .inr ⟨⟨_, hc⟩, rfl⟩⟩) h
          · exact h.elim
        · exact h.elim

/-! ### Regions whose loads may come behind stores: what was loaded is looked at again behind each store -/
noncomputable def chk (P : Program) (F : List (TypeId × V × V)) (m : List Blk) : Prop → Prop :=
  List.rec (motive := fun _ => Prop → Prop) (fun K => K) (fun e _ ih K => loadV P e.1 e.2.1 m fun u => u = e.2.2 ∧ ih K) F
noncomputable def evB (P : Program) (ng : Nat) (F : List (TypeId × V × V)) (l : List Oper) : List V → List Blk → (List V → List Blk → Prop) → Prop :=
  List.rec (motive := fun _ => List V → List Blk → (List V → List Blk → Prop) → Prop) (fun t m K => K t m)
    (fun o _ ih t m K => evOp P ng o.op t m fun v m' => chk P F m' (putK o.dst t v fun t' => ih t' m' K)) l
noncomputable def evF (P : Program) (ng : Nat) (m0 : List Blk) (l : List Oper) : List (TypeId × V × V) → List V → List Blk → (List V → List Blk → Prop) → Prop :=
  List.rec (motive := fun _ => List (TypeId × V × V) → List V → List Blk → (List V → List Blk → Prop) → Prop) (fun _ t m K => K t m)
    (fun o os ih F t m K => match kd o.op with
      | .eff => evB P ng F (o :: os) t m K
      | k => evOne P ng k o.op t m0 m fun v m' => putK o.dst t v fun t' => match o.op with
        | .load ty a => fV (evO ng t a) fun av => fV v fun v => ih ((ty, av, v) :: F) t' m' K
        | _ => ih F t' m' K) l
def F1 (P : Program) (e : TypeId × V × V) (m : List Blk) : Prop := loadV P e.1 e.2.1 m fun u => u = e.2.2
theorem chk_iff {F : List (TypeId × V × V)} {m : List Blk} {K : Prop} : chk P F m K → (∀ e ∈ F, F1 P e m) ∧ K := by
  induction F with
  | nil => exact fun h => ⟨fun e he => (nomatch he), h⟩
  | cons e F ih =>
    intro h
    have h : loadV P e.1 e.2.1 m (fun u => u = e.2.2 ∧ chk P F m K) := h
    obtain ⟨u, ⟨hu, h1⟩, h2⟩ := (lin_loadV P e.1 e.2.1 m).det _ h
    rw [hu] at h2
    obtain ⟨k1, k2⟩ := ih h1
    refine ⟨fun e' he' => ?_, k2⟩
    rcases List.mem_cons.1 he' with he' | he'
    · rw [he']; exact h2
    · exact k1 e' he'
/-- What 'evF' yields. -/
def WalkF (P : Program) (ng : Nat) (ops : List Oper) (m0 : List Blk) (F : List (TypeId × V × V)) (l : List Oper) (t : List V) (m : List Blk) (K : List V → List Blk → Prop) : Prop :=
  ∃ (T : Nat → List V) (M : Nat → List Blk) (v : Nat → V), T 0 = t ∧ M 0 = m ∧ K (T l.length) (M l.length) ∧
    (∀ (k : Nat) (o : Oper), l[k]? = some o → T (k + 1) = putL o.dst (T k) (v k) ∧ Entry P ng ops m0 (Nat.ble (firstEff l) k) o (T k) (M k) true (v k) (M (k + 1))) ∧
    (∀ e ∈ F, ∀ k, firstEff l < k → k ≤ l.length → F1 P e (M k)) ∧
    ∀ (i : Nat) (o : Oper), l[i]? = some o → i < firstEff l → isLoad o = true → ∀ k, firstEff l < k → k ≤ l.length → evOp P ng o.op (T i) (M k) fun u b => u = v i ∧ b = M k
theorem firstEff_cons {o : Oper} {os : List Oper} (he : kd o.op ≠ .eff) : firstEff (o :: os) = firstEff os + 1 := by
  rw [firstEff]
  split
  · contradiction
  · rfl
theorem evB_walk {ops : List Oper} {m0 : List Blk} {F : List (TypeId × V × V)} : ∀ (l : List Oper), (∀ (k : Nat) (o : Oper), l[k]? = some o → o.guard = none) → ∀ (t : List V) (m : List Blk) (K : List V → List Blk → Prop), evB P ng F l t m K →
    ∃ (T : Nat → List V) (M : Nat → List Blk) (v : Nat → V), T 0 = t ∧ M 0 = m ∧ K (T l.length) (M l.length) ∧
    (∀ (k : Nat) (o : Oper), l[k]? = some o → T (k + 1) = putL o.dst (T k) (v k) ∧ Entry P ng ops m0 true o (T k) (M k) true (v k) (M (k + 1))) ∧
    ∀ e ∈ F, ∀ k, 0 < k → k ≤ l.length → F1 P e (M k)
  | [], _, t, m, K, h => ⟨fun _ => t, fun _ => m, fun _ => V.un, rfl, rfl, h, by simp, fun e _ k h1 h2 => by simp at h2; omega⟩
  | o :: os, hg, t, m, K, h => by
    have h : evOp P ng o.op t m (fun v m' => chk P F m' (putK o.dst t v fun t' => evB P ng F os t' m' K)) := h
    obtain ⟨u, m', h1, h2⟩ := evOp_det h
    obtain ⟨c1, c2⟩ := chk_iff h1
    rw [putK_L] at c2
    obtain ⟨T, M, v, e1, e2, e3, e4, e5⟩ := evB_walk (ops := ops) (m0 := m0) os (fun k o h => hg (k + 1) o (by simpa using h)) _ m' K c2
    refine ⟨fun | 0 => t | k + 1 => T k, fun | 0 => m | k + 1 => M k, fun | 0 => u | k + 1 => v k, rfl, rfl, e3, ?_, ?_⟩
    · intro k o' ho
      cases k with
      | zero =>
        simp only [List.getElem?_cons_zero, Option.some.injEq] at ho
        subst ho
        simp only [e1, e2]
        exact ⟨trivial, ⟨by unfold Guard; rw [hg 0 o rfl], by simp, by simp, by simp, by simp, fun _ _ => h2⟩⟩
      | succ k => exact e4 k o' (by simpa using ho)
    · intro e he k h1 h2
      obtain ⟨k, rfl⟩ : ∃ j, k = j + 1 := ⟨k - 1, by omega⟩
      cases k with
      | zero => simp only [e2]; exact c1 e he
      | succ k => exact e5 e he (k + 1) (by omega) (by simpa using h2)
theorem evF_walk {ops : List Oper} {m0 : List Blk} : ∀ (l : List Oper), (∀ (k : Nat) (o : Oper), l[k]? = some o → o.guard = none) → ∀ (F : List (TypeId × V × V)) (t : List V) (m : List Blk) (K : List V → List Blk → Prop), evF P ng m0 l F t m K → WalkF P ng ops m0 F l t m K
  | [], _, F, t, m, K, h => ⟨fun _ => t, fun _ => m, fun _ => V.un, rfl, rfl, h, by simp, fun e _ k h1 h2 => by simp at h2; omega, by simp⟩
  | o :: os, hg, F, t, m, K, h => by
    by_cases he : kd o.op = .eff
    · have h : evB P ng F (o :: os) t m K := by
        have h : (match kd o.op with
          | .eff => evB P ng F (o :: os) t m K
          | k => evOne P ng k o.op t m0 m fun v m' => putK o.dst t v fun t' => match o.op with
            | .load ty a => fV (evO ng t a) fun av => fV v fun v => evF P ng m0 os ((ty, av, v) :: F) t' m' K
            | _ => evF P ng m0 os F t' m' K) := h
        rw [he] at h; exact h
      obtain ⟨T, M, v, e1, e2, e3, e4, e5⟩ := evB_walk (ops := ops) (m0 := m0) (o :: os) hg t m K h
      have hf : firstEff (o :: os) = 0 := by simp [firstEff, he]
      exact ⟨T, M, v, e1, e2, e3, fun k o' ho => by rw [hf]; exact e4 k o' ho, by rw [hf]; exact e5, fun i o' ho hi => by omega⟩
    · have hs := firstEff_cons (os := os) he
      have h : evOne P ng (kd o.op) o.op t m0 m fun v m' => putK o.dst t v fun t' => match o.op with
            | .load ty a => fV (evO ng t a) fun av => fV v fun v => evF P ng m0 os ((ty, av, v) :: F) t' m' K
            | _ => evF P ng m0 os F t' m' K := by
        have h : (match kd o.op with
          | .eff => evB P ng F (o :: os) t m K
          | k => evOne P ng k o.op t m0 m fun v m' => putK o.dst t v fun t' => match o.op with
            | .load ty a => fV (evO ng t a) fun av => fV v fun v => evF P ng m0 os ((ty, av, v) :: F) t' m' K
            | _ => evF P ng m0 os F t' m' K) := h
        cases hk : kd o.op <;> simp only [hk] at h <;> first | exact h | exact absurd hk he
      have hg0 : Guard ops o t true := by unfold Guard; rw [hg 0 o rfl]
      -- one value, one memory
      have one : ∃ u m', Entry P ng ops m0 false o t m true u m' ∧ (match o.op with
            | .load ty a => fV (evO ng t a) fun av => fV u fun v => evF P ng m0 os ((ty, av, v) :: F) (putL o.dst t u) m' K
            | _ => evF P ng m0 os F (putL o.dst t u) m' K) := by
        cases hk : kd o.op with
        | eff => exact absurd hk he
        | pure =>
          simp only [evOne, hk] at h
          obtain ⟨v, m', h1, h2⟩ := evOp_det h
          rw [putK_L] at h1
          have h2' : evOp P ng o.op t m0 fun a b => a = v ∧ b = m0 := by
            rw [pure_any hk t m0 [] _] at h2 ⊢
            exact evOp_mono (fun a b ⟨h, _⟩ => ⟨h, rfl⟩) h2
          exact ⟨v, m, ⟨hg0, by simp, fun _ _ _ => ⟨h2', rfl⟩, fun _ _ h => by rw [hk] at h; exact absurd h (by simp), fun _ => he, by simp⟩, h1⟩
        | quiet =>
          simp only [evOne, hk] at h
          obtain ⟨v, h1, h2⟩ := evQ_det h
          rw [putK_L] at h1
          exact ⟨v, m, ⟨hg0, by simp, fun _ _ _ => ⟨h2, rfl⟩, fun _ _ h => by rw [hk] at h; exact absurd h (by simp), fun _ => he, by simp⟩, h1⟩
        | mk =>
          simp only [evOne, hk] at h
          obtain ⟨v, m', h1, h2⟩ := evOp_det h
          rw [putK_L] at h1
          exact ⟨v, m', ⟨hg0, by simp, fun _ _ h => by rw [hk] at h; rcases h with h | h <;> exact absurd h (by simp), fun _ _ _ => h2, fun _ => he, by simp⟩, h1⟩
      obtain ⟨u, m', E, hrest⟩ := one
      have hgs : ∀ (k : Nat) (o : Oper), os[k]? = some o → o.guard = none := fun k o h => hg (k + 1) o (by simpa using h)
      -- what is recorded
      have rest : ∃ F', (∀ e ∈ F, e ∈ F') ∧ (∀ ty a, o.op = .load ty a → (ty, evO ng t a, u) ∈ F') ∧ evF P ng m0 os F' (putL o.dst t u) m' K := by
        cases ho : o.op
        case load ty a =>
          simp only [ho, fV_eq] at hrest
          exact ⟨_, fun e he => List.mem_cons_of_mem _ he, fun ty' a' h => by injection h with h1 h2; subst h1; subst h2; exact List.mem_cons_self .., hrest⟩
        all_goals
          simp only [ho] at hrest
          exact ⟨F, fun e he => he, fun ty a h => by simp at h, hrest⟩
      obtain ⟨F', hF, hld, hrest⟩ := rest
      obtain ⟨T, M, v, e1, e2, e3, e4, e5, e6⟩ := evF_walk (ops := ops) os hgs F' _ m' K hrest
      refine ⟨fun | 0 => t | k + 1 => T k, fun | 0 => m | k + 1 => M k, fun | 0 => u | k + 1 => v k, rfl, rfl, e3, ?_, ?_, ?_⟩
      · intro k o' ho
        rw [hs]
        cases k with
        | zero =>
          simp only [List.getElem?_cons_zero, Option.some.injEq] at ho
          subst ho
          simp only [e1, e2]
          exact ⟨trivial, E⟩
        | succ k => exact e4 k o' (by simpa using ho)
      · intro e he k h1 h2
        rw [hs] at h1
        obtain ⟨k, rfl⟩ : ∃ j, k = j + 1 := ⟨k - 1, by omega⟩
        exact e5 e (hF e he) k (by omega) (by simpa using h2)
      · intro i o' ho hi hl k h1 h2
        rw [hs] at h1 hi
        obtain ⟨k, rfl⟩ : ∃ j, k = j + 1 := ⟨k - 1, by omega⟩
        cases i with
        | zero =>
          simp only [List.getElem?_cons_zero, Option.some.injEq] at ho
          subst ho
          cases hop : o.op
          case load ty a =>
            have := e5 _ (hld ty a hop) k (by omega) (by simpa using h2)
            simp only [evOp]
            exact (lin_loadV P ty (evO ng t a) (M k)).mono _ (fun b => b = u ∧ True) (fun b hb => ⟨hb, trivial⟩) this
          all_goals simp [isLoad, hop] at hl
        | succ i => exact e6 i o' (by simpa using ho) (by omega) hl k (by omega) (by simpa using h2)

/-! ### New blocks, whatever memory lies before them -/
inductive Sh where
  | ptr | sl (n : Nat)
def mkV : Sh → Nat → V
  | .ptr, i => .ptr i 0
  | .sl n, i => .sl i 0 n
def mkX : Sh → Nat → Value
  | .ptr, p => .pointer (some ⟨p, 0, none⟩)
  | .sl n, p => .slice (some ⟨p, 0, none⟩) n n
theorem Rv_mk {n : Nat} {g : Nat → Pl} {sh : Sh} {i p : Nat} (hi : i < n) (hg : g i = ⟨p, 0, 0, 0⟩) : Rv n g (mkV sh i) (mkX sh p) := by
  cases sh with
  | ptr => simp [mkV, mkX, Rv, hg, hi]
  | sl k => unfold mkV mkX; unfold Rv; rw [hg]; exact ⟨hi, rfl, _, _, rfl, Nat.le_refl _, fun _ => rfl⟩
theorem mk_spec {op : Op} (hk : kd op = .mk) {t : List V} {m : List Blk} {v : V} {m' : List Blk} (h : evOp P ng op t m fun a b => a = v ∧ b = m') :
    ∃ sh cs, v = mkV sh m.length ∧ m' = m ++ [⟨true, .cells cs⟩] ∧
      ∀ {g : Nat → Pl} {t1 : List V} {m1 : List Blk} {a : Act} {w : World} (o : Oper), o.op = op → Sim ng g t1 m1 a w → (∀ x ∈ op.operands, evO ng t x = evO ng t1 x) →
        ∃ c e, (execOp a.eval o).run P w = .ok (.value (mkX sh w.heap.size)) { w with heap := w.heap.push (.cells c e) } ∧ Rvs m1.length g cs c.toList := by
  cases op <;> try (simp [kd] at hk; done)
  case alloc e =>
    simp only [evOp] at h
    split at h
    · rename_i z hz
      obtain ⟨h1, h2⟩ := br_F h
      rw [addB_eq] at h2
      refine ⟨.ptr, z, h2.1.symm, h2.2.symm, fun {g t1 m1 a w} o ho S _ => ?_⟩
      obtain ⟨x, h3, h4⟩ := run_zeroValue w hz
      exact ⟨x.cells, e, by simp [execOp, ho, Instr.alloc, h3, newVar, newRow, mkX], h4 _ _⟩
    · exact h.elim
  case box e x =>
    simp only [evOp, fV_eq] at h
    obtain ⟨h1, h2⟩ := br_F h
    rw [addB_eq] at h2
    refine ⟨.ptr, _, h2.1.symm, h2.2.symm, fun {g t1 m1 a w} o ho S hx => ?_⟩
    have hxx := hx x (by simp [Op.operands])
    rw [hxx] at h1 ⊢
    exact ⟨(a.eval x).cells, e, by simp [execOp, ho, Instr.box, newVar, newRow, mkX], Rvs_cells (eval_Rv S x) h1⟩
  case buildSlice ty n ps =>
    simp only [evOp] at h
    cases hu : P.underlying ty with
    | none => simp [hu, sliceD] at h
    | some d =>
      cases d <;> simp only [hu, sliceD] at h <;> try exact h.elim
      rename_i e
      split at h
      · rename_i z hz hp hle
        obtain ⟨h1, h2⟩ := br_F h
        rw [evParts_eq] at h2
        obtain ⟨cs, h3, h4⟩ := (lin_fillV _ _ _).det _ h2
        obtain ⟨h5, h6⟩ := br_F h3
        rw [addB_eq] at h6
        refine ⟨.sl n, cs, h6.1.symm, h6.2.symm, fun {g t1 m1 a w} o ho S hx => ?_⟩
        have hr := parts_rel S ps
        have hparts : (ps.toList.map fun p => (p.1, evO ng t p.2)) = ps.toList.map fun p => (p.1, evO ng t1 p.2) :=
          List.map_congr_left fun p hp => by rw [hx p.2 (by simp only [Op.operands, List.mem_toArray, List.mem_map]; exact ⟨p, hp, rfl⟩)]
        rw [hparts] at h4
        obtain ⟨zv, q1, q2⟩ := run_zeroValue w hz
        have hp : 0 < n * P.cellsOf e := by simpa using hp
        have hle : n * P.cellsOf e ≤ 2 ^ 24 := by simpa using hle
        have h1 : 0 < z.length := by simpa [lenL_eq] using h1
        have hzl := Rvs_length (q2 m1.length g)
        rw [Array.length_toList] at hzl
        have hrow : Rvs m1.length g ((List.range (n * P.cellsOf e)).map fun j => getT z (j % lenL z)) ((Array.range (n * P.cellsOf e)).map (zv.cells[· % zv.cells.size]!)).toList := by
          rw [Array.toList_map, Array.toList_range]
          refine Rvs_map _ _ _ (fun j _ => ?_)
          rw [getT_eq, lenL_eq, ← hzl]
          have hjm : j % zv.cells.size < zv.cells.size := Nat.mod_lt _ (by omega)
          have := Rvs_getD (q2 m1.length g) (j % zv.cells.size)
          rw [getElem!_pos zv.cells _ hjm]
          simpa [List.getD_eq_getElem?_getD, hjm] using this
        obtain ⟨z', cells', k1, k2, k3⟩ := fillV_sound _ (ps.map fun (i, x) => (i, a.eval x)).toList _ _ hr.1 hr.2 hrow h4
        subst k3
        have hcp : 0 < P.cellsOf e := Nat.pos_of_mul_pos_left hp
        obtain ⟨inf, hinf⟩ := info_of_pos hcp
        refine ⟨cells', e, ?_, k2⟩
        simp only [execOp, ho, Instr.buildSlice, Sem.run_bind, run_underlying' w hu, Result.andThen_ok, run_sizeOf w hinf, Sem.run_ite]
        rw [if_neg (by omega), if_neg (by omega)]
        simp only [Sem.run_bind, q1, Result.andThen_ok, Sem.run_pure, k1, newRow, run_newObj, mkX]
      · exact h.elim
  case call c =>
    exfalso
    obtain ⟨callee, args, ats⟩ := c
    cases callee with
    | value f => simp [kd] at hk
    | invoke r n => simp [kd] at hk
    | builtin b => cases b <;> simp [kd] at hk
end
end Go.Eng
