import Derived.Test.YtgoljofmbidkfaaGreatDoorE11
/- The engine: parts 13 to 15. No condition. -/
/- The engine, part 13: an operation has one result ('Lin'); operations that touch no memory. No condition. -/
namespace Go.Eng
open Go

/-- 'F' goes on at one place alone. -/
structure Lin {α : Type} (F : (α → Prop) → Prop) : Prop where
  mono : ∀ K K', (∀ a, K a → K' a) → F K → F K'
  det : ∀ K, F K → ∃ a, K a ∧ F (fun b => b = a)
section
variable {α β : Type}
theorem lin_ret (v : α) : Lin (fun K : α → Prop => K v) := ⟨fun _ _ h k => h _ k, fun _ h => ⟨v, h, rfl⟩⟩
theorem lin_false : Lin (fun _ : α → Prop => False) := ⟨fun _ _ _ h => h, fun _ h => h.elim⟩
theorem lin_br {c : Bool} {F : (α → Prop) → Prop} (h : Lin F) : Lin (fun K => br c (F K) False) := by
  cases c
  · exact lin_false
  · exact h
theorem lin_br2 {c : Bool} {F G : (α → Prop) → Prop} (h : Lin F) (h' : Lin G) : Lin (fun K => br c (F K) (G K)) := by
  cases c
  · exact h'
  · exact h
theorem lin_and {p : Prop} {F : (α → Prop) → Prop} (h : Lin F) : Lin (fun K => p ∧ F K) :=
  ⟨fun _ _ hk ⟨h1, h2⟩ => ⟨h1, h.mono _ _ hk h2⟩, fun K ⟨h1, h2⟩ => by
    obtain ⟨a, h3, h4⟩ := h.det _ h2
    exact ⟨a, h3, h1, h4⟩⟩
theorem lin_map {F : (α → Prop) → Prop} (f : α → β) (h : Lin F) : Lin (fun K : β → Prop => F (fun a => K (f a))) :=
  ⟨fun K K' hk hf => h.mono _ _ (fun a => hk _) hf, fun K hf => by
    obtain ⟨a, h1, h2⟩ := h.det _ hf
    exact ⟨f a, h1, h.mono _ _ (fun b hb => by rw [hb]) h2⟩⟩
theorem lin_bind {F : (α → Prop) → Prop} {G : α → (β → Prop) → Prop} (h : Lin F) (hg : ∀ a, Lin (G a)) : Lin (fun K : β → Prop => F (fun a => G a K)) :=
  ⟨fun K K' hk hf => h.mono _ _ (fun a => (hg a).mono _ _ hk) hf, fun K hf => by
    obtain ⟨a, h1, h2⟩ := h.det _ hf
    obtain ⟨b, h3, h4⟩ := (hg a).det _ h1
    exact ⟨b, h3, h.mono _ _ (fun c hc => by rw [hc]; exact h4) h2⟩⟩
theorem lin_ex {γ : Type} {Q : γ → Prop} {G : γ → (β → Prop) → Prop} (hg : ∀ a, Lin (G a)) : Lin (fun K : β → Prop => ∃ a, Q a ∧ G a K) :=
  ⟨fun K K' hk ⟨a, h1, h2⟩ => ⟨a, h1, (hg a).mono _ _ hk h2⟩, fun K ⟨a, h1, h2⟩ => by
    obtain ⟨b, h3, h4⟩ := (hg a).det _ h2
    exact ⟨b, h3, a, h1, h4⟩⟩
theorem lin_fV (v : V) : Lin (fV v) := by rw [show fV v = fun K => K v from funext (fV_eq v)]; exact lin_ret v
theorem lin_fVs (v : List V) : Lin (fVs v) := by rw [show fVs v = fun K => K v from funext (fVs_eq v)]; exact lin_ret v
theorem lin_evArgs (ng : Nat) (t : List V) (os : List Operand) : Lin (evArgs ng t os) := by rw [show evArgs ng t os = _ from funext (evArgs_eq ng t os)]; exact lin_ret _
theorem lin_evParts (ng : Nat) (t : List V) (os : List (Nat × Operand)) : Lin (evParts ng t os) := by rw [show evParts ng t os = _ from funext (evParts_eq ng t os)]; exact lin_ret _
theorem lin_rd1 (b : B) (off : Nat) : Lin (rd1 b off) := by
  cases b with
  | dead => exact lin_false
  | cells cs => exact lin_br (lin_fV _)
  | ints k l => exact lin_br (lin_ret _)
  | flts l => exact lin_br (lin_ret _)
  | bools l => exact lin_br (lin_ret _)
  | gcells v cs => exact lin_br (lin_fV _)
  | gints v k l => exact lin_br (lin_ret _)
  | gflts v l => exact lin_br (lin_ret _)
  | mpI f => exact lin_false
theorem lin_rdN (b : B) : ∀ n off, Lin (rdN b off n)
  | 0, _ => lin_ret _
  | n + 1, off => by
    show Lin (fun K => rd1 b off fun v => rdN b (off + 1) n fun vs => K (v :: vs))
    exact lin_bind (lin_rd1 b off) fun _ => lin_map _ (lin_rdN b n (off + 1))
theorem lin_wr1 (b : B) (off : Nat) (v : V) : Lin (wr1 b off v) := by
  have hset : ∀ cs : List V, Lin (fun K => setT cs off v fun cs => K (B.cells cs)) := fun cs => by
    rw [show (fun K : B → Prop => setT cs off v fun cs => K (B.cells cs)) = fun K => K (B.cells (cs.set off v)) from funext fun K => setT_eq _ _ _ _]
    exact lin_ret _
  cases b with
  | dead => cases v <;> exact lin_false
  | cells cs => cases v <;> exact lin_br (hset cs)
  | ints k l => cases v <;> first | exact lin_br (lin_ret _) | exact lin_false
  | flts l =>
    cases v with
    | fl o => cases o with
      | none => exact lin_false
      | some b => exact lin_br (lin_ret _)
    | _ => exact lin_false
  | bools l => cases v <;> first | exact lin_br (lin_ret _) | exact lin_false
  | gcells w cs =>
    have hset : Lin (fun K => setT cs off v fun cs => K (B.gcells w cs)) := by
      rw [show (fun K : B → Prop => setT cs off v fun cs => K (B.gcells w cs)) = fun K => K (B.gcells w (cs.set off v)) from funext fun K => setT_eq _ _ _ _]
      exact lin_ret _
    cases v <;> exact lin_br hset
  | gints w k l => cases v <;> first | exact lin_br (lin_ret _) | exact lin_false
  | gflts w l =>
    cases v with
    | fl o => cases o with
      | none => exact lin_false
      | some b => exact lin_br (lin_ret _)
    | _ => exact lin_false
  | mpI f => cases v <;> exact lin_false
theorem lin_wrN : ∀ (vs : List V) (b : B) (off : Nat), Lin (wrN b off vs)
  | [], _, _ => lin_ret _
  | v :: vs, b, off => by
    show Lin (fun K => wr1 b off v fun b => wrN b (off + 1) vs K)
    exact lin_bind (lin_wr1 b off v) fun b => lin_wrN vs b (off + 1)
theorem lin_partV (P : Program) (t : TypeId) (cs : List V) (off : Nat) : Lin (partV P t cs off) := by
  unfold partV
  cases isAggD (P.underlying t) with
  | true => exact lin_br (lin_map _ (lin_fVs _))
  | false =>
    cases P.underlying t with
    | none => exact lin_false
    | some _ => exact lin_br (lin_fV _)
theorem lin_fillV (place : Nat → Option (Nat × Nat)) : ∀ (ps : List (Nat × V)) (z : List V), Lin (fillV place z ps)
  | [], _ => lin_ret _
  | (i, v) :: ps, z => by
    show Lin (fun K => match place i with
      | some (off, sz) => br (Nat.beq (lenL v.cellsL) sz && Nat.ble (off + lenL v.cellsL) (lenL z) && allOne v.cellsL) (fVs (pasteL z off v.cellsL) fun z => fillV place z ps K) False
      | none => False)
    cases place i with
    | none => exact lin_false
    | some p => exact lin_br (lin_bind (lin_fVs _) fun z => lin_fillV place ps z)
theorem lin_evBin (op : BinOp) (x y : V) : Lin (evBin op x y) := by
  cases x with
  | int k a =>
    cases y with
    | int k' b => cases op <;> first | exact lin_false | exact lin_br (lin_ret _) | exact lin_br (lin_br (lin_ret _))
    | _ => cases op <;> exact lin_false
  | fl a =>
    cases y with
    | fl b => cases op <;> first | exact lin_false | exact lin_ret _
    | _ => cases op <;> exact lin_false
  | _ => cases op <;> exact lin_false
theorem lin_evEq (P : Program) (t : TypeId) (x y : V) : Lin (evEq P t x y) := by
  unfold evEq
  split
  · split
    · exact lin_ex (fun b => lin_ret b)
    · cases P.eqGuardType P.depth t with
      | true => exact lin_false
      | false =>
        cases eqT P 6 t _ _ with
        | none => exact lin_false
        | some b => exact lin_ret b
  · cases isPtrD (P.underlying t) with
    | true => exact lin_ret _
    | false => exact lin_false
  · cases isPtrD (P.underlying t) with
    | true => exact lin_ret _
    | false => exact lin_false
  · cases isPtrD (P.underlying t) with
    | true => exact lin_ret _
    | false => exact lin_false
  · cases isSlcD (P.underlying t) with
    | true => exact lin_br (lin_ret _)
    | false => exact lin_false
  · cases isSlcD (P.underlying t) with
    | true => exact lin_br (lin_ret _)
    | false => exact lin_false
  · cases isSlcD (P.underlying t) with
    | true => exact lin_ret _
    | false => exact lin_false
  · cases isSlcD (P.underlying t) with
    | true => exact lin_ret _
    | false => exact lin_false
  · cases isSlcD (P.underlying t) with
    | true => exact lin_ret _
    | false => exact lin_false
  · exact lin_false
theorem lin_evBinary (P : Program) (op : BinOp) (t : TypeId) (x y : V) : Lin (evBinary P op t x y) := by
  unfold evBinary
  split
  · cases P.underlying t with
    | none => exact lin_false
    | some d => cases d <;> first | exact lin_ret _ | exact lin_false
  · cases P.underlying t with
    | none => exact lin_false
    | some d => cases d <;> first | exact lin_ret _ | exact lin_false
  · exact lin_map _ (lin_evEq P t _ _)
  · exact lin_map _ (lin_evEq P t _ _)
  · exact lin_map _ (lin_evEq P t _ _)
  · exact lin_map _ (lin_evEq P t _ _)
  · exact lin_map _ (lin_evEq P t _ _)
  · exact lin_map _ (lin_evEq P t _ _)
  · exact lin_map _ (lin_evEq P t _ _)
  · exact lin_map _ (lin_evEq P t _ _)
  · exact lin_map _ (lin_evEq P t _ _)
  · exact lin_map _ (lin_evEq P t _ _)
  · exact lin_map _ (lin_evEq P t _ _)
  · exact lin_map _ (lin_evEq P t _ _)
  · exact lin_evBin _ _ _
theorem lin_evUn (op : UnOp) (x : V) : Lin (evUn op x) := by
  cases op <;> cases x <;> first | exact lin_ret _ | exact lin_false
theorem lin_evConv (P : Program) (s d : TypeId) (x : V) : Lin (evConv P s d x) := by
  unfold evConv
  split
  · exact lin_ret _
  · exact lin_ret _
  · exact lin_ex (fun a => lin_ret _)
  · exact lin_ret _
  · exact lin_false
theorem lin_loadV (P : Program) (t : TypeId) (a : V) (m : List Blk) : Lin (loadV P t a m) := by
  have key : ∀ (i off : Nat), Lin (fun K => match isAggD (P.underlying t) with
      | true => rdN (getB m i).b off (P.cellsOf t) fun cs => K (.agg cs)
      | false => match P.underlying t with
        | some _ => rd1 (getB m i).b off K
        | none => False) := by
    intro i off
    cases hag : isAggD (P.underlying t) with
    | true => simp only; exact lin_map _ (lin_rdN _ _ _)
    | false =>
      simp only
      cases P.underlying t with
      | none => exact lin_false
      | some _ => exact lin_rd1 _ _
  unfold loadV
  cases a with
  | ptr i off => exact key i off
  | gp i v off => exact lin_and (key i off)
  | _ => exact lin_false
theorem lin_setB (m : List Blk) (i : Nat) (b : Blk) : Lin (setB m i b) := by rw [show setB m i b = _ from funext (setB_eq m i b)]; exact lin_ret _
theorem lin_storeV (P : Program) (t : TypeId) (a v : V) (m : List Blk) : Lin (storeV P t a v m) := by
  have key : ∀ (i off : Nat), Lin (fun K => match (getB m i).w, (getB m i).b.row, Nat.beq (lenL v.cellsL) (P.cellsOf t), P.info? t with
    | true, true, true, some _ => wrN (getB m i).b off v.cellsL fun b => setB m i ⟨true, b⟩ K
    | _, _, _, _ => False) := by
    intro i off
    split
    · exact lin_bind (lin_wrN _ _ _) fun b => lin_setB _ _ _
    · exact lin_false
  unfold storeV
  cases a with
  | ptr i off => exact key i off
  | gp i u off => exact lin_and (key i off)
  | _ => exact lin_false
theorem lin_boundV (ng : Nat) (t : List V) (lo hi : Nat) (o : Option Operand) (d : Nat) : Lin (boundV ng t lo hi o d) := by
  cases o with
  | none => exact lin_ret _
  | some o =>
    show Lin (fun K => match evO ng t o with
      | .int _ i => br (decide ((lo : Int) ≤ i ∧ i ≤ (hi : Int))) (K i.toNat) False
      | _ => False)
    cases evO ng t o <;> first | exact lin_br (lin_ret _) | exact lin_false
theorem lin_lenV (P : Program) (t : TypeId) (x : V) : Lin (lenV P t x) := by
  unfold lenV
  split
  · exact lin_ret _
  · exact lin_ret _
  · exact lin_ret _
  · exact lin_ret _
  · exact lin_ret _
  · exact lin_false
theorem lin_segB (b : B) (off n : Nat) : Lin (segB b off n) := by
  have cells : Lin (fun K : B → Prop => rdN b off n fun cs => br (allOne cs) (K (.cells cs)) False) := lin_bind (lin_rdN _ _ _) fun cs => lin_br (lin_ret _)
  cases b with
  | ints k l => exact lin_br (lin_ret _)
  | flts l => exact lin_br (lin_ret _)
  | gints v k l => exact lin_br (lin_ret _)
  | gflts v l => exact lin_br (lin_ret _)
  | _ => exact cells
theorem lin_srcV (es : Nat) (x : V) (m : List Blk) : Lin (fun K : Nat × B → Prop => srcV es x m fun n b => K (n, b)) := by
  unfold srcV
  split
  · exact lin_map _ (lin_segB _ _ _)
  · exact lin_map _ (lin_segB _ _ _)
  · exact lin_and (lin_map _ (lin_segB _ _ _))
  · exact lin_ret _
  · exact lin_false
theorem lin_growNew (z : Zero) (b : B) : Lin (growNew z b) := by
  unfold growNew
  split
  · split
    · exact lin_ret _
    · exact lin_false
  · split
    · exact lin_ret _
    · exact lin_false
  · exact lin_ret _
  · split
    · exact lin_ret _
    · exact lin_false
  · exact lin_ret _
  · exact lin_ret _
  · exact lin_false
theorem lin_growB (b c : B) : Lin (growB b c) := by
  unfold growB
  split
  · split
    · exact lin_ret _
    · exact lin_false
  · split
    · exact lin_ret _
    · exact lin_false
  · exact lin_ret _
  · split
    · exact lin_ret _
    · exact lin_false
  · exact lin_ret _
  · exact lin_false
theorem lin_catB (b c : B) : Lin (catB b c) := by
  unfold catB
  split
  · split
    · exact lin_ret _
    · exact lin_false
  · split
    · exact lin_ret _
    · exact lin_false
  · exact lin_ret _
  · split
    · exact lin_ret _
    · exact lin_false
  · exact lin_ret _
  · exact lin_ret _
  · exact lin_ret _
  · exact lin_false
theorem lin_pasteB (b : B) (off : Nat) (c : B) : Lin (pasteB b off c) := by
  unfold pasteB
  split
  · exact lin_br (lin_ret _)
  · split
    · exact lin_br (lin_ret _)
    · exact lin_false
  · exact lin_br (lin_ret _)
  · split
    · exact lin_br (lin_ret _)
    · exact lin_false
  · exact lin_br (lin_ret _)
  · exact lin_false
theorem lin_addB {α : Type} (m : List Blk) (b : Blk) (f : Nat → List Blk → α) : Lin (fun K : α → Prop => addB m b fun n m => K (f n m)) := by
  rw [show (fun K : α → Prop => addB m b fun n m => K (f n m)) = fun K => K (f m.length (m ++ [b])) from funext fun K => addB_eq _ _ _]
  exact lin_ret _
theorem lin_src {α : Type} {G : Nat → B → (α → Prop) → Prop} (es : Nat) (x : V) (m : List Blk) (hg : ∀ n b, Lin (G n b)) : Lin (fun K : α → Prop => srcV es x m fun n b => G n b K) :=
  lin_bind (G := fun p K => G p.1 p.2 K) (lin_srcV es x m) fun p => hg p.1 p.2
theorem lin_appendV (P : Program) (ty : TypeId) (s x : V) (m : List Blk) : Lin (fun K : V × List Blk → Prop => appendV P ty s x m fun v m => K (v, m)) := by
  unfold appendV
  split
  · split
    · refine lin_br (lin_src _ _ _ fun n c => ?_)
      split
      · exact lin_and (lin_bind (lin_growNew _ _) fun b => lin_addB _ _ fun i m => (V.gs i 0 _ _, m))
      · refine lin_and ?_
        split
        · exact lin_bind (lin_growB _ _) fun b => lin_map (fun m => (V.gs _ _ _ _, m)) (lin_setB _ _ _)
        · exact lin_false
      · refine lin_and (lin_br2 ?_ ?_)
        · split
          · exact lin_bind (lin_pasteB _ _ _) fun b => lin_map (fun m => (V.sk _ _ _ _, m)) (lin_setB _ _ _)
          · exact lin_false
        · exact lin_bind (lin_segB _ _ _) fun d => lin_bind (lin_catB _ _) fun c => lin_bind (lin_growNew _ _) fun b => lin_addB _ _ fun i m => (V.gs i 0 _ _, m)
      · exact lin_false
    · exact lin_false
  · exact lin_false
theorem lin_copyV (P : Program) (ty : TypeId) (d x : V) (m : List Blk) : Lin (fun K : V × List Blk → Prop => copyV P ty d x m fun v m => K (v, m)) := by
  unfold copyV
  split
  · refine lin_br ?_
    split
    · refine lin_bind (lin_segB _ _ _) fun c => ?_
      split
      · exact lin_bind (lin_pasteB _ _ _) fun b => lin_map (fun m => (V.int .i64 _, m)) (lin_setB _ _ _)
      · exact lin_false
    · exact lin_false
  · exact lin_false
theorem lin_lookupV (P : Program) (ty : TypeId) (x k : V) (ok : Bool) (m : List Blk) : Lin (lookupV P ty x k ok m) := by
  unfold lookupV
  split
  · refine lin_and ?_
    split
    · unfold lookV
      split
      · split
        · exact lin_ret _
        · exact lin_ret _
      · split
        · exact lin_ret _
        · exact lin_ret _
    · exact lin_false
  · exact lin_false
theorem lin_mapUpdV (P : Program) (ty : TypeId) (x k v : V) (m : List Blk) : Lin (mapUpdV P ty x k v m) := by
  unfold mapUpdV
  split
  · refine lin_and ?_
    split
    · exact lin_setB _ _ _
    · exact lin_false
  · exact lin_false
theorem lin_maxV (gt : Bool) : ∀ (l : List V) (x : V), Lin (maxV gt l x)
  | [], x => lin_ret _
  | v :: l, x => by
    cases v <;> cases x <;> first
      | (cases gt
         · exact lin_br (lin_maxV false l _)
         · exact lin_br (lin_maxV true l _))
      | exact lin_false
theorem lin_mmV (gt : Bool) (l : List V) : Lin (mmV gt l) := by
  cases l with
  | nil => exact lin_false
  | cons v l => cases v <;> first | exact lin_maxV gt l _ | exact lin_false
theorem lin_zrow (P : Program) (e : TypeId) (n : Nat) : Lin (zrow P e n) := by
  unfold zrow
  cases zeroL P e with
  | none => exact lin_false
  | some z =>
    simp only
    split
    · exact lin_ret _
    · exact lin_ret _
    · exact lin_ret _
    · exact lin_false

/-- The same for a result and the memory behind it. -/
def Two (P : Program) (ng : Nat) (op : Op) (t : List V) (m : List Blk) : (V × List Blk → Prop) → Prop := fun K => evOp P ng op t m fun v m' => K (v, m')
theorem lin_pick {α : Type} (s : Bool) (i l c : Nat) (f : V → α) : Lin (fun K : α → Prop => pickSl s i l c fun v => K (f v)) := by
  cases s with
  | false => exact lin_ret _
  | true => exact ⟨fun K K' h k => Or.imp (h _) (h _) k, fun K h => by
      rcases h with h | h
      · exact ⟨_, h, .inl rfl⟩
      · exact ⟨_, h, .inr rfl⟩⟩
theorem lin_op (P : Program) (ng : Nat) (op : Op) (t : List V) (m : List Blk) : Lin (Two P ng op t m) := by
  have two : ∀ {F : (V → Prop) → Prop}, Lin F → Lin (fun K : V × List Blk → Prop => F fun v => K (v, m)) := fun h => lin_map _ h
  unfold Two
  cases op <;> try exact lin_false
  case move x => exact two (lin_fV _)
  case assign x => exact two (lin_fV _)
  case pick c x y =>
    show Lin (fun K => match evO ng t c with
      | .bool true => fV (evO ng t x) fun v => K (v, m)
      | .bool false => fV (evO ng t y) fun v => K (v, m)
      | _ => False)
    cases evO ng t c with
    | bool b => cases b <;> exact two (lin_fV _)
    | _ => exact lin_false
  case alloc e =>
    show Lin (fun K => match zeroL P e with
      | some z => br (allOne z) (addB m ⟨true, .cells z⟩ fun n m => K (V.ptr n 0, m)) False
      | none => False)
    cases zeroL P e with
    | none => exact lin_false
    | some z => exact lin_br (lin_addB _ _ fun n m => (V.ptr n 0, m))
  case box e x =>
    show Lin (fun K => fV (evO ng t x) fun v => br (allOne v.cellsL) (addB m ⟨true, .cells v.cellsL⟩ fun n m => K (V.ptr n 0, m)) False)
    exact lin_bind (lin_fV _) fun v => lin_br (lin_addB _ _ fun n m => (V.ptr n 0, m))
  case build ty ps =>
    simp only [evOp]
    cases P.info? ty with
    | none => exact lin_false
    | some it =>
      cases P.underlying ty with
      | none => exact lin_false
      | some d =>
        cases d <;> try exact lin_false
        case array n e =>
          simp only
          cases it.zero with
          | none => exact lin_false
          | some z =>
            cases P.info? e with
            | none => exact lin_false
            | some ie => exact lin_bind (lin_evParts _ _ _) fun ps => lin_map _ (lin_fillV _ _ _)
        case struct fs =>
          simp only
          cases it.zero with
          | none => exact lin_false
          | some z =>
            cases fs.toList.mapM (fun f => (P.info? f.type).map fun i => (f.offset, i.size)) with
            | none => exact lin_false
            | some pl => exact lin_bind (lin_evParts _ _ _) fun ps => lin_map _ (lin_fillV _ _ _)
  case buildSlice ty n ps =>
    simp only [evOp]
    cases sliceD (P.underlying ty) with
    | none => exact lin_false
    | some e =>
      simp only
      cases zeroL P e with
      | none => exact lin_false
      | some z =>
        cases Nat.blt 0 (P.cellsOf e) with
        | false => exact lin_false
        | true =>
          cases Nat.ble (n * P.cellsOf e) (2 ^ 24) with
          | false => exact lin_false
          | true => exact lin_br (lin_bind (lin_evParts _ _ _) fun ps => lin_bind (lin_fillV _ _ _) fun cs => lin_br (lin_addB _ _ fun i m => (bsV i n, m)))
  case load ty x => exact two (lin_loadV _ _ _ _)
  case store ty x y => exact lin_bind (lin_fV _) fun v => lin_map (fun m => (V.un, m)) (lin_storeV _ _ _ _ _)
  case nilCheck x =>
    simp only [evOp]
    cases evO ng t x with
    | ptr i o => exact lin_ret _
    | gp i v o => exact lin_ret _
    | clo fn a b => cases fn <;> first | exact lin_ret _ | exact lin_false
    | _ => exact lin_false
  case binOp op ty x y yt => exact two (lin_evBinary _ _ _ _ _)
  case unOp op ty x => exact two (lin_evUn _ _)
  case convert s d x => exact two (lin_evConv _ _ _ _)
  case makeFunc fn a b => exact lin_bind (lin_evArgs _ _ _) fun a => lin_map _ (lin_evArgs _ _ _)
  case makeSlice ty l c =>
    simp only [evOp]
    cases sliceD (P.underlying ty) with
    | none => exact lin_false
    | some e =>
      cases evO ng t l <;> try exact lin_false
      cases evO ng t c <;> try exact lin_false
      exact lin_br (lin_br (lin_bind (lin_zrow _ _ _) fun b => lin_bind (F := fun K : Nat × List Blk → Prop => addB m ⟨true, b⟩ fun n m => K (n, m)) (lin_addB _ _ fun i m => (i, m)) fun a => lin_pick _ a.1 _ _ fun v => (v, a.2)))
  case slice ty x lo hi mx =>
    have body : Lin (fun K : V × List Blk → Prop => match P.underlying ty, evO ng t x with
      | some (.array n e), .ptr i off => br (Nat.blt 0 (P.cellsOf e)) (boundV ng t 0 n mx n fun c => boundV ng t 0 c hi n fun h => boundV ng t 0 h lo 0 fun l => K (.sl i (off + l * P.cellsOf e) (h - l), m)) False
      | some (.slice e), .sl i off n => br (Nat.blt 0 (P.cellsOf e)) (boundV ng t 0 n mx n fun c => boundV ng t 0 c hi n fun h => boundV ng t 0 h lo 0 fun l => K (slcV mx i (off + l * P.cellsOf e) (h - l) (c - l), m)) False
      | some (.slice e), .sk i off n cap => br (Nat.blt 0 (P.cellsOf e)) (boundV ng t 0 cap mx cap fun c => boundV ng t 0 c hi n fun h => boundV ng t 0 h lo 0 fun l => K (.sk i (off + l * P.cellsOf e) (h - l) (c - l), m)) False
      | _, _ => False) := by
      cases P.underlying ty with
      | none => exact lin_false
      | some d =>
        cases d <;> try exact lin_false
        case array n e =>
          cases evO ng t x <;> try exact lin_false
          exact lin_br (lin_bind (lin_boundV _ _ _ _ _ _) fun c => lin_bind (lin_boundV _ _ _ _ _ _) fun h => lin_map _ (lin_boundV _ _ _ _ _ _))
        case slice e =>
          cases evO ng t x <;> try exact lin_false
          · exact lin_br (lin_bind (lin_boundV _ _ _ _ _ _) fun c => lin_bind (lin_boundV _ _ _ _ _ _) fun h => lin_map _ (lin_boundV _ _ _ _ _ _))
          · exact lin_br (lin_bind (lin_boundV _ _ _ _ _ _) fun c => lin_bind (lin_boundV _ _ _ _ _ _) fun h => lin_map _ (lin_boundV _ _ _ _ _ _))
    cases hi <;> cases mx <;> first | exact body | exact lin_false
  case fieldAddr s x i =>
    simp only [evOp]
    cases evO ng t x <;> try exact lin_false
    all_goals
      cases fieldOf (P.underlying s) i with
      | none => exact lin_false
      | some f =>
        simp only
        cases P.cellsOf f.type with
        | zero => exact lin_false
        | succ n => exact lin_ret _
  case field ty x i =>
    simp only [evOp]
    cases evO ng t x <;> try exact lin_false
    cases fieldOf (P.underlying ty) i with
    | none => exact lin_false
    | some f => exact two (lin_partV _ _ _ _)
  case indexAddr ty x ix =>
    simp only [evOp]
    cases P.underlying ty with
    | none => exact lin_false
    | some d =>
      cases d <;> try exact lin_false
      case array n e =>
        cases evO ng t x <;> try exact lin_false
        all_goals
          cases evO ng t ix <;> try exact lin_false
          exact lin_br (lin_br (lin_ret _))
      case slice e =>
        cases evO ng t x <;> try exact lin_false
        all_goals
          cases evO ng t ix <;> try exact lin_false
          exact lin_br (lin_br (lin_ret _))
  case index ty x ix =>
    simp only [evOp]
    cases P.underlying ty with
    | none => exact lin_false
    | some d =>
      cases d <;> try exact lin_false
      case string =>
        cases evO ng t x <;> try exact lin_false
        rename_i v
        cases v <;> try exact lin_false
        cases evO ng t ix <;> try exact lin_false
        dsimp only
        split
        · exact lin_ret _
        · exact lin_false
      case array n e =>
        cases evO ng t x <;> try exact lin_false
        cases evO ng t ix <;> try exact lin_false
        exact lin_br (lin_br (two (lin_partV _ _ _ _)))
  case makeMap ty r =>
    cases r with
    | none =>
      show Lin (fun K => match P.underlying ty with
        | some (.map _ _) => addB m ⟨true, .mpI fun _ _ => none⟩ fun i m => K (V.mp i, m)
        | _ => False)
      split
      · exact lin_addB _ _ fun i m => (V.mp i, m)
      · exact lin_false
    | some o =>
      show Lin (fun K => match P.underlying ty, evO ng t o with
        | some (.map _ _), .int _ _ => addB m ⟨true, .mpI fun _ _ => none⟩ fun i m => K (V.mp i, m)
        | _, _ => False)
      split
      · exact lin_addB _ _ fun i m => (V.mp i, m)
      · exact lin_false
  case lookup ty x k ok => exact two (lin_lookupV _ _ _ _ _ _)
  case mapUpdate ty x k v => exact lin_map (fun m => (V.un, m)) (lin_mapUpdV _ _ _ _ _ _)
  case extract x i =>
    simp only [evOp]
    cases evO ng t x <;> try exact lin_false
    exact lin_br (two (lin_fV _))
  case call c =>
    obtain ⟨callee, args, ats⟩ := c
    cases callee with
    | value f =>
      show Lin (fun K => match evO ng t f with
        | .clo (.func f) a b => evArgs ng t args.toList fun vs => callVC P ng f (appL a (appL vs b)) m fun v m' => K (v, m')
        | _ => False)
      cases evO ng t f <;> try exact lin_false
      rename_i fn a b
      cases fn <;> try exact lin_false
      rename_i f
      refine lin_bind (lin_evArgs _ _ _) fun vs => ?_
      have e : (fun K : V × List Blk → Prop => callVC P ng f (appL a (appL vs b)) m fun v m' => K (v, m')) = fun K => ∃ p : V × List Blk, COk P ng f (appL a (appL vs b)) m p.1 p.2 ∧ fV p.1 fun r => K (r, p.2) := by
        funext K
        exact propext ⟨fun ⟨r, m', h⟩ => ⟨(r, m'), h⟩, fun ⟨p, h⟩ => ⟨p.1, p.2, h⟩⟩
      rw [e]
      exact lin_ex fun p => lin_map _ (lin_fV _)
    | invoke r n => exact lin_false
    | builtin b =>
      cases b <;> try exact lin_false
      case len =>
        show Lin (fun K => match args.toList, ats.toList with
          | [x], [ty] => lenV P ty (evO ng t x) fun v => K (v, m)
          | _, _ => False)
        split
        · exact two (lin_lenV _ _ _)
        · exact lin_false
      case append =>
        show Lin (fun K => match args.toList, ats.toList with
          | [s, x], [ty, tx] => match sliceD (P.underlying tx) with
            | some _ => appendV P ty (evO ng t s) (evO ng t x) m fun v m' => K (v, m')
            | none => False
          | _, _ => False)
        split
        · split
          · exact lin_appendV _ _ _ _ _
          · exact lin_false
        · exact lin_false
      case copy =>
        show Lin (fun K => match args.toList, ats.toList with
          | [d, x], ty :: _ => copyV P ty (evO ng t d) (evO ng t x) m fun v m' => K (v, m')
          | _, _ => False)
        split
        · exact lin_copyV _ _ _ _ _
        · exact lin_false
      case max => exact lin_bind (lin_evArgs _ _ _) fun vs => two (lin_mmV _ _)
      case min => exact lin_bind (lin_evArgs _ _ _) fun vs => two (lin_mmV _ _)
end
end Go.Eng
/- The engine, part 14: regions that draw their order: what is looked at. No condition. -/
namespace Go.Eng
open Go

inductive Kd where
  | pure | quiet | mk | eff
  deriving DecidableEq
/-- The functions whose calls make new memory: none of them is asked at any time. -/
def loudL : List Nat := [85, 86, 102]
def loudF (f : Operand) : Bool :=
  match f with
  | .func n => loudL.any fun k => Nat.beq k n
  | _ => false
def kd : Op → Kd
  | .move _ | .assign _ | .pick .. | .build .. | .nilCheck _ | .binOp .. | .unOp .. | .convert .. | .slice .. | .fieldAddr .. | .field .. | .indexAddr .. | .index .. | .extract .. | .makeFunc .. => .pure
  | .load .. => .quiet
  | .alloc _ | .box .. | .buildSlice .. => .mk
  | .call c => match c.callee with
    | .builtin .len | .builtin .max | .builtin .min => .pure
    | .value f => match loudF f with
      | true => .eff
      | false => .quiet
    | _ => .eff
  | _ => .eff
section
variable {P : Program} {ng : Nat}

theorem pure_any {op : Op} (h : kd op = .pure) (t : List V) (m m' : List Blk) (K : V → List Blk → Prop) : evOp P ng op t m K = evOp P ng op t m' fun v _ => K v m := by
  cases op <;> try rfl
  case alloc e => simp [kd] at h
  case box e x => simp [kd] at h
  case buildSlice e x y => simp [kd] at h
  case load e x => simp [kd] at h
  case store e x y => simp [kd] at h
  case makeSlice e x y => simp [kd] at h
  case makeMap e x => simp [kd] at h
  case lookup a b c d => simp [kd] at h
  case mapUpdate a b c d => simp [kd] at h
  case slice ty x lo hi mx => cases hi <;> cases mx <;> rfl
  case call c =>
    obtain ⟨callee, args, ats⟩ := c
    cases callee with
    | value f =>
      simp only [kd] at h
      split at h <;> exact absurd h (by decide)
    | invoke r n => simp [kd] at h
    | builtin b => cases b <;> first | rfl | (exact absurd h (by simp [kd]))

/-- An operation looks at its operands alone. -/
theorem evArgs_congr {t t' : List V} {os : List Operand} (h : ∀ x ∈ os, evO ng t x = evO ng t' x) (K : List V → Prop) : evArgs ng t os K = evArgs ng t' os K := by
  rw [evArgs_eq, evArgs_eq]
  congr 1
  exact List.map_congr_left h
theorem evParts_congr {t t' : List V} {ps : List (Nat × Operand)} (h : ∀ p ∈ ps, evO ng t p.2 = evO ng t' p.2) (K : List (Nat × V) → Prop) : evParts ng t ps K = evParts ng t' ps K := by
  rw [evParts_eq, evParts_eq]
  congr 1
  exact List.map_congr_left fun p hp => by rw [h p hp]
theorem boundV_congr {t t' : List V} {o : Option Operand} (h : ∀ x ∈ o.toArray, evO ng t x = evO ng t' x) (lo hi d : Nat) (K : Nat → Prop) : boundV ng t lo hi o d K = boundV ng t' lo hi o d K := by
  unfold boundV
  cases o with
  | none => rfl
  | some x => simp only [h x (by simp)]
theorem evOp_congr {op : Op} {t t' : List V} (h : ∀ x ∈ op.operands, evO ng t x = evO ng t' x) (m : List Blk) (K : V → List Blk → Prop) : evOp P ng op t m K = evOp P ng op t' m K := by
  cases op <;> try rfl
  case move x => simp only [evOp, h x (by simp [Op.operands])]
  case assign x => simp only [evOp, h x (by simp [Op.operands])]
  case pick c x y => simp only [evOp, h c (by simp [Op.operands]), h x (by simp [Op.operands]), h y (by simp [Op.operands])]
  case box e x => simp only [evOp, h x (by simp [Op.operands])]
  case build ty ps =>
    have hp : ∀ p ∈ ps.toList, evO ng t p.2 = evO ng t' p.2 := fun p hp => h p.2 (by simp only [Op.operands, List.mem_toArray, List.mem_map]; exact ⟨p, hp, rfl⟩)
    simp only [evOp, evParts_congr hp]
  case buildSlice ty n ps =>
    have hp : ∀ p ∈ ps.toList, evO ng t p.2 = evO ng t' p.2 := fun p hp => h p.2 (by simp only [Op.operands, List.mem_toArray, List.mem_map]; exact ⟨p, hp, rfl⟩)
    simp only [evOp, evParts_congr hp]
  case load ty x => simp only [evOp, h x (by simp [Op.operands])]
  case store ty x y => simp only [evOp, h x (by simp [Op.operands]), h y (by simp [Op.operands])]
  case nilCheck x => simp only [evOp, h x (by simp [Op.operands])]
  case binOp op ty x y yt => simp only [evOp, h x (by simp [Op.operands]), h y (by simp [Op.operands])]
  case unOp op ty x => simp only [evOp, h x (by simp [Op.operands])]
  case convert s d x => simp only [evOp, h x (by simp [Op.operands])]
  case makeFunc fn a b =>
    simp only [evOp]
    rw [evArgs_congr (t' := t') fun x hx => h x (by simp only [Op.operands, Array.mem_append]; exact .inl (by simpa using hx))]
    congr 1
    funext as
    rw [evArgs_congr (t' := t') fun x hx => h x (by simp only [Op.operands, Array.mem_append]; exact .inr (by simpa using hx))]
  case makeSlice ty l c => simp only [evOp, h l (by simp [Op.operands]), h c (by simp [Op.operands])]
  case makeMap ty r =>
    cases r with
    | none => rfl
    | some o => simp only [evOp, h o (by simp [Op.operands])]
  case lookup ty x k ok => simp only [evOp, h x (by simp [Op.operands]), h k (by simp [Op.operands])]
  case mapUpdate ty x k v => simp only [evOp, h x (by simp [Op.operands]), h k (by simp [Op.operands]), h v (by simp [Op.operands])]
  case slice ty x lo hi mx =>
    have hx := h x (by simp [Op.operands])
    have h1 : ∀ y ∈ lo.toArray, evO ng t y = evO ng t' y := fun y hy => h y (by simp only [Op.operands, Array.mem_append]; exact .inl (.inl (.inr hy)))
    have h2 : ∀ y ∈ hi.toArray, evO ng t y = evO ng t' y := fun y hy => h y (by simp only [Op.operands, Array.mem_append]; exact .inl (.inr hy))
    have h3 : ∀ y ∈ mx.toArray, evO ng t y = evO ng t' y := fun y hy => h y (by simp only [Op.operands, Array.mem_append]; exact .inr hy)
    cases hi <;> cases mx <;> simp only [evOp, hx, boundV_congr h1, boundV_congr h2, boundV_congr h3]
  case fieldAddr s x i => simp only [evOp, h x (by simp [Op.operands])]
  case field ty x i => simp only [evOp, h x (by simp [Op.operands])]
  case indexAddr ty x ix => simp only [evOp, h x (by simp [Op.operands]), h ix (by simp [Op.operands])]
  case index ty x ix => simp only [evOp, h x (by simp [Op.operands]), h ix (by simp [Op.operands])]
  case extract x i => simp only [evOp, h x (by simp [Op.operands])]
  case call c =>
    obtain ⟨callee, args, ats⟩ := c
    have ha : ∀ x ∈ args.toList, evO ng t x = evO ng t' x := fun x hx => h x (by
      simp only [Op.operands, Call.operands, Array.mem_append]; exact .inr (by simpa using hx))
    cases callee with
    | value f =>
      have hf := h f (by simp [Op.operands, Call.operands])
      simp only [evOp, hf, evArgs_congr ha]
    | invoke r n => rfl
    | builtin b =>
      cases b <;> try rfl
      case len =>
        simp only [evOp]
        split
        · rename_i x ty hx hty
          rw [ha x (by rw [hx]; simp)]
        · rfl
      case append =>
        simp only [evOp]
        split
        · rename_i s x ty tx hx hty
          rw [ha s (by rw [hx]; simp), ha x (by rw [hx]; simp)]
        · rfl
      case copy =>
        simp only [evOp]
        split
        · rename_i s x ty ts hx hty
          rw [ha s (by rw [hx]; simp), ha x (by rw [hx]; simp)]
        · rfl
      case max => simp only [evOp, evArgs_congr ha]
      case min => simp only [evOp, evArgs_congr ha]
end

/-! ### Which operation must come ahead of which -/
inductive Pre (ops : List Oper) : Nat → Nat → Prop
  | edge {j : Nat} {o : Oper} {e : Edge} (ho : ops[j]? = some o) (he : e ∈ o.after) (hb : Region.binds .any e = true) : Pre ops e.on j
  | trans {i k j : Nat} (h : Pre ops i k) (h' : Pre ops k j) : Pre ops i j
def mask1 (acc : List Nat) : List Edge → Nat
  | [] => 0
  | e :: es => match Region.binds .any e with
    | true => (1 <<< e.on) ||| acc.getD e.on 0 ||| mask1 acc es
    | false => mask1 acc es
def masks : List Oper → List Nat → List Nat
  | [], acc => acc
  | o :: os, acc => masks os (acc ++ [mask1 acc o.after.toList])
theorem mask1_spec {ops : List Oper} {acc : List Nat} {j : Nat} {o : Oper} (ho : ops[j]? = some o) (ha : ∀ k i, (acc.getD k 0).testBit i = true → Pre ops i k) :
    ∀ (es : List Edge), (∀ e ∈ es, e ∈ o.after) → ∀ i, (mask1 acc es).testBit i = true → Pre ops i j
  | [], _, i, h => by simp [mask1] at h
  | e :: es, he, i, h => by
    simp only [mask1] at h
    have hes := mask1_spec ho ha es (fun e' h' => he e' (by simp [h']))
    cases hb : Region.binds .any e with
    | false => simp only [hb] at h; exact hes i h
    | true =>
      simp only [hb, Nat.testBit_or, Bool.or_eq_true] at h
      have hedge := Pre.edge ho (he e (by simp)) hb
      rcases h with (h | h) | h
      · rw [Nat.shiftLeft_eq, Nat.one_mul, Nat.testBit_two_pow] at h
        simp only [decide_eq_true_eq] at h
        subst h; exact hedge
      · exact .trans (ha e.on i h) hedge
      · exact hes i h
theorem masks_spec {ops : List Oper} : ∀ (l : List Oper) (acc : List Nat), (∀ j, l[j]? = ops[acc.length + j]?) → (∀ k i, (acc.getD k 0).testBit i = true → Pre ops i k) →
    ∀ k i, ((masks l acc).getD k 0).testBit i = true → Pre ops i k
  | [], acc, _, ha => ha
  | o :: l, acc, hl, ha => by
    have h0 : ops[acc.length]? = some o := by simpa using (hl 0).symm
    refine masks_spec l _ (fun j => by have := hl (j + 1); simp only [List.getElem?_cons_succ] at this; rw [this]; simp; congr 1; omega) (fun k i h => ?_)
    rcases Nat.lt_trichotomy k acc.length with hk | hk | hk
    · rw [List.getD_eq_getElem?_getD, List.getElem?_append_left hk, ← List.getD_eq_getElem?_getD] at h
      exact ha k i h
    · subst hk
      rw [List.getD_eq_getElem?_getD, List.getElem?_append_right (Nat.le_refl _)] at h
      simp only [Nat.sub_self, List.getElem?_cons_zero, Option.getD_some] at h
      exact mask1_spec h0 ha _ (fun e he => by simpa using he) i h
    · rw [List.getD_eq_getElem?_getD, List.getElem?_eq_none (by simp; omega)] at h
      simp at h

/-! ### The look at a region -/
/-- Ahead of the first operation that writes: part A. -/
def firstEff : List Oper → Nat
  | [] => 0
  | o :: os => match kd o.op with
    | .eff => 0
    | _ => firstEff os + 1
def reads (ops : Array Oper) (o : Oper) (x : Tmp) : Bool := (o.looksAt ops).contains x
def dstIs (o : Oper) (x : Tmp) : Bool := o.dst == some x
/-- The pair i < j. -/
def isLoad (o : Oper) : Bool :=
  match o.op with
  | .load _ _ => true
  | _ => false
def pairOk (lax : Bool) (ops : Array Oper) (s : Nat) (ms : List Nat) (i j : Nat) (x y : Oper) : Bool :=
  let before := (ms.getD j 0).testBit i
  -- who isn't ahead of the other is apart from it
  (before || x.apart ops y) &&
  -- what reads or writes memory: in order, from the first writer on; but for loads that may come late
  (!(Nat.ble s j) || kd x.op == .pure || kd y.op == .pure || before || (lax && Nat.blt i s && isLoad x)) &&
  -- a new block of part A: looked at by part B's own alone, and written by no other
  (!(kd x.op == .mk) || !(Nat.blt i s) ||
    (match x.dst with
     | some d => (!(reads ops y d) || (Nat.ble s j && !(kd y.op == .pure))) && !(dstIs y d)
     | none => false)) &&
  (!(kd y.op == .mk) || !(Nat.blt j s) ||
    (match y.dst with
     | some d => !(reads ops x d) && !(dstIs x d)
     | none => false))
def edgesBack : Nat → List Oper → Bool
  | _, [] => true
  | j, o :: os => o.after.toList.all (fun e => Nat.blt e.on j || !Region.binds .any e) && edgesBack (j + 1) os
def noSel : List Oper → Bool
  | [] => true
  | o :: os => (match o.op with | .select .. => false | _ => true) && noSel os
def pairsFrom (lax : Bool) (ops : Array Oper) (s : Nat) (ms : List Nat) (i : Nat) (x : Oper) : Nat → List Oper → Bool
  | _, [] => true
  | j, y :: os => pairOk lax ops s ms i j x y && pairsFrom lax ops s ms i x (j + 1) os
def pairsAll (lax : Bool) (ops : Array Oper) (s : Nat) (ms : List Nat) : Nat → List Oper → Bool
  | _, [] => true
  | i, x :: os => pairsFrom lax ops s ms i x (i + 1) os && pairsAll lax ops s ms (i + 1) os
/-- A new block of part A has a slot, and isn't read by its own operation. -/
def selfOk (ops : Array Oper) : List Oper → Bool
  | [] => true
  | o :: os => (!(kd o.op == .mk) || (match o.dst with | some d => !(reads ops o d) | none => false)) && selfOk ops os
def lookX (lax : Bool) (ops : Array Oper) : Bool :=
  edgesBack 0 ops.toList && selfOk ops ops.toList && pairsAll lax ops (firstEff ops.toList) (masks ops.toList []) 0 ops.toList
def lookD (ops : Array Oper) : Bool := lookX false ops
def noGuards : List Oper → Bool
  | [] => true
  | o :: os => (match o.guard with | none => true | some _ => false) && noGuards os
/-- Loads may come behind stores. -/
def lookF (ops : Array Oper) : Bool := noGuards ops.toList && lookX true ops
theorem noGuards_spec : ∀ {l : List Oper}, noGuards l = true → ∀ (k : Nat) (o : Oper), l[k]? = some o → o.guard = none
  | [], _, k, o, ho => by simp at ho
  | z :: l, h, k, o, ho => by
    simp only [noGuards, Bool.and_eq_true] at h
    cases k with
    | zero =>
      simp at ho; subst ho
      cases hg : z.guard with
      | none => rfl
      | some p => rw [hg] at h; exact absurd h.1 (by simp)
    | succ k => exact noGuards_spec h.2 k o (by simpa using ho)

theorem pairsFrom_spec {lax : Bool} {ops : Array Oper} {s : Nat} {ms : List Nat} {i : Nat} {x : Oper} : ∀ (l : List Oper) (j : Nat), pairsFrom lax ops s ms i x j l = true → ∀ k y, l[k]? = some y → pairOk lax ops s ms i (j + k) x y = true
  | [], _, _, k, y, hy => by simp at hy
  | z :: l, j, h, k, y, hy => by
    simp only [pairsFrom, Bool.and_eq_true] at h
    cases k with
    | zero => simp at hy; subst hy; exact h.1
    | succ k => have := pairsFrom_spec l (j + 1) h.2 k y (by simpa using hy); rwa [show j + 1 + k = j + (k + 1) by omega] at this
theorem pairsAll_spec {lax : Bool} {ops : Array Oper} {s : Nat} {ms : List Nat} : ∀ (l : List Oper) (i : Nat), pairsAll lax ops s ms i l = true → ∀ p q x y, p < q → l[p]? = some x → l[q]? = some y → pairOk lax ops s ms (i + p) (i + q) x y = true
  | [], _, _, p, q, x, y, _, hx, _ => by simp at hx
  | z :: l, i, h, p, q, x, y, hpq, hx, hy => by
    simp only [pairsAll, Bool.and_eq_true] at h
    cases p with
    | zero =>
      simp at hx; subst hx
      obtain ⟨q, rfl⟩ : ∃ r, q = r + 1 := ⟨q - 1, by omega⟩
      have := pairsFrom_spec l (i + 1) h.1 q y (by simpa using hy)
      rwa [show i + 1 + q = i + (q + 1) by omega] at this
    | succ p =>
      obtain ⟨q, rfl⟩ : ∃ r, q = r + 1 := ⟨q - 1, by omega⟩
      have := pairsAll_spec l (i + 1) h.2 p q x y (by omega) (by simpa using hx) (by simpa using hy)
      rwa [show i + 1 + p = i + (p + 1) by omega, show i + 1 + q = i + (q + 1) by omega] at this
theorem edgesBack_spec : ∀ (l : List Oper) (j : Nat), edgesBack j l = true → ∀ (k : Nat) (o : Oper), l[k]? = some o → ∀ e ∈ o.after, Region.binds .any e = true → e.on < j + k
  | [], _, _, k, o, ho => by simp at ho
  | z :: l, j, h, k, o, ho => by
    simp only [edgesBack, Bool.and_eq_true] at h
    cases k with
    | zero =>
      simp at ho; subst ho
      intro e he hb
      have := List.all_eq_true.1 h.1 e (by simpa using he)
      simp only [hb, Bool.not_true, Bool.or_false] at this
      simpa using this
    | succ k =>
      intro e he hb
      have := edgesBack_spec l (j + 1) h.2 k o (by simpa using ho) e he hb
      omega
theorem selfOk_spec {ops : Array Oper} : ∀ (l : List Oper), selfOk ops l = true → ∀ (k : Nat) (o : Oper), l[k]? = some o → kd o.op = .mk → ∃ d, o.dst = some d ∧ reads ops o d = false
  | [], _, k, o, ho, _ => by simp at ho
  | z :: l, h, k, o, ho, hm => by
    simp only [selfOk, Bool.and_eq_true] at h
    cases k with
    | zero =>
      simp at ho; subst ho
      have := h.1
      simp only [hm, beq_self_eq_true, Bool.not_true, Bool.false_or] at this
      cases hd : z.dst with
      | none => simp [hd] at this
      | some d => simp only [hd, Bool.not_eq_true'] at this; exact ⟨d, rfl, this⟩
    | succ k => exact selfOk_spec l h.2 k o (by simpa using ho) hm
end Go.Eng
/- The engine, part 15: regions that draw their order: the walk in the order of the text, and what it yields. No condition. -/
namespace Go.Eng
open Go

/-- A call that leaves memory alone. -/
noncomputable def callQ (P : Program) (ng : Nat) (f : FuncId) (args : List V) (m : List Blk) (K : V → Prop) : Prop := ∃ r, COk P ng f args m r m ∧ fV r K
noncomputable def evQ (P : Program) (ng : Nat) (op : Op) (t : List V) (m : List Blk) (K : V → Prop) : Prop :=
  match op with
  | .load ty a => loadV P ty (evO ng t a) m K
  | .call c => match c.callee with
    | .value f => match evO ng t f with
      | .clo (.func f) a b => evArgs ng t c.args.toList fun vs => callQ P ng f (appL a (appL vs b)) m K
      | _ => False
    | _ => False
  | _ => False
noncomputable def evOne (P : Program) (ng : Nat) (k : Kd) (op : Op) (t : List V) (m0 m : List Blk) (K : V → List Blk → Prop) : Prop :=
  match k with
  | .pure => evOp P ng op t m0 fun v _ => K v m
  | .quiet => evQ P ng op t m0 fun v => K v m
  | .mk => evOp P ng op t m K
  | .eff => False
noncomputable def evA (P : Program) (ng : Nat) (ops : List Oper) (m0 : List Blk) (l : List Oper) : List V → List Blk → (List V → List Blk → Prop) → Prop :=
  List.rec (motive := fun _ => List V → List Blk → (List V → List Blk → Prop) → Prop) (fun t m K => K t m)
    (fun o os ih t m K => match kd o.op with
      | .eff => evOps P ng ops (o :: os) t m K
      | k =>
        match o.guard with
        | none => evOne P ng k o.op t m0 m fun v m' => putK o.dst t v fun t' => ih t' m' K
        | some (j, want) =>
          match dstOf ops j with
          | some d => match getT t d with
            | .bool c =>
              br c
                (setT t d (.bool true) fun t => match want with
                  | true => evOne P ng k o.op t m0 m fun v m' => putK o.dst t v fun t' => ih t' m' K
                  | false => putK o.dst t .un fun t' => ih t' m K)
                (setT t d (.bool false) fun t => match want with
                  | false => evOne P ng k o.op t m0 m fun v m' => putK o.dst t v fun t' => ih t' m' K
                  | true => putK o.dst t .un fun t' => ih t' m K)
            | .raw (.tuple _) => putK o.dst t .un fun t' => ih t' m K
            | _ => False
          | none => False) l
theorem evA_cons {P : Program} {ng : Nat} {ops : List Oper} {m0 : List Blk} {o : Oper} {os : List Oper} {t : List V} {m : List Blk} {K : List V → List Blk → Prop} : evA P ng ops m0 (o :: os) t m K =
    match kd o.op with
    | .eff => evOps P ng ops (o :: os) t m K
    | k =>
      match o.guard with
      | none => evOne P ng k o.op t m0 m fun v m' => putK o.dst t v fun t' => evA P ng ops m0 os t' m' K
      | some (j, want) =>
        match dstOf ops j with
        | some d => match getT t d with
          | .bool c =>
            br c
              (setT t d (.bool true) fun t => match want with
                | true => evOne P ng k o.op t m0 m fun v m' => putK o.dst t v fun t' => evA P ng ops m0 os t' m' K
                | false => putK o.dst t .un fun t' => evA P ng ops m0 os t' m K)
              (setT t d (.bool false) fun t => match want with
                | false => evOne P ng k o.op t m0 m fun v m' => putK o.dst t v fun t' => evA P ng ops m0 os t' m' K
                | true => putK o.dst t .un fun t' => evA P ng ops m0 os t' m K)
          | .raw (.tuple _) => putK o.dst t .un fun t' => evA P ng ops m0 os t' m K
          | _ => False
        | none => False := rfl

section
variable {P : Program} {ng : Nat}
theorem evOp_mono {op : Op} {t : List V} {m : List Blk} {K K' : V → List Blk → Prop} (h : ∀ v m, K v m → K' v m) (hh : evOp P ng op t m K) : evOp P ng op t m K' :=
  (lin_op P ng op t m).mono (fun p => K p.1 p.2) (fun p => K' p.1 p.2) (fun p => h p.1 p.2) hh
theorem evOp_det {op : Op} {t : List V} {m : List Blk} {K : V → List Blk → Prop} (h : evOp P ng op t m K) : ∃ v m', K v m' ∧ evOp P ng op t m fun a b => a = v ∧ b = m' := by
  obtain ⟨p, h1, h2⟩ := (lin_op P ng op t m).det (fun p => K p.1 p.2) h
  exact ⟨p.1, p.2, h1, evOp_mono (fun v m hv => by cases hv; exact ⟨rfl, rfl⟩) h2⟩
theorem evQ_det {op : Op} {t : List V} {m : List Blk} {K : V → Prop} (h : evQ P ng op t m K) : ∃ v, K v ∧ evOp P ng op t m fun a b => a = v ∧ b = m := by
  unfold evQ at h
  cases op <;> try exact h.elim
  case load ty a =>
    obtain ⟨v, h1, h2⟩ := (lin_loadV P ty _ m).det K h
    exact ⟨v, h1, (lin_loadV P ty _ m).mono _ (fun a => a = v ∧ m = m) (fun a ha => ⟨ha, rfl⟩) h2⟩
  case call c =>
    obtain ⟨callee, args, ats⟩ := c
    cases callee <;> try exact h.elim
    rename_i f
    simp only at h
    cases hf : evO ng t f <;> rw [hf] at h <;> try exact h.elim
    rename_i fn a b
    cases fn <;> try exact h.elim
    rename_i f'
    simp only [evArgs_eq] at h
    obtain ⟨r, h1, h2⟩ := h
    rw [fV_eq] at h2
    refine ⟨r, h2, ?_⟩
    simp only [evOp, hf, evArgs_eq]
    exact ⟨r, m, h1, by rw [fV_eq]; exact ⟨rfl, rfl⟩⟩

/-- Does the operation run? -/
def Guard (ops : List Oper) (o : Oper) (t : List V) (run : Bool) : Prop :=
  match o.guard with
  | none => run = true
  | some (j, want) => ∃ d, dstOf ops j = some d ∧ ((∃ b, getT t d = .bool b ∧ run = (b == want)) ∨ ((∃ xs, getT t d = .raw (.tuple xs)) ∧ run = false))
/-- One operation of the walk; 'ph': from the first writer on. -/
structure Entry (P : Program) (ng : Nat) (ops : List Oper) (m0 : List Blk) (ph : Bool) (o : Oper) (t : List V) (m : List Blk) (run : Bool) (v : V) (m' : List Blk) : Prop where
  guard : Guard ops o t run
  skip : run = false → v = V.un ∧ m' = m
  still : run = true → ph = false → kd o.op = .pure ∨ kd o.op = .quiet → evOp P ng o.op t m0 (fun a b => a = v ∧ b = m0) ∧ m' = m
  made : run = true → ph = false → kd o.op = .mk → evOp P ng o.op t m (fun a b => a = v ∧ b = m')
  early : ph = false → kd o.op ≠ .eff
  late : run = true → ph = true → evOp P ng o.op t m (fun a b => a = v ∧ b = m')
def putL (d : Option Tmp) (t : List V) (v : V) : List V :=
  match d with
  | some d => t.set d v
  | none => t

theorem set_self {t : List V} {d : Nat} {c : Bool} (h : getT t d = .bool c) : t.set d (.bool c) = t := by
  rw [getT_eq] at h
  apply List.ext_getElem?
  intro i
  rw [List.getElem?_set]
  by_cases hi : d = i
  · subst hi
    rcases Nat.lt_or_ge d t.length with hd | hd
    · simp only [hd, if_true]
      rw [List.getD_eq_getElem?_getD, List.getElem?_eq_getElem hd] at h
      rw [List.getElem?_eq_getElem hd]
      simpa using h.symm
    · rw [List.getD_eq_getElem?_getD, List.getElem?_eq_none hd] at h
      simp at h
  · rw [if_neg hi]

/-- The walk's states, operation by operation. -/
def Walk (P : Program) (ng : Nat) (ops : List Oper) (m0 : List Blk) (ph : Nat → Bool) (l : List Oper) (t : List V) (m : List Blk) (K : List V → List Blk → Prop) : Prop :=
  ∃ (T : Nat → List V) (M : Nat → List Blk) (run : Nat → Bool) (v : Nat → V), T 0 = t ∧ M 0 = m ∧ K (T l.length) (M l.length) ∧
    ∀ (k : Nat) (o : Oper), l[k]? = some o → T (k + 1) = putL o.dst (T k) (v k) ∧ Entry P ng ops m0 (ph k) o (T k) (M k) (run k) (v k) (M (k + 1))
theorem Walk.nil {ops : List Oper} {m0 : List Blk} {ph : Nat → Bool} {t : List V} {m : List Blk} {K : List V → List Blk → Prop} (h : K t m) : Walk P ng ops m0 ph [] t m K :=
  ⟨fun _ => t, fun _ => m, fun _ => false, fun _ => V.un, rfl, rfl, h, by simp⟩
theorem Walk.cons {ops : List Oper} {m0 : List Blk} {ph : Nat → Bool} {o : Oper} {l : List Oper} {t : List V} {m m' : List Blk} {r : Bool} {u : V} {K : List V → List Blk → Prop}
    (he : Entry P ng ops m0 (ph 0) o t m r u m') (h : Walk P ng ops m0 (fun k => ph (k + 1)) l (putL o.dst t u) m' K) : Walk P ng ops m0 ph (o :: l) t m K := by
  obtain ⟨T, M, run, v, h1, h2, h3, h4⟩ := h
  refine ⟨fun | 0 => t | k + 1 => T k, fun | 0 => m | k + 1 => M k, fun | 0 => r | k + 1 => run k, fun | 0 => u | k + 1 => v k, rfl, rfl, h3, ?_⟩
  intro k o' ho
  cases k with
  | zero =>
    simp only [List.getElem?_cons_zero, Option.some.injEq] at ho
    subst ho
    simp only [h1, h2]
    exact ⟨trivial, he⟩
  | succ k => exact h4 k o' (by simpa using ho)

theorem putK_L (d : Option Tmp) (t : List V) (v : V) (K : List V → Prop) : putK d t v K = K (putL d t v) := putK_eq d t v K

theorem evOps_walk {ops : List Oper} {m0 : List Blk} : ∀ (l : List Oper) (t : List V) (m : List Blk) (K : List V → List Blk → Prop), evOps P ng ops l t m K → Walk P ng ops m0 (fun _ => true) l t m K
  | [], t, m, K, h => .nil h
  | o :: os, t, m, K, h => by
    have exec : Guard ops o t true → (evOp P ng o.op t m fun v m' => putK o.dst t v fun t' => evOps P ng ops os t' m' K) → Walk P ng ops m0 (fun _ => true) (o :: os) t m K := by
      intro hg h
      obtain ⟨v, m', h1, h2⟩ := evOp_det h
      rw [putK_L] at h1
      exact .cons ⟨hg, by simp, by simp, by simp, by simp, fun _ _ => h2⟩ (evOps_walk os _ m' K h1)
    have skip : Guard ops o t false → (putK o.dst t V.un fun t' => evOps P ng ops os t' m K) → Walk P ng ops m0 (fun _ => true) (o :: os) t m K := by
      intro hg h
      rw [putK_L] at h
      exact .cons (m' := m) ⟨hg, fun _ => ⟨rfl, rfl⟩, by simp, by simp, by simp, by simp⟩ (evOps_walk os _ m K h)
    rw [evOps_cons] at h
    split at h
    · rename_i hg
      exact exec (by unfold Guard; rw [hg]) h
    · rename_i j want hg
      split at h
      · rename_i d hd
        split at h
        · rename_i c hc
          rw [br_iff] at h
          rcases h with ⟨rfl, h⟩ | ⟨rfl, h⟩ <;> rw [setT_eq, set_self hc] at h
          · cases want with
            | true => exact exec (by unfold Guard; rw [hg]; exact ⟨d, hd, .inl ⟨_, hc, rfl⟩⟩) h
            | false => exact skip (by unfold Guard; rw [hg]; exact ⟨d, hd, .inl ⟨_, hc, rfl⟩⟩) h
          · cases want with
            | true => exact skip (by unfold Guard; rw [hg]; exact ⟨d, hd, .inl ⟨_, hc, rfl⟩⟩) h
            | false => exact exec (by unfold Guard; rw [hg]; exact ⟨d, hd, .inl ⟨_, hc, rfl⟩⟩) h
        · rename_i xs hc
          exact skip (by unfold Guard; rw [hg]; exact ⟨d, hd, .inr ⟨⟨_, hc⟩, rfl⟩⟩) h
        · exact h.elim
      · exact h.elim

theorem Walk.congr {ops : List Oper} {m0 : List Blk} {ph ph' : Nat → Bool} (e : ∀ k, ph k = ph' k) {l : List Oper} {t : List V} {m : List Blk} {K : List V → List Blk → Prop} (h : Walk P ng ops m0 ph l t m K) : Walk P ng ops m0 ph' l t m K := by
  rw [← show ph = ph' from funext e]; exact h

theorem evA_walk {ops : List Oper} {m0 : List Blk} : ∀ (l : List Oper) (t : List V) (m : List Blk) (K : List V → List Blk → Prop), evA P ng ops m0 l t m K → Walk P ng ops m0 (fun k => Nat.ble (firstEff l) k) l t m K
  | [], t, m, K, h => .nil h
  | o :: os, t, m, K, h => by
    by_cases he : kd o.op = .eff
    · rw [evA_cons] at h; simp only [he] at h
      exact (evOps_walk (o :: os) t m K h).congr fun k => by simp [firstEff, he]
    · have hs : firstEff (o :: os) = firstEff os + 1 := by
        rw [firstEff]
        split
        · contradiction
        · rfl
      have hph : ∀ k, Nat.ble (firstEff (o :: os)) (k + 1) = Nat.ble (firstEff os) k := by intro k; rw [hs]; rfl
      have hp0 : Nat.ble (firstEff (o :: os)) 0 = false := by rw [hs]; rfl
      have exec : Guard ops o t true → (evOne P ng (kd o.op) o.op t m0 m fun v m' => putK o.dst t v fun t' => evA P ng ops m0 os t' m' K) → Walk P ng ops m0 (fun k => Nat.ble (firstEff (o :: os)) k) (o :: os) t m K := by
        intro hg h
        cases hk : kd o.op with
        | eff => exact absurd hk he
        | pure =>
          simp only [evOne, hk] at h
          obtain ⟨v, m', h1, h2⟩ := evOp_det h
          rw [putK_L] at h1
          have h2' : evOp P ng o.op t m0 fun a b => a = v ∧ b = m0 := by
            rw [pure_any hk t m0 [] _] at h2 ⊢
            exact evOp_mono (fun a b ⟨h, _⟩ => ⟨h, rfl⟩) h2
          exact .cons (m' := m) ⟨hg, by simp, fun _ _ _ => ⟨h2', rfl⟩, fun _ _ h => by rw [hk] at h; exact absurd h (by simp), fun _ => he, fun _ h => by rw [hp0] at h; exact absurd h (by simp)⟩ ((evA_walk os _ m K h1).congr fun k => (hph k).symm)
        | quiet =>
          simp only [evOne, hk] at h
          obtain ⟨v, h1, h2⟩ := evQ_det h
          rw [putK_L] at h1
          exact .cons (m' := m) ⟨hg, by simp, fun _ _ _ => ⟨h2, rfl⟩, fun _ _ h => by rw [hk] at h; exact absurd h (by simp), fun _ => he, fun _ h => by rw [hp0] at h; exact absurd h (by simp)⟩ ((evA_walk os _ m K h1).congr fun k => (hph k).symm)
        | mk =>
          simp only [evOne, hk] at h
          obtain ⟨v, m', h1, h2⟩ := evOp_det h
          rw [putK_L] at h1
          exact .cons ⟨hg, by simp, fun _ _ h => by rw [hk] at h; rcases h with h | h <;> exact absurd h (by simp), fun _ _ _ => h2, fun _ => he, fun _ h => by rw [hp0] at h; exact absurd h (by simp)⟩ ((evA_walk os _ m' K h1).congr fun k => (hph k).symm)
      have skip : Guard ops o t false → (putK o.dst t V.un fun t' => evA P ng ops m0 os t' m K) → Walk P ng ops m0 (fun k => Nat.ble (firstEff (o :: os)) k) (o :: os) t m K := by
        intro hg h
        rw [putK_L] at h
        exact .cons (m' := m) ⟨hg, fun _ => ⟨rfl, rfl⟩, by simp, by simp, fun _ => he, by simp⟩ ((evA_walk os _ m K h).congr fun k => (hph k).symm)
      have h : (match o.guard with
        | none => evOne P ng (kd o.op) o.op t m0 m fun v m' => putK o.dst t v fun t' => evA P ng ops m0 os t' m' K
        | some (j, want) =>
          match dstOf ops j with
          | some d => match getT t d with
            | .bool c =>
              br c
                (setT t d (.bool true) fun t => match want with
                  | true => evOne P ng (kd o.op) o.op t m0 m fun v m' => putK o.dst t v fun t' => evA P ng ops m0 os t' m' K
                  | false => putK o.dst t .un fun t' => evA P ng ops m0 os t' m K)
                (setT t d (.bool false) fun t => match want with
                  | false => evOne P ng (kd o.op) o.op t m0 m fun v m' => putK o.dst t v fun t' => evA P ng ops m0 os t' m' K
                  | true => putK o.dst t .un fun t' => evA P ng ops m0 os t' m K)
            | .raw (.tuple _) => putK o.dst t .un fun t' => evA P ng ops m0 os t' m K
            | _ => False
          | none => False) := by
        rw [evA_cons] at h
        cases hk : kd o.op <;> simp only [hk] at h <;> first | exact h | exact absurd hk he
      split at h
      · rename_i hg
        exact exec (by unfold Guard; rw [hg]) h
      · rename_i j want hg
        split at h
        · rename_i d hd
          split at h
          · rename_i c hc
            rw [br_iff] at h
            rcases h with ⟨rfl, h⟩ | ⟨rfl, h⟩ <;> rw [setT_eq, set_self hc] at h
            · cases want with
              | true => exact exec (by unfold Guard; rw [hg]; exact ⟨d, hd, .inl ⟨_, hc, rfl⟩⟩) h
              | false => exact skip (by unfold Guard; rw [hg]; exact ⟨d, hd, .inl ⟨_, hc, rfl⟩⟩) h
            · cases want with
              | true => exact skip (by unfold Guard; rw [hg]; exact ⟨d, hd, .inl ⟨_, hc, rfl⟩⟩) h
              | false => exact exec (by unfold Guard; rw [hg]; exact ⟨d, hd, .inl ⟨_, hc, rfl⟩⟩) h
          · rename_i xs hc
            exact skip (by unfold Guard; rw [hg]; exact ⟨d, hd, .inr ⟨⟨_, hc⟩, rfl⟩⟩) h
          · exact h.elim
        · exact h.elim

/-! ### Regions whose loads may come behind stores: what was loaded is looked at again behind each store -/
noncomputable def chk (P : Program) (F : List (TypeId × V × V)) (m : List Blk) : Prop → Prop :=
  List.rec (motive := fun _ => Prop → Prop) (fun K => K) (fun e _ ih K => loadV P e.1 e.2.1 m fun u => u = e.2.2 ∧ ih K) F
noncomputable def evB (P : Program) (ng : Nat) (F : List (TypeId × V × V)) (l : List Oper) : List V → List Blk → (List V → List Blk → Prop) → Prop :=
  List.rec (motive := fun _ => List V → List Blk → (List V → List Blk → Prop) → Prop) (fun t m K => K t m)
    (fun o _ ih t m K => evOp P ng o.op t m fun v m' => chk P F m' (putK o.dst t v fun t' => ih t' m' K)) l
noncomputable def evF (P : Program) (ng : Nat) (m0 : List Blk) (l : List Oper) : List (TypeId × V × V) → List V → List Blk → (List V → List Blk → Prop) → Prop :=
  List.rec (motive := fun _ => List (TypeId × V × V) → List V → List Blk → (List V → List Blk → Prop) → Prop) (fun _ t m K => K t m)
    (fun o os ih F t m K => match kd o.op with
      | .eff => evB P ng F (o :: os) t m K
      | k => evOne P ng k o.op t m0 m fun v m' => putK o.dst t v fun t' => match o.op with
        | .load ty a => fV (evO ng t a) fun av => fV v fun v => ih ((ty, av, v) :: F) t' m' K
        | _ => ih F t' m' K) l
def F1 (P : Program) (e : TypeId × V × V) (m : List Blk) : Prop := loadV P e.1 e.2.1 m fun u => u = e.2.2
theorem chk_iff {F : List (TypeId × V × V)} {m : List Blk} {K : Prop} : chk P F m K → (∀ e ∈ F, F1 P e m) ∧ K := by
  induction F with
  | nil => exact fun h => ⟨fun e he => (nomatch he), h⟩
  | cons e F ih =>
    intro h
    have h : loadV P e.1 e.2.1 m (fun u => u = e.2.2 ∧ chk P F m K) := h
    obtain ⟨u, ⟨hu, h1⟩, h2⟩ := (lin_loadV P e.1 e.2.1 m).det _ h
    rw [hu] at h2
    obtain ⟨k1, k2⟩ := ih h1
    refine ⟨fun e' he' => ?_, k2⟩
    rcases List.mem_cons.1 he' with he' | he'
    · rw [he']; exact h2
    · exact k1 e' he'
/-- What 'evF' yields. -/
def WalkF (P : Program) (ng : Nat) (ops : List Oper) (m0 : List Blk) (F : List (TypeId × V × V)) (l : List Oper) (t : List V) (m : List Blk) (K : List V → List Blk → Prop) : Prop :=
  ∃ (T : Nat → List V) (M : Nat → List Blk) (v : Nat → V), T 0 = t ∧ M 0 = m ∧ K (T l.length) (M l.length) ∧
    (∀ (k : Nat) (o : Oper), l[k]? = some o → T (k + 1) = putL o.dst (T k) (v k) ∧ Entry P ng ops m0 (Nat.ble (firstEff l) k) o (T k) (M k) true (v k) (M (k + 1))) ∧
    (∀ e ∈ F, ∀ k, firstEff l < k → k ≤ l.length → F1 P e (M k)) ∧
    ∀ (i : Nat) (o : Oper), l[i]? = some o → i < firstEff l → isLoad o = true → ∀ k, firstEff l < k → k ≤ l.length → evOp P ng o.op (T i) (M k) fun u b => u = v i ∧ b = M k
theorem firstEff_cons {o : Oper} {os : List Oper} (he : kd o.op ≠ .eff) : firstEff (o :: os) = firstEff os + 1 := by
  rw [firstEff]
  split
  · contradiction
  · rfl
theorem evB_walk {ops : List Oper} {m0 : List Blk} {F : List (TypeId × V × V)} : ∀ (l : List Oper), (∀ (k : Nat) (o : Oper), l[k]? = some o → o.guard = none) → ∀ (t : List V) (m : List Blk) (K : List V → List Blk → Prop), evB P ng F l t m K →
    ∃ (T : Nat → List V) (M : Nat → List Blk) (v : Nat → V), T 0 = t ∧ M 0 = m ∧ K (T l.length) (M l.length) ∧
    (∀ (k : Nat) (o : Oper), l[k]? = some o → T (k + 1) = putL o.dst (T k) (v k) ∧ Entry P ng ops m0 true o (T k) (M k) true (v k) (M (k + 1))) ∧
    ∀ e ∈ F, ∀ k, 0 < k → k ≤ l.length → F1 P e (M k)
  | [], _, t, m, K, h => ⟨fun _ => t, fun _ => m, fun _ => V.un, rfl, rfl, h, by simp, fun e _ k h1 h2 => by simp at h2; omega⟩
  | o :: os, hg, t, m, K, h => by
    have h : evOp P ng o.op t m (fun v m' => chk P F m' (putK o.dst t v fun t' => evB P ng F os t' m' K)) := h
    obtain ⟨u, m', h1, h2⟩ := evOp_det h
    obtain ⟨c1, c2⟩ := chk_iff h1
    rw [putK_L] at c2
    obtain ⟨T, M, v, e1, e2, e3, e4, e5⟩ := evB_walk (ops := ops) (m0 := m0) os (fun k o h => hg (k + 1) o (by simpa using h)) _ m' K c2
    refine ⟨fun | 0 => t | k + 1 => T k, fun | 0 => m | k + 1 => M k, fun | 0 => u | k + 1 => v k, rfl, rfl, e3, ?_, ?_⟩
    · intro k o' ho
      cases k with
      | zero =>
        simp only [List.getElem?_cons_zero, Option.some.injEq] at ho
        subst ho
        simp only [e1, e2]
        exact ⟨trivial, ⟨by unfold Guard; rw [hg 0 o rfl], by simp, by simp, by simp, by simp, fun _ _ => h2⟩⟩
      | succ k => exact e4 k o' (by simpa using ho)
    · intro e he k h1 h2
      obtain ⟨k, rfl⟩ : ∃ j, k = j + 1 := ⟨k - 1, by omega⟩
      cases k with
      | zero => simp only [e2]; exact c1 e he
      | succ k => exact e5 e he (k + 1) (by omega) (by simpa using h2)
theorem evF_walk {ops : List Oper} {m0 : List Blk} : ∀ (l : List Oper), (∀ (k : Nat) (o : Oper), l[k]? = some o → o.guard = none) → ∀ (F : List (TypeId × V × V)) (t : List V) (m : List Blk) (K : List V → List Blk → Prop), evF P ng m0 l F t m K → WalkF P ng ops m0 F l t m K
  | [], _, F, t, m, K, h => ⟨fun _ => t, fun _ => m, fun _ => V.un, rfl, rfl, h, by simp, fun e _ k h1 h2 => by simp at h2; omega, by simp⟩
  | o :: os, hg, F, t, m, K, h => by
    by_cases he : kd o.op = .eff
    · have h : evB P ng F (o :: os) t m K := by
        have h : (match kd o.op with
          | .eff => evB P ng F (o :: os) t m K
          | k => evOne P ng k o.op t m0 m fun v m' => putK o.dst t v fun t' => match o.op with
            | .load ty a => fV (evO ng t a) fun av => fV v fun v => evF P ng m0 os ((ty, av, v) :: F) t' m' K
            | _ => evF P ng m0 os F t' m' K) := h
        rw [he] at h; exact h
      obtain ⟨T, M, v, e1, e2, e3, e4, e5⟩ := evB_walk (ops := ops) (m0 := m0) (o :: os) hg t m K h
      have hf : firstEff (o :: os) = 0 := by simp [firstEff, he]
      exact ⟨T, M, v, e1, e2, e3, fun k o' ho => by rw [hf]; exact e4 k o' ho, by rw [hf]; exact e5, fun i o' ho hi => by omega⟩
    · have hs := firstEff_cons (os := os) he
      have h : evOne P ng (kd o.op) o.op t m0 m fun v m' => putK o.dst t v fun t' => match o.op with
            | .load ty a => fV (evO ng t a) fun av => fV v fun v => evF P ng m0 os ((ty, av, v) :: F) t' m' K
            | _ => evF P ng m0 os F t' m' K := by
        have h : (match kd o.op with
          | .eff => evB P ng F (o :: os) t m K
          | k => evOne P ng k o.op t m0 m fun v m' => putK o.dst t v fun t' => match o.op with
            | .load ty a => fV (evO ng t a) fun av => fV v fun v => evF P ng m0 os ((ty, av, v) :: F) t' m' K
            | _ => evF P ng m0 os F t' m' K) := h
        cases hk : kd o.op <;> simp only [hk] at h <;> first | exact h | exact absurd hk he
      have hg0 : Guard ops o t true := by unfold Guard; rw [hg 0 o rfl]
      -- one value, one memory
      have one : ∃ u m', Entry P ng ops m0 false o t m true u m' ∧ (match o.op with
            | .load ty a => fV (evO ng t a) fun av => fV u fun v => evF P ng m0 os ((ty, av, v) :: F) (putL o.dst t u) m' K
            | _ => evF P ng m0 os F (putL o.dst t u) m' K) := by
        cases hk : kd o.op with
        | eff => exact absurd hk he
        | pure =>
          simp only [evOne, hk] at h
          obtain ⟨v, m', h1, h2⟩ := evOp_det h
          rw [putK_L] at h1
          have h2' : evOp P ng o.op t m0 fun a b => a = v ∧ b = m0 := by
            rw [pure_any hk t m0 [] _] at h2 ⊢
            exact evOp_mono (fun a b ⟨h, _⟩ => ⟨h, rfl⟩) h2
          exact ⟨v, m, ⟨hg0, by simp, fun _ _ _ => ⟨h2', rfl⟩, fun _ _ h => by rw [hk] at h; exact absurd h (by simp), fun _ => he, by simp⟩, h1⟩
        | quiet =>
          simp only [evOne, hk] at h
          obtain ⟨v, h1, h2⟩ := evQ_det h
          rw [putK_L] at h1
          exact ⟨v, m, ⟨hg0, by simp, fun _ _ _ => ⟨h2, rfl⟩, fun _ _ h => by rw [hk] at h; exact absurd h (by simp), fun _ => he, by simp⟩, h1⟩
        | mk =>
          simp only [evOne, hk] at h
          obtain ⟨v, m', h1, h2⟩ := evOp_det h
          rw [putK_L] at h1
          exact ⟨v, m', ⟨hg0, by simp, fun _ _ h => by rw [hk] at h; rcases h with h | h <;> exact absurd h (by simp), fun _ _ _ => h2, fun _ => he, by simp⟩, h1⟩
      obtain ⟨u, m', E, hrest⟩ := one
      have hgs : ∀ (k : Nat) (o : Oper), os[k]? = some o → o.guard = none := fun k o h => hg (k + 1) o (by simpa using h)
      -- what is recorded
      have rest : ∃ F', (∀ e ∈ F, e ∈ F') ∧ (∀ ty a, o.op = .load ty a → (ty, evO ng t a, u) ∈ F') ∧ evF P ng m0 os F' (putL o.dst t u) m' K := by
        cases ho : o.op
        case load ty a =>
          simp only [ho, fV_eq] at hrest
          exact ⟨_, fun e he => List.mem_cons_of_mem _ he, fun ty' a' h => by injection h with h1 h2; subst h1; subst h2; exact List.mem_cons_self .., hrest⟩
        all_goals
          simp only [ho] at hrest
          exact ⟨F, fun e he => he, fun ty a h => by simp at h, hrest⟩
      obtain ⟨F', hF, hld, hrest⟩ := rest
      obtain ⟨T, M, v, e1, e2, e3, e4, e5, e6⟩ := evF_walk (ops := ops) os hgs F' _ m' K hrest
      refine ⟨fun | 0 => t | k + 1 => T k, fun | 0 => m | k + 1 => M k, fun | 0 => u | k + 1 => v k, rfl, rfl, e3, ?_, ?_, ?_⟩
      · intro k o' ho
        rw [hs]
        cases k with
        | zero =>
          simp only [List.getElem?_cons_zero, Option.some.injEq] at ho
          subst ho
          simp only [e1, e2]
          exact ⟨trivial, E⟩
        | succ k => exact e4 k o' (by simpa using ho)
      · intro e he k h1 h2
        rw [hs] at h1
        obtain ⟨k, rfl⟩ : ∃ j, k = j + 1 := ⟨k - 1, by omega⟩
        exact e5 e (hF e he) k (by omega) (by simpa using h2)
      · intro i o' ho hi hl k h1 h2
        rw [hs] at h1 hi
        obtain ⟨k, rfl⟩ : ∃ j, k = j + 1 := ⟨k - 1, by omega⟩
        cases i with
        | zero =>
          simp only [List.getElem?_cons_zero, Option.some.injEq] at ho
          subst ho
          cases hop : o.op
          case load ty a =>
            have := e5 _ (hld ty a hop) k (by omega) (by simpa using h2)
            simp only [evOp]
            exact (lin_loadV P ty (evO ng t a) (M k)).mono _ (fun b => b = u ∧ True) (fun b hb => ⟨hb, trivial⟩) this
          all_goals simp [isLoad, hop] at hl
        | succ i => exact e6 i o' (by simpa using ho) (by omega) hl k (by omega) (by simpa using h2)

/-! ### New blocks, whatever memory lies before them -/
inductive Sh where
  | ptr | sl (n : Nat)
def mkV : Sh → Nat → V
  | .ptr, i => .ptr i 0
  | .sl n, i => bsV i n
def mkX : Sh → Nat → Value
  | .ptr, p => .pointer (some ⟨p, 0, none⟩)
  | .sl n, p => .slice (some ⟨p, 0, none⟩) n n
theorem Rv_mk {n : Nat} {g : Nat → Pl} {sh : Sh} {i p : Nat} (hi : i < n) (hg : g i = ⟨p, 0, 0, 0⟩) : Rv n g (mkV sh i) (mkX sh p) := by
  cases sh with
  | ptr => simp [mkV, mkX, Rv, hg, hi]
  | sl k =>
    by_cases hk0 : k = 0
    · subst hk0
      show Rv n g (.sk i 0 0 0) (.slice (some ⟨p, 0, none⟩) 0 0)
      unfold Rv; rw [hg]; exact ⟨hi, rfl, _, rfl, Nat.le_refl _, fun h => absurd h (Nat.lt_irrefl 0)⟩
    · show Rv n g (bsV i k) (.slice (some ⟨p, 0, none⟩) k k)
      rw [bsV_pos hk0]; unfold Rv; rw [hg]; exact ⟨hi, rfl, _, _, rfl, Nat.le_refl _, fun _ => rfl⟩
theorem mk_spec {op : Op} (hk : kd op = .mk) {t : List V} {m : List Blk} {v : V} {m' : List Blk} (h : evOp P ng op t m fun a b => a = v ∧ b = m') :
    ∃ sh cs, v = mkV sh m.length ∧ m' = m ++ [⟨true, .cells cs⟩] ∧
      ∀ {g : Nat → Pl} {t1 : List V} {m1 : List Blk} {a : Act} {w : World} (o : Oper), o.op = op → Sim ng g t1 m1 a w → (∀ x ∈ op.operands, evO ng t x = evO ng t1 x) →
        ∃ c e, (execOp a.eval o).run P w = .ok (.value (mkX sh w.heap.size)) { w with heap := w.heap.push (.cells c e) } ∧ Rvs m1.length g cs c.toList := by
  cases op <;> try (simp [kd] at hk; done)
  case alloc e =>
    simp only [evOp] at h
    split at h
    · rename_i z hz
      obtain ⟨h1, h2⟩ := br_F h
      rw [addB_eq] at h2
      refine ⟨.ptr, z, h2.1.symm, h2.2.symm, fun {g t1 m1 a w} o ho S _ => ?_⟩
      obtain ⟨x, h3, h4⟩ := run_zeroValue w hz
      exact ⟨x.cells, e, by simp [execOp, ho, Instr.alloc, h3, newVar, newRow, mkX], h4 _ _⟩
    · exact h.elim
  case box e x =>
    simp only [evOp, fV_eq] at h
    obtain ⟨h1, h2⟩ := br_F h
    rw [addB_eq] at h2
    refine ⟨.ptr, _, h2.1.symm, h2.2.symm, fun {g t1 m1 a w} o ho S hx => ?_⟩
    have hxx := hx x (by simp [Op.operands])
    rw [hxx] at h1 ⊢
    exact ⟨(a.eval x).cells, e, by simp [execOp, ho, Instr.box, newVar, newRow, mkX], Rvs_cells (eval_Rv S x) h1⟩
  case buildSlice ty n ps =>
    simp only [evOp] at h
    cases hu : P.underlying ty with
    | none => simp [hu, sliceD] at h
    | some d =>
      cases d <;> simp only [hu, sliceD] at h <;> try exact h.elim
      rename_i e
      split at h
      · rename_i z hz hp hle
        obtain ⟨h1, h2⟩ := br_F h
        rw [evParts_eq] at h2
        obtain ⟨cs, h3, h4⟩ := (lin_fillV _ _ _).det _ h2
        obtain ⟨h5, h6⟩ := br_F h3
        rw [addB_eq] at h6
        refine ⟨.sl n, cs, h6.1.symm, h6.2.symm, fun {g t1 m1 a w} o ho S hx => ?_⟩
        have hr := parts_rel S ps
        have hparts : (ps.toList.map fun p => (p.1, evO ng t p.2)) = ps.toList.map fun p => (p.1, evO ng t1 p.2) :=
          List.map_congr_left fun p hp => by rw [hx p.2 (by simp only [Op.operands, List.mem_toArray, List.mem_map]; exact ⟨p, hp, rfl⟩)]
        rw [hparts] at h4
        obtain ⟨zv, q1, q2⟩ := run_zeroValue w hz
        have hp : 0 < P.cellsOf e := by simpa using hp
        have hle : n * P.cellsOf e ≤ 2 ^ 24 := by simpa using hle
        have h1 : 0 < z.length := by simpa [lenL_eq] using h1
        have hzl := Rvs_length (q2 m1.length g)
        rw [Array.length_toList] at hzl
        have hrow : Rvs m1.length g ((List.range (n * P.cellsOf e)).map fun j => getT z (j % lenL z)) ((Array.range (n * P.cellsOf e)).map (zv.cells[· % zv.cells.size]!)).toList := by
          rw [Array.toList_map, Array.toList_range]
          refine Rvs_map _ _ _ (fun j _ => ?_)
          rw [getT_eq, lenL_eq, ← hzl]
          have hjm : j % zv.cells.size < zv.cells.size := Nat.mod_lt _ (by omega)
          have := Rvs_getD (q2 m1.length g) (j % zv.cells.size)
          rw [getElem!_pos zv.cells _ hjm]
          simpa [List.getD_eq_getElem?_getD, hjm] using this
        obtain ⟨z', cells', k1, k2, k3⟩ := fillV_sound _ (ps.map fun (i, x) => (i, a.eval x)).toList _ _ hr.1 hr.2 hrow h4
        subst k3
        have hcp : 0 < P.cellsOf e := hp
        obtain ⟨inf, hinf⟩ := info_of_pos hcp
        refine ⟨cells', e, ?_, k2⟩
        simp only [execOp, ho, Instr.buildSlice, Sem.run_bind, run_underlying' w hu, Result.andThen_ok, run_sizeOf w hinf, Sem.run_ite]
        by_cases hz0 : n * P.cellsOf e = 0
        · have hem : ∀ f g : Nat → Value, (Array.range (n * P.cellsOf e)).map f = (Array.range (n * P.cellsOf e)).map g := fun f g => by rw [hz0]; simp
          rw [if_neg (by omega), if_pos hz0]
          simp only [Sem.run_bind, Result.andThen_ok, Sem.run_pure]
          rw [hem _ (zv.cells[· % zv.cells.size]!)]
          simp only [Sem.run_bind, Result.andThen_ok, Sem.run_pure, k1, newRow, run_newObj, mkX]
        · rw [if_neg (by omega), if_neg hz0]
          simp only [Sem.run_bind, q1, Result.andThen_ok, Sem.run_pure, k1, newRow, run_newObj, mkX]
      · exact h.elim
  case call c =>
    exfalso
    obtain ⟨callee, args, ats⟩ := c
    cases callee with
    | value f =>
      simp only [kd] at hk
      split at hk <;> exact absurd hk (by decide)
    | invoke r n => simp [kd] at hk
    | builtin b => cases b <;> simp [kd] at hk
end
end Go.Eng
