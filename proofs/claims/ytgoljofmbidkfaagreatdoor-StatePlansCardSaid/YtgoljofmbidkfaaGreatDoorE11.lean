import Derived.Test.YtgoljofmbidkfaaGreatDoorE23
/- The engine: parts 10 to 11. No condition. -/
/- The engine, part 10: one operation, whatever it is. No condition. -/
namespace Go.Eng
open Go
set_option linter.unusedSimpArgs false
set_option linter.unusedVariables false
section
variable {P : Program} {ng : Nat} {g : Nat → Pl} {t : List V} {m : List Blk} {a : Act} {w : World} {K : V → List Blk → Prop}

theorem wrap_small {l c : Int} (h : 0 ≤ l ∧ l ≤ c ∧ c ≤ 2 ^ 48) : IntKind.i64.wrap l = l ∧ IntKind.i64.wrap c = c := by
  have key : ∀ n : Int, 0 ≤ n → n ≤ 2 ^ 48 → IntKind.i64.wrap n = n := by
    intro n h1 h2
    have : n % (2 ^ 64 : Int) = n := Int.emod_eq_of_lt h1 (by omega)
    simp only [IntKind.wrap, IntKind.bits, IntKind.signed, this]
    rw [if_neg]
    simp only [Bool.true_and, decide_eq_true_eq]
    omega
  exact ⟨key _ h.1 (by omega), key _ (by omega) h.2.2⟩

theorem eval_of {o : Operand} {v : V} (S : Sim ng g t m a w) (h : evO ng t o = v) : Rv m.length g v (a.eval o) := by
  rw [← h]; exact eval_Rv S o

theorem run_indexAt {ty e : TypeId} {k : IntKind} {i : Int} {x : Value} {d : TypeDesc} {A : Addr} {n : Nat} (w : World) (hu : P.underlying ty = some d) (hd : (d = .array n e ∧ x = .pointer (some A)) ∨ (d = .slice e ∧ ∃ c, x = .slice (some A) n c)) (hp : 0 < P.cellsOf e) (h : 0 ≤ i ∧ i < (n : Int)) :
    (Instr.indexAt ty x (.int k i)).run P w = .ok (.pointer (some (A.add (i.toNat * P.cellsOf e)))) w := by
  obtain ⟨inf, hi⟩ := info_of_pos hp
  rcases hd with ⟨rfl, rfl⟩ | ⟨rfl, c, rfl⟩
  · simp only [Instr.indexAt, asIntOf, Sem.run_bind, Sem.run_pure, Result.andThen_ok, run_underlying' w hu, Instr.sureAddr, Sem.run_ite, run_sizeOf w hi]
    rw [if_pos h]
  · simp only [Instr.indexAt, asIntOf, Sem.run_bind, Sem.run_pure, Result.andThen_ok, run_underlying' w hu, Sem.run_ite, run_sizeOf w hi]
    rw [if_pos h]

theorem slice_rel {i off l h n m' : Nat} {s : Nat} {x : Option Addr} (hi : i < m.length) (hz : (g i).4 = 0) (hx : 0 < n → x = some ⟨(g i).1, (g i).2 + off, none⟩) (h1 : l ≤ h) (h2 : h ≤ n) (h3 : h ≤ m') :
    Rv m.length g (.sl i (off + l * s) (h - l)) (.slice (if m' = l then x else x.map (·.add (l * s))) (h - l) (m' - l)) := by
  simp only [Rv]
  refine ⟨hi, hz, _, _, rfl, by omega, fun hp => ?_⟩
  rw [if_neg (by omega), hx (by omega)]
  simp only [Option.map_some, Addr_add, Nat.add_assoc]
theorem slice_relK {i off l h n c : Nat} {s : Nat} {x : Option Addr} (hi : i < m.length) (hz : (g i).4 = 0) (hx : 0 < n → x = some ⟨(g i).1, (g i).2 + off, none⟩) (h1 : l ≤ h) (h2 : h ≤ c) (h3 : c ≤ n) :
    Rv m.length g (.sk i (off + l * s) (h - l) (c - l)) (.slice (if c = l then x else x.map (·.add (l * s))) (h - l) (c - l)) := by
  simp only [Rv]
  refine ⟨hi, hz, _, rfl, by omega, fun hp => ?_⟩
  rw [if_neg (by omega), hx (by omega)]
  simp only [Option.map_some, Addr_add, Nat.add_assoc]

theorem fieldOf_some {d : Option TypeDesc} {i : Nat} {f : Field} (h : fieldOf d i = some f) : ∃ fs, d = some (.struct fs) ∧ fs[i]? = some f := by
  unfold fieldOf at h
  split at h
  · exact ⟨_, rfl, by simpa using h⟩
  · exact absurd h (by simp)
theorem gets_ok2 (S : Sim ng g t m a w) {s : Sem Value} {v : V} {x : Value} (h : s.run P w = .ok x w) (hr : Rv m.length g v x) (hk : K v m) :
    Gets P K g m w ((s.run P w).andThen fun a w' => .ok (.value a) w') := by
  have := gets_ok S h hr hk
  simpa only [Sem.run_bind, Sem.run_pure] using this
theorem partV_under {ty : TypeId} {cs : List V} {off : Nat} {K : V → Prop} (h : partV P ty cs off K) : ∃ d, P.underlying ty = some d := by
  unfold partV at h
  cases hd : P.underlying ty with
  | none => simp [hd, isAggD] at h
  | some d => exact ⟨d, rfl⟩
theorem partV_sound {n : Nat} {ty : TypeId} {cs : List V} {xs : Array Value} {off : Nat} {K : V → Prop} {d : TypeDesc} (hd : P.underlying ty = some d) (hr : Rvs n g cs xs.toList) (h : partV P ty cs off K) (w : World) :
    ∃ v x, (part ty xs off).run P w = .ok x w ∧ Rv n g v x ∧ K v := by
  have hl := Rvs_length hr
  unfold partV at h
  rw [hd] at h
  have ho : ∃ v, partO P ty cs off = some v ∧ K v := by
    unfold partO
    rw [hd]
    cases hag : isAggD (some d) with
    | true =>
      simp only [hag] at h
      obtain ⟨h1, h2⟩ := br_F h
      rw [fVs_eq] at h2
      simp only [h1]
      exact ⟨_, rfl, h2⟩
    | false =>
      simp only [hag] at h
      obtain ⟨h1, h2⟩ := br_F h
      rw [fV_eq] at h2
      simp only [h1]
      exact ⟨_, rfl, h2⟩
  obtain ⟨v, h1, h2⟩ := ho
  obtain ⟨x, h3, h4⟩ := partO_sound hd hr h1 w
  exact ⟨v, x, h3, h4, h2⟩

theorem lenV_sound {n : Nat} {ty : TypeId} {x : V} {xv : Value} {K : V → Prop} (hx : Rv n g x xv) (h : lenV P ty x K) (w : World) (at' : Array TypeId) (ht : at'.toList = [ty]) (ty' : TypeId) :
    ∃ v r, (Builtin.len_ at' ty' #[xv]).run P w = .ok r w ∧ Rv n g v r ∧ K v := by
  have e : at' = #[ty] := by cases at'; simp_all
  subst e
  unfold lenV at h
  split at h
  · rename_i e i off k hu
    simp only [Rv] at hx
    obtain ⟨_, _, b, c, rfl, _⟩ := hx
    exact ⟨_, _, by simp [Builtin.len_, run_underlying' w hu]; rfl, Rv_int _ _, h⟩
  · rename_i e i v es k hu
    simp only [Rv] at hx
    obtain ⟨_, _, b, c, rfl, _⟩ := hx
    exact ⟨_, _, by simp [Builtin.len_, run_underlying' w hu]; rfl, Rv_int _ _, h⟩
  · rename_i e i off k c hu
    simp only [Rv] at hx
    obtain ⟨_, _, b, rfl, _⟩ := hx
    exact ⟨_, _, by simp [Builtin.len_, run_underlying' w hu]; rfl, Rv_int _ _, h⟩
  · rename_i e hu
    simp only [Rv] at hx; subst hx
    exact ⟨_, _, by simp [Builtin.len_, run_underlying' w hu]; rfl, Rv_int _ _, h⟩
  · rename_i k e hu
    refine ⟨_, .int .i64 k, ?_, Rv_int _ _, h⟩
    cases xv <;> simp [Builtin.len_, run_underlying' w hu, goInt]
  · exact h.elim

set_option maxHeartbeats 1000000 in
theorem evOp_sound (S : Sim ng g t m a w) (o : Oper) (h : evOp P ng o.op t m K) : Gets P K g m w ((execOp a.eval o).run P w) := by
  unfold execOp
  cases hop : o.op <;> rw [hop] at h <;> simp only <;> try exact h.elim
  case move x => simp only [evOp, fV_eq] at h; exact .of S h (eval_Rv S x) (.refl w)
  case assign x => simp only [evOp, fV_eq] at h; exact .of S h (eval_Rv S x) (.refl w)
  case pick c x y =>
    simp only [evOp] at h
    split at h
    · rename_i hc
      have := eval_of S hc; simp only [Rv] at this
      simp only [this, asBool, Sem.run_bind, Sem.run_pure, Result.andThen_ok, if_true, fV_eq] at h ⊢
      exact .of S h (eval_Rv S x) (.refl w)
    · rename_i hc
      have := eval_of S hc; simp only [Rv] at this
      simp only [this, asBool, Sem.run_bind, Sem.run_pure, Result.andThen_ok, Bool.false_eq_true, if_false, fV_eq] at h ⊢
      exact .of S h (eval_Rv S y) (.refl w)
    · exact h.elim
  case alloc e =>
    simp only [evOp] at h
    split at h
    · rename_i z hz
      obtain ⟨h1, h2⟩ := br_F h
      rw [addB_eq] at h2
      obtain ⟨x, h3, h4⟩ := run_zeroValue w hz
      exact gets_new S rfl (cells_get (h4 _ _)) (by simp [Instr.alloc, h3, newVar, newRow]; rfl) (made_ptr g m _ _) h2
    · exact h.elim
  case box e x =>
    simp only [evOp, fV_eq] at h
    obtain ⟨h1, h2⟩ := br_F h
    rw [addB_eq] at h2
    exact gets_new S rfl (cells_get (Rvs_cells (eval_Rv S x) h1)) (by simp [Instr.box, newVar, newRow]; rfl) (made_ptr g m _ _) h2
  case build ty ps =>
    simp only [evOp] at h
    have hr := parts_rel S ps
    split at h
    · rename_i it n e hi hu
      split at h
      · rename_i z ie hz hie
        rw [evParts_eq] at h
        obtain ⟨z', cells', h1, h2, h3⟩ := fillV_sound _ (ps.map fun (i, x) => (i, a.eval x)).toList _ z.cells hr.1 hr.2 (Rvs_ofVals _) h
        exact gets_ok S (run_build w ty _ cells' (by simp only [Program.built, hi, hu, hz, hie]; exact h1)) (by simp only [Rv]; exact ⟨_, rfl, h2⟩) h3
      · exact h.elim
    · rename_i it fs hi hu
      split at h
      · rename_i z places hz hpl
        rw [evParts_eq] at h
        obtain ⟨z', cells', h1, h2, h3⟩ := fillV_sound _ (ps.map fun (i, x) => (i, a.eval x)).toList _ z.cells hr.1 hr.2 (Rvs_ofVals _) h
        exact gets_ok S (run_build w ty _ cells' (by simp only [Program.built, hi, hu, hz, hpl]; exact h1)) (by simp only [Rv]; exact ⟨_, rfl, h2⟩) h3
      · exact h.elim
    · exact h.elim
  case buildSlice ty n ps =>
    simp only [evOp] at h
    have hr := parts_rel S ps
    cases hu : P.underlying ty with
    | none => simp [hu, sliceD] at h
    | some d =>
      cases d <;> simp only [hu, sliceD] at h <;> try exact h.elim
      rename_i e
      split at h
      · rename_i z hz hp hle
        obtain ⟨h1, h2⟩ := br_F h
        rw [evParts_eq] at h2
        obtain ⟨zv, q1, q2⟩ := run_zeroValue w hz
        have hp : 0 < P.cellsOf e := by simpa using hp
        have hle : n * P.cellsOf e ≤ 2 ^ 24 := by simpa using hle
        have h1 : 0 < z.length := by simpa [lenL_eq] using h1
        have hzl := Rvs_length (q2 m.length g)
        rw [Array.length_toList] at hzl
        have hrow : Rvs m.length g ((List.range (n * P.cellsOf e)).map fun j => getT z (j % lenL z)) ((Array.range (n * P.cellsOf e)).map (zv.cells[· % zv.cells.size]!)).toList := by
          rw [Array.toList_map, Array.toList_range]
          refine Rvs_map _ _ _ (fun j _ => ?_)
          rw [getT_eq, lenL_eq, ← hzl]
          have hjm : j % zv.cells.size < zv.cells.size := Nat.mod_lt _ (by omega)
          have := Rvs_getD (q2 m.length g) (j % zv.cells.size)
          rw [getElem!_pos zv.cells _ hjm]
          simpa [List.getD_eq_getElem?_getD, hjm] using this
        obtain ⟨z', cells', k1, k2, k3⟩ := fillV_sound _ (ps.map fun (i, x) => (i, a.eval x)).toList _ _ hr.1 hr.2 hrow h2
        obtain ⟨k4, k5⟩ := br_F k3
        rw [addB_eq] at k5
        have hcp : 0 < P.cellsOf e := hp
        obtain ⟨inf, hinf⟩ := info_of_pos hcp
        refine gets_new (e := e) S rfl (cells_get k2) ?_ ?_ k5 (x := .slice (some ⟨w.heap.size, 0, none⟩) n n)
        · simp only [Instr.buildSlice, Sem.run_bind, run_underlying' w hu, Result.andThen_ok, run_sizeOf w hinf, Sem.run_ite]
          by_cases hz0 : n * P.cellsOf e = 0
          · have hem : ∀ f g : Nat → Value, (Array.range (n * P.cellsOf e)).map f = (Array.range (n * P.cellsOf e)).map g := fun f g => by rw [hz0]; simp
            rw [if_neg (by omega), if_pos hz0]
            simp only [Sem.run_bind, Result.andThen_ok, Sem.run_pure]
            rw [hem _ (zv.cells[· % zv.cells.size]!)]
            simp only [Sem.run_bind, Result.andThen_ok, Sem.run_pure, k1, newRow, run_newObj]
          · rw [if_neg (by omega), if_neg hz0]
            simp only [Sem.run_bind, q1, Result.andThen_ok, Sem.run_pure, k1, newRow, run_newObj]
        · unfold bsV
          cases hn0 : Nat.beq n 0 with
          | true =>
            obtain rfl : n = 0 := Nat.eq_of_beq_eq_true hn0
            simp only [Rv]
            exact ⟨by simp, by simp [newAt, newAtP], _, rfl, Nat.le_refl _, fun h => absurd h (Nat.lt_irrefl 0)⟩
          | false =>
            simp only [Rv]
            exact ⟨by simp, by simp [newAt, newAtP], _, _, rfl, Nat.le_refl _, fun _ => by simp [newAt, newAtP]⟩
      · exact h.elim
  case load ty x =>
    simp only [evOp] at h
    obtain ⟨v, y, h1, h2, h3⟩ := loadV_sound S (eval_Rv S x) h
    exact gets_ok S h1 h2 h3
  case store ty x y =>
    simp only [evOp, fV_eq] at h
    obtain ⟨m', w', h1, h2, h3, h4⟩ := storeV_sound S (eval_Rv S x) (eval_Rv S y) h
    simp only [Sem.run_bind, h1, Result.andThen_ok, Sem.run_pure, Gets]
    exact ⟨_, m', g, h2, Rv_un, h3, h4⟩
  case nilCheck x =>
    simp only [evOp] at h
    split at h
    · rename_i i off hx
      have hr := eval_of S hx
      have hr' := hr; simp only [Rv] at hr'
      rw [hr'.2.2] at hr ⊢
      exact .of S h hr (.refl w)
    · rename_i i v off hx
      have hr := eval_of S hx
      have hr' := hr; simp only [Rv] at hr'
      obtain ⟨_, _, A, e, _⟩ := hr'
      rw [e] at hr ⊢
      exact .of S h hr (.refl w)
    · rename_i f b c hx
      have hr := eval_of S hx
      have hr' := hr; simp only [Rv] at hr'
      obtain ⟨xs, ys, e, _⟩ := hr'
      rw [e] at hr ⊢
      exact .of S h hr (.refl w)
    · exact h.elim
  case binOp op ty x y yt =>
    simp only [evOp] at h
    exact gets_val S (evBinary_sound x y (eval_Rv S x) (eval_Rv S y) h w)
  case unOp op ty x =>
    simp only [evOp] at h
    exact gets_val S (evUn_sound (eval_Rv S x) h w)
  case convert s d x =>
    simp only [evOp] at h
    exact gets_val S (evConv_sound (eval_Rv S x) h w)
  case makeFunc fn b c =>
    simp only [evOp, evArgs_eq] at h
    refine gets_ok S (x := .func fn (b.map a.eval) (c.map a.eval)) rfl ?_ h
    simp only [Rv]
    exact ⟨_, _, rfl, by simpa using args_rel S b.toList, by simpa using args_rel S c.toList⟩
  case makeSlice ty lo co =>
    simp only [evOp] at h
    cases hu : P.underlying ty with
    | none => simp [hu, sliceD] at h
    | some d =>
      cases d <;> simp only [hu, sliceD] at h <;> try exact h.elim
      rename_i e
      split at h
      · rename_i e' k1 lv k2 cv he hl hc
        cases he
        obtain ⟨h1, h2⟩ := br_F h
        simp only [decide_eq_true_eq] at h1
        obtain ⟨h3, h4⟩ := br_F h2
        have h3 : 0 < P.cellsOf e := by simpa using h3
        obtain ⟨b, z, q1, q2, qp, q3⟩ := zrow_sound (n := m.length) (g := g) h4 w
        rw [addB_eq] at q2
        obtain ⟨inf, hinf⟩ := info_of_pos h3
        have hlv := eval_of S hl; have hcv := eval_of S hc
        simp only [Rv] at hlv hcv
        obtain ⟨wl, wc⟩ := wrap_small ⟨h1.1, h1.2.1, h1.2.2.1⟩
        have hby : inf.bytes = P.bytesOf e := by simp [Program.bytesOf, hinf]
        obtain ⟨v, hv, q2⟩ : ∃ v, (v = .sl m.length 0 lv.toNat ∨ v = .sk m.length 0 lv.toNat cv.toNat) ∧ K v (m ++ [⟨true, b⟩]) := by
          unfold pickSl at q2
          split at q2
          · rcases q2 with q2 | q2
            · exact ⟨_, .inl rfl, q2⟩
            · exact ⟨_, .inr rfl, q2⟩
          · exact ⟨_, .inr rfl, q2⟩
        refine gets_new (e := e) S qp q3 ?_ ?_ q2 (x := .slice (some ⟨w.heap.size, 0, none⟩) lv.toNat cv.toNat)
        · simp only [hlv, hcv, Instr.makeSlice, asInt, asIntOf, Sem.run_bind, run_underlying' w hu, Result.andThen_ok, Sem.run_pure, typeInfo, run_program, hinf, wl, wc, Sem.run_ite, hby]
          rw [if_neg (by
            simp only [Bool.or_eq_true, decide_eq_true_eq, not_or]
            omega)]
          simp only [run_askRoom, Result.andThen_ok, run_sizeOf w hinf]
          by_cases hn : cv.toNat * P.cellsOf e = 0
          · rw [if_pos hn]
            simp only [Sem.run_pure, Result.andThen_ok, newRow, Sem.run_bind, run_newObj, hn]
            rw [show ∀ f : Nat → Value, (Array.range 0).map f = #[] from fun f => Array.eq_empty_of_size_eq_zero (by simp), show ∀ f : Nat → Value, (Array.range 0).map f = #[] from fun f => Array.eq_empty_of_size_eq_zero (by simp)]
          · rw [if_neg hn]
            simp only [Sem.run_bind, q1, Sem.run_pure, Result.andThen_ok, newRow, run_newObj]
        · rcases hv with rfl | rfl
          · simp only [Rv]
            exact ⟨by simp, by simp [newAt, newAtP], _, _, rfl, by omega, fun _ => by simp [newAt, newAtP]⟩
          · simp only [Rv]
            exact ⟨by simp, by simp [newAt, newAtP], _, rfl, by omega, fun _ => by simp [newAt, newAtP]⟩
      · exact h.elim
  case slice ty x lo hi mx =>
    have hm : ¬ (hi = none ∧ ∃ o, mx = some o) := by
      rintro ⟨rfl, o, rfl⟩
      exact h.elim
    have h : (match P.underlying ty, evO ng t x with
      | some (.array n e), .ptr i off => br (Nat.blt 0 (P.cellsOf e)) (boundV ng t 0 n mx n fun c => boundV ng t 0 c hi n fun h => boundV ng t 0 h lo 0 fun l => K (.sl i (off + l * P.cellsOf e) (h - l)) m) False
      | some (.slice e), .sl i off n => br (Nat.blt 0 (P.cellsOf e)) (boundV ng t 0 n mx n fun c => boundV ng t 0 c hi n fun h => boundV ng t 0 h lo 0 fun l => K (slcV mx i (off + l * P.cellsOf e) (h - l) (c - l)) m) False
      | some (.slice e), .sk i off n cap => br (Nat.blt 0 (P.cellsOf e)) (boundV ng t 0 cap mx cap fun c => boundV ng t 0 c hi n fun h => boundV ng t 0 h lo 0 fun l => K (.sk i (off + l * P.cellsOf e) (h - l) (c - l)) m) False
      | _, _ => False) := by
      cases hi <;> cases mx <;> first | exact h | exact absurd ⟨rfl, _, rfl⟩ hm
    split at h
    · rename_i n e i off hu hx
      obtain ⟨h1, h2⟩ := br_F h
      have h1 : 0 < P.cellsOf e := by simpa using h1
      obtain ⟨inf, hinf⟩ := info_of_pos h1
      have hr := eval_of S hx
      simp only [Rv] at hr
      obtain ⟨l, hh, c, m', q1, q2, q3, q4, q5, _, _⟩ := bounds_sound (P := P) (isSlice := false) S (Nat.le_refl n) (Nat.le_refl n) hm h2
      refine gets_ok S (x := .slice (if m' = l then some ⟨(g i).1, (g i).2 + off, none⟩ else (some (Addr.mk (g i).1 ((g i).2 + off) none)).map (·.add (l * P.cellsOf e))) (hh - l) (m' - l)) ?_ (slice_rel hr.1 hr.2.1 (fun _ => rfl) q3 q4 q5) q2
      simp only [Instr.sliceAt, Sem.run_bind, run_underlying' w hu, Result.andThen_ok, hr.2.2, Instr.sureAddr, Sem.run_pure, q1, run_sizeOf w hinf]
      split <;> simp_all
    · rename_i e i off n hu hx
      obtain ⟨h1, h2⟩ := br_F h
      have h1 : 0 < P.cellsOf e := by simpa using h1
      obtain ⟨inf, hinf⟩ := info_of_pos h1
      have hr := eval_of S hx
      simp only [Rv] at hr
      obtain ⟨hi', hz, A, cap, e1, e2, e3⟩ := hr
      obtain ⟨l, hh, c, m', q1, q2, q3, q4, q5, q6, q7⟩ := bounds_sound (P := P) (isSlice := true) S (Nat.le_refl n) e2 hm h2
      refine gets_ok S (x := .slice (if m' = l then A else A.map (·.add (l * P.cellsOf e))) (hh - l) (m' - l)) ?_ ?_ q2
      · simp only [Instr.sliceAt, Sem.run_bind, run_underlying' w hu, Result.andThen_ok, e1, Instr.slice, q1, run_sizeOf w hinf, Sem.run_pure]
      · cases mx with
        | none => exact slice_rel hi' hz e3 q3 q4 q5
        | some o =>
          have hcm := q7 ⟨o, rfl⟩
          subst hcm
          exact slice_relK hi' hz e3 q3 q5 q6
    · rename_i e i off n cap hu hx
      obtain ⟨h1, h2⟩ := br_F h
      have h1 : 0 < P.cellsOf e := by simpa using h1
      obtain ⟨inf, hinf⟩ := info_of_pos h1
      have hr := eval_of S hx
      simp only [Rv] at hr
      obtain ⟨hi', hz, A, e1, e2, e3⟩ := hr
      obtain ⟨l, hh, c, q1, q2, q3, q4, q5⟩ := bounds_soundK (P := P) (isSlice := true) S e2 hm h2
      refine gets_ok S (x := .slice (if c = l then A else A.map (·.add (l * P.cellsOf e))) (hh - l) (c - l)) ?_ (slice_relK hi' hz e3 q3 q4 q5) q2
      simp only [Instr.sliceAt, Sem.run_bind, run_underlying' w hu, Result.andThen_ok, e1, Instr.slice, q1, run_sizeOf w hinf, Sem.run_pure]
    · exact h.elim
  case fieldAddr s x i =>
    simp only [evOp] at h
    split at h
    · rename_i j off f hx hf
      obtain ⟨fs, hu, hfs⟩ := fieldOf_some hf
      split at h
      · exact h.elim
      · rename_i k hk
        have hp : 0 < P.cellsOf f.type := by omega
        obtain ⟨inf, hinf⟩ := info_of_pos hp
        have hr := eval_of S hx
        simp only [Rv] at hr
        refine gets_ok S (x := .pointer (some ⟨(g j).1, (g j).2 + (off + f.offset), none⟩)) ?_ (by simp only [Rv]; exact ⟨hr.1, hr.2.1, trivial⟩) h
        simp only [Instr.fieldAt, Sem.run_bind, run_underlying' w hu, Result.andThen_ok, hfs, hr.2.2, Instr.sureAddr, Sem.run_pure, fieldPlace, run_sizeOf w hinf, Sem.run_ite]
        rw [if_neg (by omega), Addr_add, Nat.add_assoc]
        rfl
    · rename_i j v off f hx hf
      obtain ⟨fs, hu, hfs⟩ := fieldOf_some hf
      split at h
      · exact h.elim
      · rename_i k hk
        have hp : 0 < P.cellsOf f.type := by omega
        obtain ⟨inf, hinf⟩ := info_of_pos hp
        have hr := eval_of S hx
        simp only [Rv] at hr
        obtain ⟨hj, hv, A, e1, e2⟩ := hr
        refine gets_ok S (x := .pointer (some (A.add f.offset))) ?_ (by
          simp only [Rv]
          exact ⟨hj, hv, _, rfl, fun hc => by rw [e2 hc, Addr_add, Nat.add_assoc]⟩) h
        simp only [Instr.fieldAt, Sem.run_bind, run_underlying' w hu, Result.andThen_ok, hfs, e1, Instr.sureAddr, Sem.run_pure, fieldPlace, run_sizeOf w hinf, Sem.run_ite]
        rw [if_neg (by omega)]
        rfl
    · exact h.elim
  case field ty x i =>
    simp only [evOp] at h
    split at h
    · rename_i cs f hx hf
      obtain ⟨fs, hu, hfs⟩ := fieldOf_some hf
      have hr := eval_of S hx
      simp only [Rv] at hr
      obtain ⟨xs, e1, e2⟩ := hr
      obtain ⟨d, hd⟩ := partV_under h
      obtain ⟨v, y, q1, q2, q3⟩ := partV_sound hd e2 h w
      refine gets_ok S ?_ q2 q3
      simp only [Instr.field, Sem.run_bind, run_underlying' w hu, Result.andThen_ok, hfs, e1, asAgg, Sem.run_pure, q1]
    · exact h.elim
  case indexAddr ty x ix =>
    simp only [evOp] at h
    split at h
    · rename_i n e j off k i hu hx hix
      obtain ⟨h1, h2⟩ := br_F h
      obtain ⟨h3, h4⟩ := br_F h2
      simp only [decide_eq_true_eq] at h3
      have hr := eval_of S hx
      have hi := eval_of S hix
      simp only [Rv] at hr hi
      rw [hr.2.2, hi]
      refine gets_ok S (run_indexAt w hu (.inl ⟨rfl, rfl⟩) (by simpa using h1) h3) ?_ h4
      simp only [Rv, Addr_add]
      exact ⟨hr.1, hr.2.1, by rw [Nat.add_assoc]⟩
    · rename_i e j off n k i hu hx hix
      obtain ⟨h1, h2⟩ := br_F h
      obtain ⟨h3, h4⟩ := br_F h2
      simp only [decide_eq_true_eq] at h3
      have hr := eval_of S hx
      have hi := eval_of S hix
      simp only [Rv] at hr hi
      obtain ⟨hj, hz, A, cap, e1, e2, e3⟩ := hr
      rw [e1, hi, e3 (by omega)]
      refine gets_ok S (run_indexAt w hu (.inr ⟨rfl, cap, rfl⟩) (by simpa using h1) h3) ?_ h4
      simp only [Rv, Addr_add]
      exact ⟨hj, hz, by rw [Nat.add_assoc]⟩
    · rename_i e j v es n k i hu hx hix
      obtain ⟨h1, h2⟩ := br_F h
      obtain ⟨h3, h4⟩ := br_F h2
      simp only [decide_eq_true_eq] at h3
      have hr := eval_of S hx
      have hi := eval_of S hix
      simp only [Rv] at hr hi
      obtain ⟨hj, hz, A, cap, e1, e2, e3⟩ := hr
      rw [e1, hi]
      refine gets_ok S (run_indexAt w hu (.inr ⟨rfl, cap, rfl⟩) (by simpa using h1) h3) ?_ h4
      simp only [Rv]
      exact ⟨hj, hz, _, rfl, fun hc => by rw [(e3 hc).1, Addr_add]⟩
    · rename_i e j off n cap k i hu hx hix
      obtain ⟨h1, h2⟩ := br_F h
      obtain ⟨h3, h4⟩ := br_F h2
      simp only [decide_eq_true_eq] at h3
      have hr := eval_of S hx
      have hi := eval_of S hix
      simp only [Rv] at hr hi
      obtain ⟨hj, hz, A, e1, e2, e3⟩ := hr
      rw [e1, hi, e3 (by omega)]
      refine gets_ok S (run_indexAt w hu (.inr ⟨rfl, cap, rfl⟩) (by simpa using h1) h3) ?_ h4
      simp only [Rv, Addr_add]
      exact ⟨hj, hz, by rw [Nat.add_assoc]⟩
    · rename_i n e j v off k i hu hx hix
      obtain ⟨h1, h2⟩ := br_F h
      obtain ⟨h3, h4⟩ := br_F h2
      simp only [decide_eq_true_eq] at h3
      have hr := eval_of S hx
      have hi := eval_of S hix
      simp only [Rv] at hr hi
      obtain ⟨hj, hz, A, e1, e2⟩ := hr
      rw [e1, hi]
      refine gets_ok S (run_indexAt w hu (.inl ⟨rfl, rfl⟩) (by simpa using h1) h3) ?_ h4
      simp only [Rv]
      exact ⟨hj, hz, _, rfl, fun hc => by rw [e2 hc, Addr_add, Nat.add_assoc]⟩
    · exact h.elim
  case index ty x ix =>
    simp only [evOp] at h
    split at h
    · rename_i n e cs k i hu hx hix
      obtain ⟨h1, h2⟩ := br_F h
      obtain ⟨h3, h4⟩ := br_F h2
      simp only [decide_eq_true_eq] at h3
      have h1 : 0 < P.cellsOf e := by simpa using h1
      obtain ⟨inf, hinf⟩ := info_of_pos h1
      have hr := eval_of S hx
      have hi := eval_of S hix
      simp only [Rv] at hr hi
      obtain ⟨xs, e1, e2⟩ := hr
      obtain ⟨d, hd⟩ := partV_under h4
      obtain ⟨v, y, q1, q2, q3⟩ := partV_sound hd e2 h4 w
      refine gets_ok S ?_ q2 q3
      simp only [e1, hi, Instr.index, asIntOf, Sem.run_bind, Sem.run_pure, Result.andThen_ok, run_underlying' w hu, Sem.run_ite]
      rw [if_pos h3]
      simp only [run_sizeOf w hinf, Result.andThen_ok, q1]
    · rename_i b k i hu hx hix
      have hr := eval_of S hx
      have hi := eval_of S hix
      simp only [Rv] at hr hi
      split at h
      · rename_i c hc
        refine gets_ok S (v := .int .u8 c.toNat) ?_ (by simp only [Rv]; rfl) h
        simp only [hr, hi, Instr.index, asIntOf, Sem.run_bind, Sem.run_pure, Result.andThen_ok, run_underlying' w hu, hc]
      · exact h.elim
    · exact h.elim
  case makeMap ty r =>
    have fin : ∀ r' : Option Value, (∀ o, r' = some o → ∃ k n, o = .int k n) → (∃ kt vt, P.underlying ty = some (.map kt vt)) → K (.mp m.length) (m ++ [⟨true, .mpI fun _ _ => none⟩]) → Gets P K g m w ((do pure (.value (← Instr.makeMap ty r')) : Sem Next).run P w) := by
      intro r' hr hu hk
      obtain ⟨kt, vt, hu⟩ := hu
      obtain ⟨r1, r2⟩ := makeMap_rep S
      have hrun : (Instr.makeMap ty r').run P w = .ok (.map (some w.heap.size)) { w with heap := w.heap.push (.map #[] 0) } := by
        cases r' with
        | none => simp only [Instr.makeMap, Sem.run_bind, Sem.run_pure, Result.andThen_ok]; rfl
        | some o =>
          obtain ⟨k, n, rfl⟩ := hr o rfl
          simp only [Instr.makeMap, Sem.run_bind, Sem.run_pure, Result.andThen_ok, run_underlying' w hu, asInt, asIntOf]; rfl
      simp only [Sem.run_bind, hrun, Result.andThen_ok, Sem.run_pure, Gets]
      exact ⟨_, _, _, hk, by simp [Rv, newAtP], r1, r2⟩
    cases r with
    | none =>
      simp only [evOp] at h
      split at h
      · rename_i kt vt hu
        rw [addB_eq] at h
        exact fin none (fun _ h => nomatch h) ⟨_, _, hu⟩ h
      · exact h.elim
    | some o =>
      simp only [evOp] at h
      split at h
      · rename_i kt vt k n hu ho
        rw [addB_eq] at h
        have := eval_of S ho
        simp only [Rv] at this
        exact fin (some (a.eval o)) (fun _ h => by cases h; exact ⟨_, _, this⟩) ⟨_, _, hu⟩ h
      · exact h.elim
  case lookup ty x k ok =>
    simp only [evOp] at h
    obtain ⟨v, y, h1, h2, h3⟩ := lookupV_sound S (eval_Rv S x) (eval_Rv S k) h
    exact gets_ok S h1 h2 h3
  case mapUpdate ty x k y =>
    simp only [evOp] at h
    obtain ⟨m', w', h1, h2, h3, h4⟩ := mapUpdV_sound S (eval_Rv S x) (eval_Rv S k) (eval_Rv S y) h
    simp only [Sem.run_bind, h1, Result.andThen_ok, Sem.run_pure, Gets]
    exact ⟨_, m', g, h2, Rv_un, h3, h4⟩
  case extract x i =>
    simp only [evOp] at h
    split at h
    · rename_i vs hx
      obtain ⟨h1, h2⟩ := br_F h
      rw [fV_eq, getT_eq] at h2
      rw [ltL_eq] at h1
      have h1 : i < vs.length := by simpa using h1
      have hr := eval_of S hx
      simp only [Rv] at hr
      obtain ⟨xs, e1, e2⟩ := hr
      have hl := Rvs_length e2
      rw [Array.length_toList] at hl
      have hxs : xs[i]? = some (xs.toList.getD i undef) := by
        simp [List.getD_eq_getElem?_getD, show i < xs.size by omega]
      refine gets_ok S ?_ (Rvs_getD e2 i) h2
      simp only [e1, Instr.extract, hxs, Sem.run_pure]
    · exact h.elim
  case call c =>
    simp only [evOp] at h
    split at h
    · rename_i f hc
      split at h
      · rename_i f' b d hf
        rw [evArgs_eq] at h
        obtain ⟨r, m', h1, h2⟩ := h
        rw [fV_eq] at h2
        have hr := eval_of S hf
        simp only [Rv] at hr
        obtain ⟨xs, ys, e1, e2, e3⟩ := hr
        have hargs : Rvs m.length g (appL b (appL (c.args.toList.map (evO ng t)) d)) (xs.toList ++ ((c.args.toList.map a.eval) ++ ys.toList)) := by
          rw [appL_eq, appL_eq]
          exact Rvs_append e2 (Rvs_append (args_rel S _) e3)
        have := h1 g w _ S.glob S.rep hargs
        simp only [resolve, hc, e1, Deferred.ofValue, Sem.run_bind, Sem.run_pure, Result.andThen_ok, invoke]
        have hx : (xs ++ c.args.map a.eval ++ ys) = (xs.toList ++ ((c.args.toList.map a.eval) ++ ys.toList)).toArray := by
          apply Array.ext'; simp
        rw [hx]
        revert this
        cases (callFunc f' (xs.toList ++ ((c.args.toList.map a.eval) ++ ys.toList)).toArray).run P w with
        | halt x w' => exact fun h => h.elim
        | ok nx w' =>
          cases nx <;> intro this <;> first
            | exact this.elim
            | skip
          case value x =>
            obtain ⟨g', k1, k2, k3⟩ := this
            exact ⟨r, m', g', h2, k1, k2, k3⟩
          case enter f2 ys2 =>
            refine Calls.mono this ?_
            rintro e w2 ⟨g', x, k0, k1, k2, k3⟩
            exact ⟨x, k0, r, m', g', h2, k1, k2, k3⟩
      · exact h.elim
    · rename_i hc
      split at h
      · rename_i x ty hx hty
        obtain ⟨v, r, q1, q2, q3⟩ := lenV_sound (eval_Rv S x) h w c.argTypes hty o.type
        have hargs : c.args.map a.eval = #[a.eval x] := by apply Array.ext'; simp [hx]
        simp only [resolve, hc, Sem.run_bind, Sem.run_pure, Result.andThen_ok, invoke, builtin, hargs]
        exact gets_ok2 S q1 q2 q3
      · exact h.elim
    · rename_i hc
      split at h
      · rename_i s x ty tx hx hty
        split at h
        · rename_i e' he'
          obtain ⟨r, w', q1, q2⟩ := appendV_sound (rt := o.type) S (eval_Rv S s) (eval_Rv S x) he' h
          have hargs : c.args.map a.eval = #[a.eval s, a.eval x] := by apply Array.ext'; simp [hx]
          have hats : c.argTypes = #[ty, tx] := by apply Array.ext'; simpa using hty
          simp only [resolve, hc, Sem.run_bind, Sem.run_pure, Result.andThen_ok, invoke, builtin, hargs, hats, q1, Gets]
          exact q2
        · exact h.elim
      · exact h.elim
    · rename_i hc
      split at h
      · rename_i d x ty ts hx hty
        obtain ⟨r, w', q1, q2⟩ := copyV_sound (rt := o.type) (at' := c.argTypes) S (by rw [hty]; rfl) (eval_Rv S d) (eval_Rv S x) h
        have hargs : c.args.map a.eval = #[a.eval d, a.eval x] := by apply Array.ext'; simp [hx]
        simp only [resolve, hc, Sem.run_bind, Sem.run_pure, Result.andThen_ok, invoke, builtin, hargs, q1, Gets]
        exact q2
      · exact h.elim
    · rename_i hc
      rw [evArgs_eq] at h
      have hr := args_rel S c.args.toList
      simp only [resolve, hc, Sem.run_bind, Sem.run_pure, Result.andThen_ok, invoke, builtin]
      cases hl : c.args.toList with
      | nil => rw [hl] at h; exact h.elim
      | cons x l =>
        rw [hl] at h hr
        have hint : ∃ k a, evO ng t x = .int k a := by
          simp only [List.map_cons] at h
          cases he : evO ng t x <;> rw [he] at h <;> first | exact ⟨_, _, rfl⟩ | exact h.elim
        obtain ⟨k0, a0, he⟩ := hint
        simp only [List.map_cons, he, mmV] at h
        simp only [List.map_cons, Rvs, he] at hr
        obtain ⟨y, ys, e1, e2, e3⟩ := hr
        cases e1
        obtain ⟨v, r, q1, q2, q3⟩ := maxV_sound true _ _ _ _ e3 e2 ⟨_, _, rfl⟩ h w
        refine gets_ok2 S ?_ q2 q3
        simp only [Builtin.max_, Array.toList_map, hl, List.map_cons]
        simpa using q1
    · rename_i hc
      rw [evArgs_eq] at h
      have hr := args_rel S c.args.toList
      simp only [resolve, hc, Sem.run_bind, Sem.run_pure, Result.andThen_ok, invoke, builtin]
      cases hl : c.args.toList with
      | nil => rw [hl] at h; exact h.elim
      | cons x l =>
        rw [hl] at h hr
        have hint : ∃ k a, evO ng t x = .int k a := by
          simp only [List.map_cons] at h
          cases he : evO ng t x <;> rw [he] at h <;> first | exact ⟨_, _, rfl⟩ | exact h.elim
        obtain ⟨k0, a0, he⟩ := hint
        simp only [List.map_cons, he, mmV] at h
        simp only [List.map_cons, Rvs, he] at hr
        obtain ⟨y, ys, e1, e2, e3⟩ := hr
        cases e1
        obtain ⟨v, r, q1, q2, q3⟩ := maxV_sound false _ _ _ _ e3 e2 ⟨_, _, rfl⟩ h w
        refine gets_ok2 S ?_ q2 q3
        simp only [Builtin.min_, Array.toList_map, hl, List.map_cons]
        simpa using q1
    · exact h.elim
end
end Go.Eng
/- The engine, part 11: the evaluator is sound for code without drawn orders. No condition. -/
namespace Go.Eng
open Go
section
variable {P : Program} {ng : Nat}

theorem Step.glob {g g' : Nat → Pl} {m m' : List Blk} {w w' : World} (h : Step g m w g' m' w') (hg : ng ≤ m.length ∧ ∀ i, i < ng → g i = ⟨i, 0, 0, 0⟩) : ng ≤ m'.length ∧ ∀ i, i < ng → g' i = ⟨i, 0, 0, 0⟩ :=
  ⟨Nat.le_trans hg.1 h.len, fun i hi => by rw [(h.ag i (by omega)).zero (by rw [hg.2 i hi])]; exact hg.2 i hi⟩
theorem Sim.put {g g' : Nat → Pl} {t : List V} {m m' : List Blk} {a : Act} {w w' : World} (S : Sim ng g t m a w) (d : Option Tmp) {v : V} {x : Value} (hr : Rv m'.length g' v x) (hp : Rep g' m' w') (hs : Step g m w g' m' w') :
    Sim ng g' (match d with | some d => t.set d v | none => t) m' (a.put d x) w' := by
  have ht := Rvs_monoA hs.len hs.ag _ S.tmps
  cases d with
  | none => exact ⟨S.defers, ht, hp, hs.glob S.glob⟩
  | some d => exact ⟨S.defers, by simpa [Act.put] using Rvs_set ht d hr, hp, hs.glob S.glob⟩
theorem putK_eq (d : Option Tmp) (t : List V) (v : V) (K : List V → Prop) : putK d t v K = K (match d with | some d => t.set d v | none => t) := by
  cases d <;> simp [putK, setT_eq]
theorem dstOf_eq : ∀ (ops : List Oper) (j : Nat), dstOf ops j = (ops[j]?).bind (·.dst)
  | [], j => by simp [dstOf]
  | o :: os, 0 => by simp [dstOf]
  | o :: os, j + 1 => by simp [dstOf, dstOf_eq os j]

/-- 'Q' behind some steps from (g, m, w) at which 'K' holds. -/
def Reach (ng : Nat) (K : List V → List Blk → Prop) (g : Nat → Pl) (m : List Blk) (w : World) (a' : Act) (w' : World) : Prop :=
  ∃ g' t' m', K t' m' ∧ Sim ng g' t' m' a' w' ∧ Step g m w g' m' w'
theorem Reach.from {K : List V → List Blk → Prop} {g g1 : Nat → Pl} {m m1 : List Blk} {w w1 : World} {a' : Act} {w' : World} (h : Step g m w g1 m1 w1) (r : Reach ng K g1 m1 w1 a' w') : Reach ng K g m w a' w' := by
  obtain ⟨g', t', m', h1, h2, h3⟩ := r
  exact ⟨g', t', m', h1, h2, h.trans h3⟩

theorem oper_wp_of_gets {o : Oper} {a : Act} {w : World} {g : Nat → Pl} {t : List V} {m : List Blk} {K : V → List Blk → Prop} {next : Act → World → Prop} {Q : Exit → Act → World → Prop}
    (S : Sim ng g t m a w) (h : Gets P K g m w ((execOp a.eval o).run P w))
    (hn : ∀ v m' g' x w', K v m' → Sim ng g' (match o.dst with | some d => t.set d v | none => t) m' (a.put o.dst x) w' → Step g m w g' m' w' → next (a.put o.dst x) w') : o.wp P a w next Q := by
  unfold Oper.wp
  generalize (execOp a.eval o).run P w = r at h
  cases r with
  | halt x w' => exact h.elim
  | ok nx w' =>
    cases nx <;> simp only [Gets] at h <;> try exact h.elim
    case value x =>
      obtain ⟨v, m', g', h1, h2, h3, h4⟩ := h
      exact hn v m' g' x w' h1 (S.put o.dst h2 h3 h4) h4
    case skip =>
      obtain ⟨v, m', g', h1, h2, h3, h4⟩ := h
      exact hn v m' g' undef w' h1 (S.put o.dst h2 h3 h4) h4
    case enter f xs =>
      refine Calls.mono h ?_
      rintro e w2 ⟨x, rfl, v, m', g', h1, h2, h3, h4⟩
      exact hn v m' g' x w2 h1 (S.put o.dst h2 h3 h4) h4

theorem evOps_sound {ops : Array Oper} {Q : Exit → Act → World → Prop} : ∀ (l : List Oper) (t : List V) (m : List Blk) (K : List V → List Blk → Prop) (g : Nat → Pl) (a : Act) (w : World),
    evOps P ng ops.toList l t m K → Sim ng g t m a w → (∀ a' w', Reach ng K g m w a' w' → Q .normal a' w') → wpList P ops Q l a w
  | [], t, m, K, g, a, w, h, S, hQ => hQ a w ⟨g, t, m, h, S, .refl _ _ _⟩
  | o :: os, t, m, K, g, a, w, h, S, hQ => by
    have exec : ∀ (t : List V), Sim ng g t m a w → (evOp P ng o.op t m fun v m' => putK o.dst t v fun t' => evOps P ng ops.toList os t' m' K) → o.wp P a w (wpList P ops Q os) Q := by
      intro t S h
      refine oper_wp_of_gets S (evOp_sound S o h) (fun v m' g' x w' hk S' hs => ?_)
      rw [putK_eq] at hk
      exact evOps_sound os _ m' K g' _ w' hk S' (fun a2 w2 r => hQ a2 w2 (r.from hs))
    have skip : ∀ (t : List V), Sim ng g t m a w → (putK o.dst t V.un fun t' => evOps P ng ops.toList os t' m K) → wpList P ops Q os (a.put o.dst undef) w := by
      intro t S h
      rw [putK_eq] at h
      exact evOps_sound os _ m K g _ w h (S.put o.dst Rv_un S.rep (.refl _ _ _)) hQ
    simp only [evOps] at h
    simp only [wpList]
    split at h
    · rename_i hg
      rw [if_pos (by simp [Region.wanted, hg])]
      exact .inl (exec t S h)
    · rename_i j want hg
      split at h
      · rename_i d hd
        rw [dstOf_eq] at hd
        have hy : ∀ b : Bool, a.tmps.getD d undef = .bool b → d < a.tmps.size → yielded ops a.tmps j = some b := by
          intro b hb hlt
          have hd' : (ops[j]?).bind (·.dst) = some d := by simpa using hd
          simp only [yielded, hd', Option.bind_some]
          have : a.tmps[d]? = some (.bool b) := by
            rw [Array.getElem?_eq_getElem hlt]
            simpa [Array.getD_eq_getD_getElem?, hlt] using hb
          rw [this]
        have hlen := Rvs_length S.tmps
        rw [Array.length_toList] at hlen
        split at h
        · rename_i c hc
          have hrv := Rvs_getD S.tmps d
          rw [← getT_eq, hc] at hrv
          simp only [Rv] at hrv
          have hlt : d < a.tmps.size := by
            rcases Nat.lt_or_ge d a.tmps.size with h' | h'
            · exact h'
            · rw [List.getD_eq_getElem?_getD, List.getElem?_eq_none (by simpa using h')] at hrv
              simp [undef] at hrv
          have hrv' : a.tmps.getD d undef = .bool c := by simpa using hrv
          have hyc := hy c hrv' hlt
          have hset : ∀ b, c = b → Sim ng g (t.set d (.bool b)) m a w := by
            rintro b rfl
            have := Rvs_set S.tmps d (v := .bool c) (x := .bool c) (Rv_bool c)
            have he : a.tmps.toList.set d (.bool c) = a.tmps.toList := by
              apply List.ext_getElem?
              intro i
              rw [List.getElem?_set]
              by_cases hi : d = i
              · subst hi
                simp only [Array.length_toList, hlt, if_true]
                have : a.tmps[d]? = some (.bool c) := by
                  rw [Array.getElem?_eq_getElem hlt]
                  simpa [Array.getD_eq_getD_getElem?, hlt] using hrv'
                simpa using this.symm
              · rw [if_neg hi]
            rw [he] at this
            exact ⟨S.defers, this, S.rep, S.glob⟩
          rw [br_iff] at h
          rcases h with ⟨hct, h⟩ | ⟨hcf, h⟩
          · rw [setT_eq] at h
            subst hct
            cases want with
            | true =>
              rw [if_pos (by simp [Region.wanted, hg, hyc])]
              exact .inl (exec _ (hset true rfl) h)
            | false =>
              rw [if_neg (by simp [Region.wanted, hg, hyc])]
              exact skip _ (hset true rfl) h
          · rw [setT_eq] at h
            subst hcf
            cases want with
            | true =>
              rw [if_neg (by simp [Region.wanted, hg, hyc])]
              exact skip _ (hset false rfl) h
            | false =>
              rw [if_pos (by simp [Region.wanted, hg, hyc])]
              exact .inl (exec _ (hset false rfl) h)
        · rename_i xs hc
          have hrv := Rvs_getD S.tmps d
          rw [← getT_eq, hc] at hrv
          simp only [Rv] at hrv
          have hyn : yielded ops a.tmps j = none := by
            have hd' : (ops[j]?).bind (·.dst) = some d := by simpa using hd
            simp only [yielded, hd', Option.bind_some]
            rcases Nat.lt_or_ge d a.tmps.size with h' | h'
            · have : a.tmps[d]? = some (.tuple xs) := by
                rw [Array.getElem?_eq_getElem h']
                simpa [h'] using hrv
              rw [this]
            · rw [Array.getElem?_eq_none h']
          rw [if_neg (by simp [Region.wanted, hg, hyn])]
          exact skip t S h
        · exact h.elim
      · exact h.elim
end
end Go.Eng
