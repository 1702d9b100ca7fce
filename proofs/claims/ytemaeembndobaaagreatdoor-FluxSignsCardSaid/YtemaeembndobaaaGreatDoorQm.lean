/- Laws whose arguments are lists too: from a contract to a row. No condition. -/
import Derived.Test.YtemaeembndobaaaGreatDoorQ
import Derived.Test.YtemaeembndobaaaGreatDoorTb
import Derived.ChangeSlices
import Derived.JoinedCond
namespace Go.Proofs.YtemaeembndobaaaGreatDoor
open Go Go.Eng Go.ChangeShapes Go.WideShapes Go.RowKit
set_option maxRecDepth 100000
set_option linter.unusedSimpArgs false
set_option linter.unusedVariables false

/-- The tables and read-only blocks 'z' lie in W. -/
structure Lay (W : World) (z : List Blk) (g : Nat → Pl) : Prop where
  rep : Rep g (GG z) W
  base : ∀ i, i < 3 → g i = ⟨i, 0, 0, 0⟩
  ro : roM (GG z) = true
  sc : scM (GG z).length (GG z) = true
theorem roM_snoc : ∀ {m : List Blk} {b : Blk}, roM m = true → b.w = false → roM (m ++ [b]) = true
  | [], b, _, h => by simp [roM, h]
  | c :: m, b, h, h' => by
    simp only [roM, List.cons_append, Bool.and_eq_true] at *
    exact ⟨h.1, roM_snoc h.2 h'⟩
theorem Lay.len {W : World} {z : List Blk} {g : Nat → Pl} (h : Lay W z g) : 0 < W.heap.size := by
  have h0 : ∃ b, (GG z)[0]? = some b := ⟨_, rfl⟩
  obtain ⟨b, hb⟩ := h0
  have := (h.rep.blk 0 b hb).size
  omega
/-- One block more. -/
theorem Lay.snoc {W : World} {z : List Blk} {g : Nat → Pl} (h : Lay W z g) (b : Blk) (p : Pl) (hw : b.w = false) (hb : RepB ((GG z).length + 1) (newAtP g (GG z).length p) W p b) (hs : b.b.sc ((GG z).length + 1) = true) :
    Lay W (z ++ [b]) (newAtP g (GG z).length p) := by
  have e : GG (z ++ [b]) = GG z ++ [b] := rfl
  have hold : ∀ i, i < (GG z).length → newAtP g (GG z).length p i = g i := newAtP_old g _ p
  have hnew : newAtP g (GG z).length p (GG z).length = p := by simp [newAtP]
  refine ⟨?_, fun i hi => ?_, by rw [e]; exact roM_snoc h.ro hw, ?_⟩
  · rw [e]
    refine ⟨fun i d hd => ?_, fun i j c d hij hc hd hcw _ _ => ?_⟩
    · rcases snoc_get hd with ⟨hi, hd⟩ | ⟨rfl, rfl⟩
      · rw [hold i hi]
        exact (h.rep.blk i d hd).congr rfl (by simp) fun k hk => .inl (hold k hk)
      · rw [hnew]
        simpa using hb
    · have := roM_get (by rw [← e]; exact (by rw [e]; exact roM_snoc h.ro hw)) hc
      rw [this] at hcw; cases hcw
  · have : i < (GG z).length := by simp; omega
    rw [hold i this]; exact h.base i hi
  · rw [e]
    refine scM_app (scM_mono (by simp) _ h.sc) ?_
    simp only [List.length_append, List.length_cons, List.length_nil]
    simp [scM] at hs ⊢
    exact hs
theorem in64_wf {n : Int} (h : (Lit.int .i64 n).wf = true) : in64 n := by
  simp only [Lit.wf, Bool.and_eq_true, decide_eq_true_eq] at h
  have e1 : IntKind.min .i64 = -9223372036854775808 := by decide
  have e2 : IntKind.max .i64 = 9223372036854775807 := by decide
  rw [e1, e2] at h
  exact ⟨h.1, by omega⟩
section
variable {H : Type} {enc : TypeId × Value → H}
/-- A slice of whole numbers among the arguments. -/
theorem bulk_lits (k : IntKind) : ∀ l : List Int, l.length ≤ Rows.uptoBulkAll (lits (H := H) k l)
  | [] => Nat.zero_le _
  | a :: l => by
    have h := bulk_lits k l
    show l.length + 1 ≤ Rows.uptoBulk (DataW.lit (.int k a)) + Rows.uptoBulkAll (lits (H := H) k l)
    have h1 : Rows.uptoBulk (H := H) (DataW.lit (.int k a)) = 1 := rfl
    omega
theorem bulk_slice (k : IntKind) (l r : List Int) : l.length ≤ Rows.uptoBulk (DataW.slice (lits (H := H) k l) (lits k r)) := by
  have h := bulk_lits (H := H) k l
  show l.length ≤ Rows.uptoBulkAll (lits (H := H) k l) + Rows.uptoBulkAll (lits k r) + 1
  omega
theorem lay_bulk {W : World} {z : List Blk} {g : Nat → Pl} (h : Lay W z g) {t e : TypeId} {fuel : Nat} {x : Value} {d : DataW H} {ps : List MemPlace} {sp : Nat → Bool} {held : Bool} (ht : Tryz.prog.underlying t = some (.slice e)) (he : Tryz.prog.underlying e = some (.int .i64)) (hc : Tryz.prog.cellsOf e = 1) (hb : Tryz.prog.bytesOf e = 8)
    (hr : DataW.trod enc Tryz.prog W 0 sp held fuel t [x] = some (d, ps)) (hsz : (d.weights Tryz.prog t).all (· ≤ reachBytes) = true) :
    ∃ b v l g', Lay W (z ++ [b]) g' ∧ (∀ i, i < (GG z).length → g' i = g i) ∧ Sli (GG (z ++ [b])) v l ∧ Rv (GG (z ++ [b])).length g' v x ∧ l.length ≤ 17592186044416 ∧ l.length ≤ Rows.uptoBulk d := by
  have hlen := h.len
  have hnil : ∀ (b : Blk) , b = ⟨false, .ints .i64 []⟩ → RepB ((GG z).length + 1) (newAtP g (GG z).length ⟨0, 0, 0, 0⟩) W ⟨0, 0, 0, 0⟩ b := fun b hb => by
    subst hb
    exact ⟨hlen, (fun j v hv => by simp [B.get] at hv), (fun h => nomatch h), (fun _ j hj => absurd hj (Nat.not_lt_zero j)), (fun f hf => nomatch hf), rfl⟩
  rcases open_ints ht he hc hr with ⟨h1, h2⟩ | ⟨a, len, cap, zs, h1, _, hlc, _, hzl, h2, hcell, hwf⟩
  · injection h1 with h1
    exact ⟨⟨false, .ints .i64 []⟩, .raw (.slice none 0 0), [], _, h.snoc _ ⟨0, 0, 0, 0⟩ rfl (hnil _ rfl) rfl, newAtP_old g _ _, .inl ⟨rfl, rfl⟩, h1, Nat.zero_le _, Nat.zero_le _⟩
  · injection h1 with h1
    have hd : d = .slice (lits .i64 (zs.take len)) (lits .i64 (zs.drop len)) := congrArg Prod.fst h2
    have hlz : len ≤ zs.length := by rw [hzl]; split <;> omega
    have hle : len ≤ 17592186044416 := by
      rw [hd] at hsz
      unfold DataW.weights at hsz
      rw [ht] at hsz
      simp only [List.all_cons, Bool.and_eq_true, decide_eq_true_eq, hb, lits, List.length_map, List.length_take, List.length_drop] at hsz
      have : reachBytes = 140737488351232 := rfl
      omega
    have htl : (zs.take len).length = len := by rw [List.length_take]; omega
    have hbulk : (zs.take len).length ≤ Rows.uptoBulk d := by
      rw [hd]; exact bulk_slice _ _ _
    rcases Nat.eq_zero_or_pos len with rfl | hpos
    · refine ⟨⟨false, .ints .i64 []⟩, .sl (GG z).length 0 0, [], _, h.snoc _ ⟨0, 0, 0, 0⟩ rfl (hnil _ rfl) rfl, newAtP_old g _ _, .inr ⟨_, _, rfl, ?_⟩, ?_, Nat.zero_le _, Nat.zero_le _⟩
      · refine SlI.ints (L := []) (w := false) ?_ (fun i hi => absurd hi (Nat.not_lt_zero i)) (fun i hi => absurd hi (Nat.not_lt_zero i)) (by decide)
        exact getB_app0 (M := GG z)
      · refine ⟨by simp, by simp [newAtP], some a, cap, h1, hlc, fun h => absurd h (Nat.lt_irrefl 0)⟩
    · have h0 := hcell 0 (by omega)
      have hspot : a.spot = none := by
        unfold World.cell? at h0
        have : a.add 0 = a := rfl
        rw [this] at h0
        split at h0
        · split at h0
          · exact absurd h0 (by simp)
          · rename_i hs; simpa using hs
        · exact absurd h0 (by simp)
      obtain ⟨ab, ao, asp⟩ := a
      simp only at hspot
      subst hspot
      have hadd : ∀ i, (Addr.mk ab ao none).add i = ⟨ab, ao + i, none⟩ := by
        intro i; unfold Addr.add
        split
        · rename_i h; subst h; rfl
        · rfl
      have hsize : ab < W.heap.size := by
        unfold World.cell? at h0
        rw [hadd] at h0
        simp only at h0
        split at h0
        · rename_i he; exact (Array.getElem?_eq_some_iff.1 he).1
        · exact absurd h0 (by simp)
      refine ⟨⟨false, .ints .i64 (zs.take len)⟩, .sl (GG z).length 0 (zs.take len).length, zs.take len, _, h.snoc _ ⟨ab, ao, 0, 0⟩ rfl ?_ rfl, newAtP_old g _ _, .inr ⟨_, _, rfl, ?_⟩, ?_, by omega, hbulk⟩
      · refine ⟨hsize, fun j v hv => ?_, (fun h => nomatch h), (fun _ j hj => absurd hj (Nat.not_lt_zero j)), (fun f hf => nomatch hf), rfl⟩
        have hv : ((zs.take len)[j]?).map (V.int .i64) = some v := hv
        obtain ⟨y, hy, rfl⟩ := Option.map_eq_some_iff.1 hv
        have hj : j < len := by
          have := (List.getElem?_eq_some_iff.1 hy).1; omega
        refine ⟨.int .i64 y, ?_, rfl⟩
        have := hcell j (by omega)
        rw [hadd] at this
        rw [List.getElem?_take, if_pos hj] at hy
        show W.cell? ⟨ab, ao + j, none⟩ = _
        rw [this, List.getD_eq_getElem?_getD, hy]; rfl
      · refine SlI.ints (L := zs.take len) (w := false) (getB_app0 (M := GG z)) (fun i hi => ⟨by omega, by rw [Nat.zero_add]⟩) (fun i hi => ?_) (by omega)
        rw [List.getD_eq_getElem?_getD, List.getElem?_eq_getElem hi]
        exact in64_wf (hwf _ (List.mem_of_mem_take (List.getElem_mem hi)))
      · refine ⟨by simp, by simp [newAtP], some ⟨ab, ao, none⟩, cap, by rw [htl]; exact h1, by omega, fun _ => by simp [newAtP]⟩
theorem lay_ints {W : World} {z : List Blk} {g : Nat → Pl} (h : Lay W z g) {t e : TypeId} {fuel : Nat} {x : Value} {d : DataW H} {ps : List MemPlace} {sp : Nat → Bool} {held : Bool} (ht : Tryz.prog.underlying t = some (.slice e)) (he : Tryz.prog.underlying e = some (.int .i64)) (hc : Tryz.prog.cellsOf e = 1) (hb : Tryz.prog.bytesOf e = 8)
    (hr : DataW.trod enc Tryz.prog W 0 sp held fuel t [x] = some (d, ps)) (hsz : (d.weights Tryz.prog t).all (· ≤ reachBytes) = true) :
    ∃ b v l g', Lay W (z ++ [b]) g' ∧ (∀ i, i < (GG z).length → g' i = g i) ∧ Sli (GG (z ++ [b])) v l ∧ Rv (GG (z ++ [b])).length g' v x ∧ l.length ≤ 17592186044416 := by
  obtain ⟨b, v, l, g', h1, h2, h3, h4, h5, _⟩ := lay_bulk h ht he hc hb hr hsz
  exact ⟨b, v, l, g', h1, h2, h3, h4, h5⟩
/-- A struct whose fields take one cell each. -/
theorem open_row {W : World} {t : TypeId} {fs : Array Field} {ts : List (TypeId × Nat)} {base b0 : Nat} {sp : Nat → Bool} {held : Bool} {v : Value} {d : DataW H} {ps : List MemPlace} {r : Reach} (hu : Tryz.prog.underlying t = some (.struct fs)) (hts : fs.toList.map (fun f => (f.type, f.offset)) = ts)
    (hc : Tryz.prog.cellsOf t = ts.length) (h1 : ∀ (i : Nat) (p : TypeId × Nat), ts[i]? = some p → p.2 = i ∧ Tryz.prog.cellsOf p.1 = 1) (hv : Value.okWide Tryz.prog W r b0 t v) (h : DataW.Trod enc Tryz.prog W base sp held t v d ps) :
    ∃ (l : List Value) (ds : List (DataW H)), v = .agg l.toArray ∧ d = .agg ds ∧ l.length = ts.length ∧ ds.length = ts.length ∧ (d.weights Tryz.prog t = DataW.weightsEach Tryz.prog (ts.map (·.1)) ds) ∧
      ∀ (i : Nat) (p : TypeId × Nat), ts[i]? = some p → ∃ x e fuel q, l[i]? = some x ∧ ds[i]? = some e ∧ DataW.trod enc Tryz.prog W base sp held fuel p.1 [x] = some (e, q) := by
  obtain ⟨cs, rfl, hsz⟩ := okWide_struct hu hv
  obtain ⟨fuel, h⟩ := h
  obtain ⟨xs, n, rfl, hx, hlen, hn, hel⟩ := DataW.trod_struct hu h
  obtain ⟨l⟩ := cs
  have hd : d = .agg (xs.map (·.1)) := congrArg Prod.fst hx
  have hl : l.length = ts.length := by rw [← hc]; exact hsz
  have hfl : fs.size = ts.length := by
    have := congrArg List.length hts
    simpa using this
  refine ⟨l, xs.map (·.1), rfl, hd, hl, by rw [List.length_map, hn, hfl], ?_, fun i p hp => ?_⟩
  · rw [hd]
    unfold DataW.weights
    rw [hu]
    simp only
    congr 1
    rw [← hts, List.map_map]
    rfl
  · obtain ⟨e1, e2⟩ := h1 i p hp
    have hi : i < ts.length := (List.getElem?_eq_some_iff.1 hp).1
    have hf : ∃ f, fs[i]? = some f ∧ (f.type, f.offset) = p := by
      rw [← hts, List.getElem?_map] at hp
      obtain ⟨f, hf, he⟩ := Option.map_eq_some_iff.1 hp
      exact ⟨f, by rw [← Array.getElem?_toList]; exact hf, he⟩
    obtain ⟨f, hf, he⟩ := hf
    have h3 := hel i f hf
    have et : f.type = p.1 := by rw [← he]
    have eo : f.offset = i := by rw [← e1, ← he]
    rw [et, eo, e2] at h3
    have h4 : i < xs.length := by omega
    rw [List.getElem?_eq_getElem h4] at h3
    have hcell : (Value.agg { toList := l }).cells.toList = l := rfl
    rw [hcell] at h3
    have hli : i < l.length := by omega
    have htk : (l.drop i).take 1 = [l[i]] := by
      rw [List.drop_eq_getElem_cons hli]; rfl
    rw [htk] at h3
    exact ⟨l[i], xs[i].1, n, xs[i].2, List.getElem?_eq_getElem hli, by rw [List.getElem?_map, List.getElem?_eq_getElem h4]; rfl, h3⟩
theorem two_of {α : Type} {l : List α} (h : l.length = 2) : ∃ a b, l = [a, b] := by
  match l, h with
  | [a, b], _ => exact ⟨a, b, rfl⟩
theorem six_of {α : Type} {l : List α} (h : l.length = 6) : ∃ a b c d e f, l = [a, b, c, d, e, f] := by
  match l, h with
  | [a, b, c, d, e, f], _ => exact ⟨a, b, c, d, e, f, rfl⟩
theorem nofoot_ro {g : Nat → Pl} {m : List Blk} (h : roM m = true) {p : Nat} : ¬ Foot g m p := by
  rintro ⟨i, b, hb, hw, _⟩
  rw [roM_get h hb] at hw
  cases hw
theorem lay0 {W : World} (h : laidMetH Tryz.prog [("tarn/cube.frames", Rows.laid_tarn_cube_frames), ("tarn/geom.frames", Rows.laid_tarn_geom_frames)] W) (hs : W.ShapedOpen Tryz.prog) : Lay W [] (fun i => ⟨i, 0, 0, 0⟩) :=
  ⟨rep_of h hs, fun _ _ => rfl, by kernel_rfl, by kernel_rfl⟩
/-- A law's contract, at a world that fits. -/
theorem calls_lay {f : FuncId} (fn : Func) {args : List V} {xs : List Value} {W : World} {z : List Blk} {g : Nat → Pl} (hf : Tryz.prog.funcs[f]? = some fn) (hp : plainFn fn = true) (L : Lay W z g) (hk : COk Tryz.prog 3 f args (GG z) (Bo true) (GG z))
    (ha : Rvs (GG z).length g args xs) : Calls Tryz.prog f xs.toArray W fun e W' => e = .returned (.bool true) ∧ Below W.heap.size W W' := by
  have key := hk g W xs ⟨by simp, fun i hi => L.base i hi⟩ L.rep ha
  simp only [plainFn, Bool.and_eq_true, bne_iff_ne, ne_eq, Option.isSome_iff_exists] at hp
  obtain ⟨h1, c, h2⟩ := hp
  have e : (callFunc f xs.toArray).run Tryz.prog W = .ok (.enter f xs.toArray) W := by simp [callFunc, hf, h1, h2]
  rw [e] at key
  refine key.mono ?_
  rintro e W' ⟨g', x, rfl, hx, _, st⟩
  have hx : x = .bool true := hx
  subst hx
  exact ⟨rfl, st.os, st.tape, st.output, st.size, fun k hk => st.same k hk (nofoot_ro L.ro)⟩
theorem handed_sized {a : Assume} {C : Checked} {os : Os} {f : FuncId} {fn : Func} {s : ChangeSpec} {conds : List PathCond} {apart fresh handsOn again : Bool} {X : World → Array Value → Prop}
    (hX : ∀ (w w' : World) (args : Array Value), w.heap = w'.heap → X w args → X w' args)
    (own : ownKnob C.prog.godebug = none) (started : os.Started) (noInit : C.prog.inits.idxOf? f = none) (hfn : C.prog.funcs[f]? = some fn)
    (witness : ∃ (w : World) (tape : Tape) (i : Input), w.os = os ∧ (w.forCall tape i).Shaped C.prog ∧ i.vars = [] ∧ Input.okWide C.prog (w.forCall tape i) .any w.heap.size f i ∧
      ((s.pre enc C.prog fn conds apart (w.forCall tape i).memory i.args ∧ X (w.forCall tape i).memory i.args) ∧ sizedMet enc C.prog fn (OpenSpec.ofChange s) apart (w.forCall tape i).memory i.args) ∧ a.holds C.prog (lone (Frame.enter C.prog f i.args .normal) [] (w.forCall tape i)))
    (contract : ∀ (W : World) (base : Nat) (args : Array Value) (ds gs : List (DataW H)) (before : List MemPlace),
      (∀ (j : Nat) t v, fn.params[j]? = some t → args[j]? = some v → Value.okWide C.prog W .any base t v) →
      DataW.Whole enc C.prog fn.params.toList s.vars apart W args.toList ds gs before →
      (DataW.weightsEach C.prog (fn.params.toList ++ (OpenSpec.ofChange s).bare.plain.varTypes C.prog) (ds ++ gs)).all (· ≤ reachBytes) = true →
      X W args → W.ShapedOpen C.prog →
      Calls C.prog f args W fun e W' => ∃ v, e = .returned v ∧ s.post enc C.prog fn apart fresh handsOn again W args v W') :
    ReturnsInHanded a C os f .any (fun w args => (s.pre enc C.prog fn conds apart w args ∧ X w args) ∧ sizedMet enc C.prog fn (OpenSpec.ofChange s) apart w args) (s.post enc C.prog fn apart fresh handsOn again) := by
  refine returnsInHanded_of_calls own started noInit witness ?_
  intro w tape i _ hsh _ hok hpre hholds
  obtain ⟨_, _, _, fn', hfn', _, _, _, _, hval⟩ := hok
  have e : fn' = fn := Option.some.inj (hfn'.symm.trans hfn)
  subst e
  obtain ⟨⟨⟨ds, gs, before, hw, hc⟩, hx⟩, hz⟩ := hpre
  have hw' := DataW.Whole.of_heap (w' := w.forCall tape i) (by rfl) hw
  refine (contract (w.forCall tape i) w.heap.size i.args ds gs before hval hw' (hz.weights hw) (hX _ _ _ (by rfl) hx) hsh).mono fun e W' ⟨v, he, hp⟩ => ?_
  subst he
  exact ChangeSpec.post_blind hp
/-- A law that says 'true' and leaves its arguments. -/
theorem law_sized {f : FuncId} (fn : Func) (s : ChangeSpec) (os : Os) (started : os.Started) (hf : Tryz.prog.funcs[f]? = some fn) (hp : plainFn fn = true) (noInit : Tryz.prog.inits.idxOf? f = none)
    (hv : s.vars = []) (hres : fn.resultTypes = #[4]) (hts : ∀ t ∈ fn.params.toList, Tryz.prog.readableRec t = true ∧ t < Tryz.prog.types.size)
    (hs : ∀ ds : List (DataW H), ds.length = fn.params.toList.length → s.fn H ds = { results := [.lit (.bool true)], args := ds })
    (witness : ∃ (w : World) (tape : Tape) (i : Input), w.os = os ∧ (w.forCall tape i).Shaped Tryz.checked.prog ∧ i.vars = [] ∧ Input.okWide Tryz.checked.prog (w.forCall tape i) .any w.heap.size f i ∧
      ((s.pre enc Tryz.checked.prog fn [] false (w.forCall tape i).memory i.args ∧ laidMetH Tryz.prog laid2 (w.forCall tape i).memory) ∧ sizedMet enc Tryz.checked.prog fn (OpenSpec.ofChange s) false (w.forCall tape i).memory i.args) ∧ ({} : Assume).holds Tryz.checked.prog (lone (Frame.enter Tryz.checked.prog f i.args .normal) [] (w.forCall tape i)))
    (hcon : ∀ (W : World) (base : Nat) (args : Array Value) (ds : List (DataW H)) (ps : List MemPlace), (∀ (j : Nat) t v, fn.params[j]? = some t → args[j]? = some v → Value.okWide Tryz.prog W .any base t v) →
      DataW.TrodAll enc Tryz.prog W 0 (fun _ => true) true fn.params.toList args.toList ds ps → (DataW.weightsEach Tryz.prog fn.params.toList ds).all (· ≤ reachBytes) = true → Lay W [] (fun i => ⟨i, 0, 0, 0⟩) →
      ∃ vs z g, Lay W z g ∧ COk Tryz.prog 3 f vs (GG z) (Bo true) (GG z) ∧ Rvs (GG z).length g vs args.toList) :
    ReturnsInHanded {} Tryz.checked os f .any (fun w args => (s.pre enc Tryz.prog fn [] false w args ∧ laidMetH Tryz.prog laid2 w) ∧ sizedMet enc Tryz.prog fn (OpenSpec.ofChange s) false w args) (s.post enc Tryz.prog fn false true false false) := by
  refine handed_sized (C := Tryz.checked) (X := fun w _ => laidMetH Tryz.prog laid2 w) (fun _ _ _ hh h => h.of_heap hh) own started noInit hf witness ?_
  intro W base args ds gs before hval hW hwt hL hsh
  have hW' := hW
  obtain ⟨p, q, hA, hV, rfl, hfz, hnd⟩ := hW
  rw [hv] at hV
  obtain ⟨rfl, rfl⟩ := trodVars_none hV
  have hvt : (OpenSpec.ofChange s).bare.plain.varTypes Tryz.prog = [] := by
    have : (OpenSpec.ofChange s).bare.plain.vars = [] := hv
    simp [DataSpec.varTypes, this]
  have hwt : (DataW.weightsEach Tryz.prog fn.params.toList ds).all (· ≤ reachBytes) = true := by
    have := hwt
    rw [List.append_nil] at this
    rwa [show (OpenSpec.ofChange s).bare.plain.varTypes Tryz.checked.prog = [] from hvt, List.append_nil] at this
  obtain ⟨vs, z, g, L, hc, hr⟩ := hcon W base args ds p hval hA hwt (lay0 hL hsh)
  have hlen := trodAll_len hA
  refine (calls_lay fn hf hp L hc hr).mono fun e W' ⟨he, hb⟩ => ⟨_, he, ?_⟩
  have hlt := hW'.lt
  refine ⟨ds, [], p ++ [], [], p, [], hW', ?_, ?_, ?_, hb.frame _, fun h => by cases h⟩
  · rw [hres, List.append_nil, hs ds hlen]
    exact trodAll_mk1 (shut_bool (by kernel_rfl) true)
  · rw [List.append_nil, hs ds hlen]
    exact trodAll_below laidOut hb hts hA (fun x hx => hlt x (by simpa using hx))
  · rw [hv, List.append_nil, hs ds hlen]
    rfl
/-- A law that says 'true' and leaves its arguments, where these are not too large. -/
theorem law_upto {f : FuncId} (fn : Func) (s : ChangeSpec) (os : Os) (started : os.Started) (hf : Tryz.prog.funcs[f]? = some fn) (hp : plainFn fn = true) (noInit : Tryz.prog.inits.idxOf? f = none)
    (hv : s.vars = []) (hres : fn.resultTypes = #[4]) (hts : ∀ t ∈ fn.params.toList, Tryz.prog.readableRec t = true ∧ t < Tryz.prog.types.size)
    (hs : ∀ ds : List (DataW H), ds.length = fn.params.toList.length → s.fn H ds = { results := [.lit (.bool true)], args := ds })
    (witness : ∃ (w : World) (tape : Tape) (i : Input), w.os = os ∧ (w.forCall tape i).Shaped Tryz.checked.prog ∧ i.vars = [] ∧ Input.okWide Tryz.checked.prog (w.forCall tape i) .any w.heap.size f i ∧
      (((Rows.OpenSpec.upto s).pre enc Tryz.checked.prog fn [] false (w.forCall tape i).memory i.args ∧ laidMetH Tryz.prog laid2 (w.forCall tape i).memory) ∧ sizedMet enc Tryz.checked.prog fn (Rows.OpenSpec.upto s) false (w.forCall tape i).memory i.args) ∧ ({} : Assume).holds Tryz.checked.prog (lone (Frame.enter Tryz.checked.prog f i.args .normal) [] (w.forCall tape i)))
    (hcon : ∀ (W : World) (base : Nat) (args : Array Value) (ds : List (DataW H)) (ps : List MemPlace), (∀ (j : Nat) t v, fn.params[j]? = some t → args[j]? = some v → Value.okWide Tryz.prog W .any base t v) →
      DataW.TrodAll enc Tryz.prog W 0 (fun _ => true) true fn.params.toList args.toList ds ps → (DataW.weightsEach Tryz.prog fn.params.toList ds).all (· ≤ reachBytes) = true → Rows.uptoBulkAll ds ≤ 1048576 → Lay W [] (fun i => ⟨i, 0, 0, 0⟩) →
      ∃ vs z g, Lay W z g ∧ COk Tryz.prog 3 f vs (GG z) (Bo true) (GG z) ∧ Rvs (GG z).length g vs args.toList) :
    ReturnsInHanded {} Tryz.checked os f .any (fun w args => ((Rows.OpenSpec.upto s).pre enc Tryz.prog fn [] false w args ∧ laidMetH Tryz.prog laid2 w) ∧ sizedMet enc Tryz.prog fn (Rows.OpenSpec.upto s) false w args) (s.post enc Tryz.prog fn false true false false) := by
  refine returnsInHanded_of_calls own started noInit witness ?_
  intro w tape i _ hsh _ hok hpre hholds
  obtain ⟨_, _, _, fn', hfn', _, _, _, _, hval⟩ := hok
  have e : fn' = fn := Option.some.inj (hfn'.symm.trans hf)
  subst e
  obtain ⟨⟨hp1, hx⟩, hz⟩ := hpre
  obtain ⟨ds, gs, before, hw, hc0, hkk⟩ := (OpenSpec.pre_some (s := Rows.OpenSpec.upto s) rfl [] false _ _).1 hp1
  have hw' := DataW.Whole.of_heap (w' := w.forCall tape i) (by rfl) hw
  have hL : laidMetH Tryz.prog laid2 (w.forCall tape i) := laidMetH.of_heap (by rfl) hx
  have hW' := hw'
  obtain ⟨p, q, hA, hV, rfl, hfz, hnd⟩ := hw'
  rw [show (Rows.OpenSpec.upto s).vars = [] from hv] at hV
  obtain ⟨rfl, rfl⟩ := trodVars_none hV
  have hvt : (Rows.OpenSpec.upto s).bare.plain.varTypes Tryz.prog = [] := by
    have : (Rows.OpenSpec.upto s).bare.plain.vars = [] := hv
    simp [DataSpec.varTypes, this]
  have hwt : (DataW.weightsEach Tryz.prog fn'.params.toList ds).all (· ≤ reachBytes) = true := by
    have := hz.weights hw
    rw [List.append_nil] at this
    rwa [hvt, List.append_nil] at this
  have hbk : Rows.uptoBulkAll ds ≤ 1048576 := by
    rw [List.append_nil] at hkk
    exact of_decide_eq_true hkk
  obtain ⟨vs, z, g, L, hc, hr⟩ := hcon (w.forCall tape i) w.heap.size i.args ds p hval hA hwt hbk (lay0 hL hsh)
  have hlen := trodAll_len hA
  refine (calls_lay fn' hf hp L hc hr).mono fun e W' ⟨he, hb⟩ => ?_
  subst he
  refine ChangeSpec.post_blind ?_
  have hlt := hW'.lt
  refine ⟨ds, [], p ++ [], [], p, [], hW', ?_, ?_, ?_, hb.frame _, fun h => by cases h⟩
  · rw [hres, List.append_nil, hs ds hlen]
    exact trodAll_mk1 (shut_bool (by kernel_rfl) true)
  · rw [List.append_nil, hs ds hlen]
    exact trodAll_below laidOut hb hts hA (fun x hx => hlt x (by simpa using hx))
  · rw [hv, List.append_nil, hs ds hlen]
    rfl
theorem witness_upto {C : Checked} {os : Os} {f : FuncId} {fn : Func} {s : ChangeSpec} {X : World → Array Value → Prop} (w0 : World) (args : Array Value) (fuel : Nat) (hos : w0.os = os)
    (hsh : (w0.forCall (fun _ _ => 0) ⟨#[], args, []⟩).Shaped C.prog)
    (hok : Input.okWideB C.prog (w0.forCall (fun _ _ => 0) ⟨#[], args, []⟩) f ⟨#[], args, []⟩ = true)
    (hpre : (match DataW.whole enc C.prog (w0.forCall (fun _ _ => 0) ⟨#[], args, []⟩).memory fn.params.toList s.vars false args.toList fuel with | some x => Rows.uptoSmall H (x.1 ++ x.2.1) | none => false) = true)
    (hsz : (Rows.OpenSpec.upto s).bare.sizedB enc C.prog fn false (w0.forCall (fun _ _ => 0) ⟨#[], args, []⟩).memory args fuel = true)
    (hx : X (w0.forCall (fun _ _ => 0) ⟨#[], args, []⟩).memory args) :
    ∃ (w : World) (tape : Tape) (i : Input), w.os = os ∧ (w.forCall tape i).Shaped C.prog ∧ i.vars = [] ∧ Input.okWide C.prog (w.forCall tape i) .any w.heap.size f i ∧
      (((Rows.OpenSpec.upto s).pre enc C.prog fn [] false (w.forCall tape i).memory i.args ∧ X (w.forCall tape i).memory i.args) ∧ sizedMet enc C.prog fn (Rows.OpenSpec.upto s) false (w.forCall tape i).memory i.args) ∧ ({} : Assume).holds C.prog (lone (Frame.enter C.prog f i.args .normal) [] (w.forCall tape i)) := by
  refine ⟨w0, fun _ _ => 0, ⟨#[], args, []⟩, hos, hsh, (Input.okWide_of_okWideB (base := 0) hok).1, (Input.okWide_of_okWideB hok).2, ⟨⟨?_, hx⟩, sizedMet_of_sizedB hsz⟩, by
    simp only [Assume.holds]
    exact ⟨by simp, by simp, fun _ => Modest.zero, by simp, by simp⟩⟩
  refine (OpenSpec.pre_some (s := Rows.OpenSpec.upto s) rfl [] false _ _).2 ?_
  split at hpre
  · rename_i x hx
    exact ⟨x.1, x.2.1, x.2.2, DataW.Whole_of_whole hx, rfl, hpre⟩
  · cases hpre
end
end Go.Proofs.YtemaeembndobaaaGreatDoor
