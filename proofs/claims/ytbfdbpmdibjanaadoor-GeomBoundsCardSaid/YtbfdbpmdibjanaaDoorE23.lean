/- The engine, part 23: maps from pairs of whole numbers to whole numbers. No condition. -/
import Derived.Test.YtbfdbpmdibjanaaDoorE22
import Derived.MapKept
import Derived.WideKeyRuns
namespace Go.Eng
open Go
section
variable {P : Program} {ng : Nat} {g : Nat → Pl} {t : List V} {m : List Blk} {a : Act} {w : World} {K : V → List Blk → Prop}

theorem run_getObjM {r : Nat} {es : Array MapEntry} {ck : Nat} (hb : w.heap[r]? = some (.map es ck)) : (getObj r).run P w = .ok (.map es ck) w := by
  simp [getObj, Sem.run, hb]
theorem run_setObjM {r : Nat} {es : Array MapEntry} {ck : Nat} (o : Obj) (hb : w.heap[r]? = some (.map es ck)) : (setObj r o).run P w = .ok () { w with heap := w.heap.setIfInBounds r o } := by
  simp [setObj, Sem.run, hb]
theorem heap_setM {r : Nat} {o o' : Obj} (hb : w.heap[r]? = some o) : (w.heap.setIfInBounds r o')[r]? = some o' ∧ ∀ r', r' ≠ r → (w.heap.setIfInBounds r o')[r']? = w.heap[r']? := by
  have hlt : r < w.heap.size := (Array.getElem?_eq_some_iff.1 hb).1
  exact ⟨by simp [hlt], fun r' hne => by simp [Ne.symm hne]⟩
theorem keyV_inj {a b c d : Int} (h : keyV a b = keyV c d) : a = c ∧ b = d := by
  unfold keyV at h
  simp only [Value.agg.injEq, Array.mk.injEq, List.cons.injEq, Value.int.injEq, true_and, and_true] at h
  exact h
/-- What 'pairMap' says. -/
structure PairMap (P : Program) (t : TypeId) (kt : TypeId) (vt : TypeId) (f0 f1 : Field) : Prop where
  map : P.underlying t = some (.map kt vt)
  key : P.underlying kt = some (.struct #[f0, f1])
  held : P.stoodInHeld kt = false
  zero : zero64 (P.info? vt) = true
  n0 : (f0.name != "_") = true
  n1 : (f1.name != "_") = true
  o0 : f0.offset = 0
  o1 : f1.offset = 1
  u0 : ∃ k, P.underlying f0.type = some (.int k)
  u1 : ∃ k, P.underlying f1.type = some (.int k)
theorem pairMap_spec {t kt : TypeId} (h : pairMap P t = some kt) : ∃ vt f0 f1, PairMap P t kt vt f0 f1 := by
  unfold pairMap at h
  split at h
  · rename_i kt' vt hm
    split at h
    · rename_i fs h1 h3 h4
      split at h
      · rename_i a b hfs
        split at h
        · rename_i k0 k1 e1 e2 e3 e4 e5 e6 e7 e8
          cases h
          have : fs = #[a, b] := by apply Array.ext'; simpa using hfs
          subst this
          exact ⟨vt, a, b, hm, h1, h3, h4, e1, e2, e3, e4, ⟨k0, e5⟩, ⟨k1, e6⟩⟩
        · exact nomatch h
      · exact nomatch h
    · exact nomatch h
  · exact nomatch h
theorem key_eqT {t kt vt : TypeId} {f0 f1 : Field} (h : PairMap P t kt vt f0 f1) (a b c d : Int) : eqT P 2 kt (.agg [.int .i64 a, .int .i64 b]) (.agg [.int .i64 c, .int .i64 d]) = some ((a == c) && ((b == d) && true)) := by
  obtain ⟨k0, u0⟩ := h.u0
  obtain ⟨k1, u1⟩ := h.u1
  have e0 : ∀ x y : Int, eqT P 1 f0.type (.int .i64 x) (.int .i64 y) = some (x == y) := by intro x y; simp [eqT, u0, sameKind]
  have e1 : ∀ x y : Int, eqT P 1 f1.type (.int .i64 x) (.int .i64 y) = some (x == y) := by intro x y; simp [eqT, u1, sameKind]
  have p0 : ∀ x y : Int, partO P f0.type [.int .i64 x, .int .i64 y] 0 = some (.int .i64 x) := by intro x y; simp [partO, u0, isAggD, ltL, getT]
  have p1 : ∀ x y : Int, partO P f1.type [.int .i64 x, .int .i64 y] 1 = some (.int .i64 y) := by intro x y; simp [partO, u1, isAggD, ltL, getT]
  have hn0 := h.n0
  have hn1 := h.n1
  simp only [eqT, h.key, h.held, eqFs, h.o0, h.o1, hn0, hn1, p0, p1, u0, u1, sameKind]
theorem run_key_eq {t kt vt : TypeId} {f0 f1 : Field} (h : PairMap P t kt vt f0 f1) (a b c d : Int) (w : World) : (Op.equal kt (keyV a b) (keyV c d)).run P w = .ok (decide (a = c ∧ b = d)) w := by
  have := eqT_sound (P := P) (n := 0) (g := fun _ => ⟨0, 0, 0, 0⟩) 2 10000 (by omega) kt _ _ _ (keyV a b) (keyV c d) w (key_eqT h a b c d) ⟨_, rfl, _, _, rfl, rfl, _, _, rfl, rfl, rfl⟩ ⟨_, rfl, _, _, rfl, rfl, _, _, rfl, rfl, rfl⟩
  rw [show Op.equal kt (keyV a b) (keyV c d) = Op.equalIn 10000 kt (keyV a b) (keyV c d) from rfl, this]
  congr 1
  rw [Bool.eq_iff_iff]
  simp
theorem run_key_check {t kt vt : TypeId} {f0 f1 : Field} (h : PairMap P t kt vt f0 f1) (e : Bool) (a b : Int) (w : World) : (Instr.checkKey e 10000 kt (keyV a b)).run P w = .ok () w := by
  obtain ⟨k0, u0⟩ := h.u0
  obtain ⟨k1, u1⟩ := h.u1
  have c0 : ∀ v : Value, (Instr.checkKey e 9999 f0.type v).run P w = .ok () w := by
    intro v; unfold Instr.checkKey; simp only [Sem.run_bind, run_underlying u0, Result.andThen_ok, Sem.run_pure]
  have c1 : ∀ v : Value, (Instr.checkKey e 9999 f1.type v).run P w = .ok () w := by
    intro v; unfold Instr.checkKey; simp only [Sem.run_bind, run_underlying u1, Result.andThen_ok, Sem.run_pure]
  have hr : Rvs 0 (fun _ => (⟨0, 0, 0, 0⟩ : Pl)) [.int .i64 a, .int .i64 b] (#[.int .i64 a, .int .i64 b] : Array Value).toList := ⟨_, _, rfl, rfl, _, _, rfl, rfl, rfl⟩
  obtain ⟨x0, q0, _⟩ := partO_sound (P := P) u0 (off := 0) (v := .int .i64 a) hr (by simp [partO, u0, isAggD, ltL, getT]) w
  obtain ⟨x1, q1, _⟩ := partO_sound (P := P) u1 (off := 1) (v := .int .i64 b) hr (by simp [partO, u1, isAggD, ltL, getT]) w
  have hn0 := h.n0
  have hn1 := h.n1
  simp only [bne_iff_ne, ne_eq] at hn0 hn1
  unfold Instr.checkKey keyV
  simp only [Sem.run_bind, run_underlying h.key, Result.andThen_ok]
  simp [hn0, hn1, h.o0, h.o1, q0, q1, c0, c1]
/-- The entry that is found. -/
theorem run_find {t kt vt : TypeId} {f0 f1 : Field} (h : PairMap P t kt vt f0 f1) (a b : Int) (w : World) : ∀ (l : List MapEntry) (i : Nat), (∀ e ∈ l, ∃ c d, e.key = keyV c d) →
    ((Instr.findAsking kt (keyV a b) l i).run P w = .ok none w ∧ ∀ e ∈ l, e.key ≠ keyV a b) ∨
    ∃ j e, l[j]? = some e ∧ e.key = keyV a b ∧ (Instr.findAsking kt (keyV a b) l i).run P w = .ok (some (i + j, e.val)) w
  | [], i, _ => .inl ⟨by simp [Instr.findAsking], by simp⟩
  | e :: l, i, hk => by
    obtain ⟨c, d, hcd⟩ := hk e (by simp)
    by_cases hq : a = c ∧ b = d
    · obtain ⟨rfl, rfl⟩ := hq
      refine .inr ⟨0, e, rfl, hcd, ?_⟩
      simp only [Instr.findAsking, Sem.run_bind, hcd, run_key_eq h, Result.andThen_ok]
      simp
    · have hne : e.key ≠ keyV a b := fun he => hq (by rw [hcd] at he; have := keyV_inj he; exact ⟨this.1.symm, this.2.symm⟩)
      have hstep : (Instr.findAsking kt (keyV a b) (e :: l) i).run P w = (Instr.findAsking kt (keyV a b) l (i + 1)).run P w := by
        simp only [Instr.findAsking, Sem.run_bind, hcd, run_key_eq h, Result.andThen_ok]
        rw [decide_eq_false hq]
        simp
      rw [hstep]
      rcases run_find h a b w l (i + 1) (fun e' he' => hk e' (by simp [he'])) with ⟨h1, h2⟩ | ⟨j, e', h1, h2, h3⟩
      · exact .inl ⟨h1, fun e' he' => by
          cases he' with
          | head => exact hne
          | tail _ he' => exact h2 e' he'⟩
      · exact .inr ⟨j + 1, e', by simpa using h1, h2, by rw [h3]; congr 3; omega⟩
theorem run_findK {t kt vt : TypeId} {f0 f1 : Field} (h : PairMap P t kt vt f0 f1) (k : Value) (l : List MapEntry) (w : World) : (Instr.findKey kt k l).run P w = (Instr.findAsking kt k l).run P w :=
  run_findKey_eq w (by rw [h.key]) k l
theorem map_block (S : Sim ng g t m a w) {i : Nat} {f : Int → Int → Option Int} {x : Value} (hx : Rv m.length g (.mp i) x) (hf : (getB m i).b = .mpI f) :
    m[i]? = some (getB m i) ∧ x = .map (some (g i).1) ∧ ∃ es ck, w.heap[(g i).1]? = some (.map es ck) ∧ MapRel f es := by
  simp only [Rv] at hx
  have hb := getB_some (m := m) (i := i) (.inl (by rw [hf]; rfl))
  obtain ⟨es, ck, h1, h2⟩ := (S.rep.blk i _ hb).map f hf
  exact ⟨hb, hx.2.2, es, ck, h1, h2⟩
theorem run_zero_int {vt : TypeId} (h : zero64 (P.info? vt) = true) (w : World) : (zeroValue vt).run P w = .ok (.int .i64 0) w := by
  unfold zero64 at h
  split at h
  · rename_i i hi
    split at h
    · rename_i hz
      simp [zeroValue, typeInfo, hi, hz]
    · exact nomatch h
  · exact nomatch h
theorem lookupV_sound (S : Sim ng g t m a w) {ty : TypeId} {x k : V} {xv kv : Value} {ok : Bool} {K : V → Prop} (hx : Rv m.length g x xv) (hk : Rv m.length g k kv) (h : lookupV P ty x k ok m K) :
    ∃ v y, (Instr.lookup ty xv kv ok).run P w = .ok y w ∧ Rv m.length g v y ∧ K v := by
  unfold lookupV at h
  split at h
  · rename_i i c d
    obtain ⟨⟨kt, hp⟩, h⟩ := h
    obtain ⟨vt, f0, f1, PM⟩ := pairMap_spec hp
    split at h
    · rename_i f hf
      obtain ⟨hb, hxv, es, ck, h1, R⟩ := map_block S hx hf
      have hkv : kv = keyV c d := by
        obtain ⟨xs, rfl, y, ys, h2, h3, y2, ys2, h4, h5, h6⟩ := hk
        have h3 : y = .int .i64 c := h3
        have h5 : y2 = .int .i64 d := h5
        have h6 : ys2 = [] := h6
        subst h3; subst h5; subst h6; subst h4
        unfold keyV; congr 1; apply Array.ext'; simpa using h2
      subst hkv; subst hxv
      have hfind := run_find PM c d w es.toList 0 (fun e he => by obtain ⟨p, q, _, h2, _⟩ := R.key e he; exact ⟨p, q, h2⟩)
      have hcase : ∃ (v : V) (o : Option (Nat × Value)), (Instr.findAsking kt (keyV c d) es.toList).run P w = .ok o w ∧ ((o = none ∧ f c d = none ∧ v = .int .i64 0) ∨ (∃ j z, o = some (j, .int .i64 z) ∧ f c d = some z ∧ v = .int .i64 z)) := by
        rcases hfind with ⟨h2, h3⟩ | ⟨j, e, h2, h3, h4⟩
        · refine ⟨_, _, h2, .inl ⟨rfl, ?_, rfl⟩⟩
          cases hfc : f c d with
          | none => rfl
          | some z =>
            obtain ⟨e, he, hek⟩ := R.all c d z hfc
            exact absurd hek (h3 e he)
        · obtain ⟨p, q, z, h5, h6, h7⟩ := R.key e (List.mem_of_getElem? h2)
          obtain ⟨rfl, rfl⟩ := keyV_inj (h5.symm.trans h3)
          exact ⟨_, _, h4, .inr ⟨_, z, by rw [h6], h7, rfl⟩⟩
      obtain ⟨v, o, h2, h3⟩ := hcase
      have hrun : ∀ y : Value, (∀ u b, o = some (u, b) → y = b) → (o = none → y = .int .i64 0) → (Instr.lookup ty (.map (some (g i).1)) (keyV c d) ok).run P w = .ok (if ok then .tuple #[y, .bool o.isSome] else y) w := by
        intro y hy1 hy2
        unfold Instr.lookup
        simp only [Sem.run_bind, run_underlying PM.map, Result.andThen_ok, run_getObjM h1, Sem.run_pure, run_key_check PM, run_findK PM, h2]
        cases o with
        | none => simp [run_zero_int PM.zero, hy2 rfl]
        | some p => simp [hy1 p.1 p.2 rfl]
      rcases h3 with ⟨rfl, e2, rfl⟩ | ⟨j, z, rfl, e2, rfl⟩
      · have := hrun (.int .i64 0) (fun _ _ h => nomatch h) (fun _ => rfl)
        cases ok with
        | true =>
          unfold lookV at h
          rw [e2] at h
          exact ⟨.tup [.int .i64 0, .bool false], _, this, ⟨_, rfl, _, _, rfl, rfl, _, _, rfl, rfl, rfl⟩, h⟩
        | false =>
          unfold lookV at h
          rw [e2] at h
          exact ⟨.int .i64 0, _, this, rfl, h⟩
      · have := hrun (.int .i64 z) (fun _ _ h => by cases h; rfl) (fun h => nomatch h)
        cases ok with
        | true =>
          unfold lookV at h
          rw [e2] at h
          exact ⟨.tup [.int .i64 z, .bool true], _, this, ⟨_, rfl, _, _, rfl, rfl, _, _, rfl, rfl, rfl⟩, h⟩
        | false =>
          unfold lookV at h
          rw [e2] at h
          exact ⟨.int .i64 z, _, this, rfl, h⟩
    · exact h.elim
  · exact h.elim
/-- A map that is written. -/
theorem map_set_rep (S : Sim ng g t m a w) {i : Nat} {c : Blk} {f f' : Int → Int → Option Int} {es es' : Array MapEntry} {ck ck' : Nat} (hb : m[i]? = some c) (hw : c.w = true) (hc : c.b = .mpI f) (h1 : w.heap[(g i).1]? = some (.map es ck)) (hR : MapRel f' es') :
    Rep g (m.set i ⟨true, .mpI f'⟩) { w with heap := w.heap.setIfInBounds (g i).1 (.map es' ck') } ∧ Step g m w g (m.set i ⟨true, .mpI f'⟩) { w with heap := w.heap.setIfInBounds (g i).1 (.map es' ck') } := by
  have hi : i < m.length := (List.getElem?_eq_some_iff.1 hb).1
  have R := S.rep.blk i _ hb
  have hbl : c.b.live = true := by rw [hc]; rfl
  obtain ⟨hs1, hs2⟩ := heap_setM (o' := .map es' ck') h1
  have hget : ∀ j d, (m.set i ⟨true, .mpI f'⟩)[j]? = some d → (j = i ∧ d = ⟨true, .mpI f'⟩) ∨ (j ≠ i ∧ m[j]? = some d) := by
    intro j d hd
    rw [List.getElem?_set] at hd
    by_cases e : i = j
    · subst e
      simp only [hi, if_true, Option.some.injEq] at hd
      exact .inl ⟨rfl, hd.symm⟩
    · rw [if_neg e] at hd; exact .inr ⟨Ne.symm e, hd⟩
  refine ⟨⟨fun j d hd => ?_, fun i' j' x y hne hx hy hxw hxl hyl => ?_⟩, ⟨by simp, agree_of fun j hj => ⟨rfl, ?_⟩, rfl, rfl, rfl, by simp, fun p _ hp => hs2 p (fun e => hp ⟨i, _, hb, hw, e.symm⟩), fun p _ hp => ?_⟩⟩
  · rw [List.length_set]
    rcases hget j d hd with ⟨rfl, rfl⟩ | ⟨hne, hd⟩
    · have hv := R.ver
      rw [hc] at hv
      refine ⟨by simpa using R.size, (fun k u hu => nomatch hu), fun _ _ k => ?_, fun _ k hk => ?_, fun f0 hf0 => ?_, hv⟩
      · unfold World.frozen?
        simp only [hs1]
      · obtain ⟨y, hy⟩ := R.room hbl k hk
        unfold World.cell? at hy
        simp only [h1] at hy
        exact nomatch hy
      · cases hf0
        exact ⟨es', ck', hs1, hR⟩
    · have R' := S.rep.blk j d hd
      by_cases hdl : d.b.live = true
      · exact R'.congr (hs2 _ (S.rep.apart i j _ _ (Ne.symm hne) hb hd hw hbl hdl).symm) (Nat.le_refl _) fun _ _ => .inl rfl
      · have hdead : d.b = .dead := by cases h : d.b <;> simp [h, B.live] at hdl; rfl
        exact ⟨by simpa using R'.size, (fun k u hu => by rw [hdead] at hu; exact nomatch hu), (fun _ hl' => absurd hl' hdl), (fun hl' => absurd hl' hdl), (fun f hf => by rw [hdead] at hf; exact nomatch hf), R'.ver⟩
  · rcases hget i' x hx with ⟨e1, e2⟩ | ⟨h1, hx1⟩
    · rcases hget j' y hy with ⟨e3, e4⟩ | ⟨h2, hy1⟩
      · exact absurd (e1.trans e3.symm) hne
      · rw [e1] at hne ⊢; exact S.rep.apart i j' _ _ hne hb hy1 hw hbl hyl
    · rcases hget j' y hy with ⟨e3, e4⟩ | ⟨h2, hy1⟩
      · rw [e3] at hne ⊢; exact S.rep.apart i' i _ _ hne hx1 hb hxw hxl hbl
      · exact S.rep.apart i' j' _ _ hne hx1 hy1 hxw hxl hyl
  · rw [getB_eq, getB_eq]
    by_cases e : j = i
    · subst e
      simp only [List.getD_eq_getElem?_getD, hb, Option.getD_some, List.getElem?_set, hi, if_true, hc, B.vof]
    · simp only [List.getD_eq_getElem?_getD, List.getElem?_set, if_neg (Ne.symm e)]
  · obtain ⟨j, c', hc', hcw, he⟩ := hp
    rcases hget j c' hc' with ⟨rfl, rfl⟩ | ⟨h2, hc'⟩
    · exact ⟨j, _, hb, hw, he⟩
    · exact ⟨j, c', hc', hcw, he⟩
theorem sameBits_key (a b : Int) : Instr.sameBits 10000 (keyV a b) (keyV a b) = true := by
  unfold keyV
  simp [Instr.sameBits]
theorem upd_old {f : Int → Int → Option Int} {es : Array MapEntry} {a b z : Int} {j : Nat} {e : MapEntry} (R : MapRel f es) (hj : es.toList[j]? = some e) (he : e.key = keyV a b) :
    MapRel (updM f a b z) (es.modify j fun e => { e with key := keyV a b, val := .int .i64 z }) := by
  have hl : (es.modify j fun e => { e with key := keyV a b, val := .int .i64 z }).toList = es.toList.set j { e with key := keyV a b, val := .int .i64 z } := by
    apply List.ext_getElem?
    intro k
    rw [Array.getElem?_toList, Array.getElem?_modify, List.getElem?_set, ← Array.getElem?_toList]
    by_cases hjk : j = k
    · subst hjk
      simp only [if_true, hj, Option.map_some, if_pos (List.getElem?_eq_some_iff.1 hj).1]
    · rw [if_neg hjk, if_neg hjk]
  have hjl := (List.getElem?_eq_some_iff.1 hj).1
  have hpair := List.pairwise_iff_getElem.1 R.one
  have huniq : ∀ k e', es.toList[k]? = some e' → e'.key = keyV a b → k = j := by
    intro k e' hk he'
    have hkl := (List.getElem?_eq_some_iff.1 hk).1
    have ek : es.toList[k] = e' := (List.getElem?_eq_some_iff.1 hk).2
    have ej : es.toList[j] = e := (List.getElem?_eq_some_iff.1 hj).2
    rcases Nat.lt_trichotomy k j with h | h | h
    · have := hpair k j hkl hjl h
      rw [ek, ej, he, he'] at this; exact absurd rfl this
    · exact h
    · have := hpair j k hjl hkl h
      rw [ek, ej, he, he'] at this; exact absurd rfl this
  refine ⟨fun e' he' => ?_, fun c d z' hz' => ?_, ?_⟩
  · rw [hl] at he'
    obtain ⟨k, hk⟩ := List.mem_iff_getElem?.1 he'
    rw [List.getElem?_set] at hk
    by_cases hjk : j = k
    · subst hjk
      rw [if_pos rfl, if_pos hjl] at hk
      cases hk
      exact ⟨a, b, z, rfl, rfl, by simp [updM]⟩
    · rw [if_neg hjk] at hk
      obtain ⟨p, q, z', h1, h2, h3⟩ := R.key e' (List.mem_of_getElem? hk)
      refine ⟨p, q, z', h1, h2, ?_⟩
      unfold updM
      rw [if_neg]
      · exact h3
      · rintro ⟨rfl, rfl⟩
        exact hjk (huniq k e' hk h1).symm
  · rw [hl]
    by_cases hq : c = a ∧ d = b
    · obtain ⟨rfl, rfl⟩ := hq
      exact ⟨_, List.mem_iff_getElem?.2 ⟨j, by rw [List.getElem?_set, if_pos rfl, if_pos hjl]⟩, rfl⟩
    · unfold updM at hz'
      rw [if_neg hq] at hz'
      obtain ⟨e', he', hk'⟩ := R.all c d z' hz'
      obtain ⟨k, hk⟩ := List.mem_iff_getElem?.1 he'
      refine ⟨e', List.mem_iff_getElem?.2 ⟨k, ?_⟩, hk'⟩
      rw [List.getElem?_set, if_neg]
      · exact hk
      · rintro rfl
        rw [hj] at hk; cases hk
        rw [he] at hk'
        have := keyV_inj hk'
        exact hq ⟨this.1.symm, this.2.symm⟩
  · rw [hl]
    refine List.pairwise_iff_getElem.2 fun p q hp hq hpq => ?_
    rw [List.length_set] at hp hq
    have := hpair p q hp hq hpq
    have ej : es.toList[j] = e := (List.getElem?_eq_some_iff.1 hj).2
    have hk : ∀ k (hk : k < es.toList.length), ((es.toList.set j { e with key := keyV a b, val := .int .i64 z })[k]'(by simpa using hk)).key = (es.toList[k]).key := by
      intro k hk
      rw [List.getElem_set]
      split
      · rename_i h; subst h; rw [ej]; exact he.symm
      · rfl
    rw [hk p hp, hk q hq]; exact this
theorem upd_new {f : Int → Int → Option Int} {es : Array MapEntry} {a b z : Int} {ck : Nat} (R : MapRel f es) (hno : ∀ e ∈ es.toList, e.key ≠ keyV a b) :
    MapRel (updM f a b z) (es.push { key := keyV a b, val := .int .i64 z, born := ck }) := by
  refine ⟨fun e' he' => ?_, fun c d z' hz' => ?_, ?_⟩
  · rw [Array.toList_push, List.mem_append] at he'
    rcases he' with he' | he'
    · obtain ⟨p, q, z', h1, h2, h3⟩ := R.key e' he'
      refine ⟨p, q, z', h1, h2, ?_⟩
      unfold updM
      rw [if_neg]
      · exact h3
      · rintro ⟨rfl, rfl⟩
        exact hno e' he' h1
    · simp only [List.mem_cons, List.not_mem_nil, or_false] at he'
      subst he'
      exact ⟨a, b, z, rfl, rfl, by simp [updM]⟩
  · rw [Array.toList_push]
    by_cases hq : c = a ∧ d = b
    · obtain ⟨rfl, rfl⟩ := hq
      exact ⟨_, List.mem_append_right _ (List.mem_cons_self ..), rfl⟩
    · unfold updM at hz'
      rw [if_neg hq] at hz'
      obtain ⟨e', he', hk'⟩ := R.all c d z' hz'
      exact ⟨e', List.mem_append_left _ he', hk'⟩
  · rw [Array.toList_push, List.pairwise_append]
    refine ⟨R.one, List.pairwise_singleton .., fun x hx y hy => ?_⟩
    simp only [List.mem_cons, List.not_mem_nil, or_false] at hy
    subst hy
    exact hno x hx
theorem key_of {n : Nat} {g : Nat → Pl} {c d : Int} {kv : Value} (hk : Rv n g (.agg [.int .i64 c, .int .i64 d]) kv) : kv = keyV c d := by
  obtain ⟨xs, rfl, y, ys, h2, h3, y2, ys2, h4, h5, h6⟩ := hk
  have h3 : y = .int .i64 c := h3
  have h5 : y2 = .int .i64 d := h5
  have h6 : ys2 = [] := h6
  subst h3; subst h5; subst h6; subst h4
  unfold keyV; congr 1; apply Array.ext'; simpa using h2
theorem mapUpdV_sound (S : Sim ng g t m a w) {ty : TypeId} {x k v : V} {xv kv vv : Value} {K : List Blk → Prop} (hx : Rv m.length g x xv) (hk : Rv m.length g k kv) (hv : Rv m.length g v vv) (h : mapUpdV P ty x k v m K) :
    ∃ m' w', (Instr.mapUpdate ty xv kv vv).run P w = .ok () w' ∧ K m' ∧ Rep g m' w' ∧ Step g m w g m' w' := by
  unfold mapUpdV at h
  split at h
  · rename_i i c d z
    obtain ⟨⟨kt, hp⟩, h⟩ := h
    obtain ⟨vt, f0, f1, PM⟩ := pairMap_spec hp
    split at h
    · rename_i f hw hf
      rw [setB_eq] at h
      obtain ⟨hb, hxv, es, ck, h1, R⟩ := map_block S hx hf
      have hkv := key_of hk
      have hvv : vv = .int .i64 z := hv
      subst hkv; subst hxv; subst hvv
      rcases run_find PM c d w es.toList 0 (fun e he => by obtain ⟨p, q, _, h2, _⟩ := R.key e he; exact ⟨p, q, h2⟩) with ⟨h2, h3⟩ | ⟨j, e, h2, h3, h4⟩
      · obtain ⟨r1, r2⟩ := map_set_rep (ck' := ck + 1) S hb hw hf h1 (upd_new (z := z) (ck := ck) R h3)
        refine ⟨_, _, ?_, h, r1, r2⟩
        unfold Instr.mapUpdate
        simp only [Sem.run_bind, run_underlying PM.map, Result.andThen_ok, run_getObjM h1, run_key_check PM, run_findK PM, h2, run_setObjM _ h1]
      · obtain ⟨r1, r2⟩ := map_set_rep (ck' := ck) S hb hw hf h1 (upd_old (z := z) R h2 h3)
        refine ⟨_, _, ?_, h, r1, r2⟩
        unfold Instr.mapUpdate
        have e1 : es[j]? = some e := by rw [← Array.getElem?_toList]; exact h2
        simp only [Sem.run_bind, run_underlying PM.map, Result.andThen_ok, run_getObjM h1, run_key_check PM, run_findK PM, h4, Nat.zero_add, e1, Option.map_some, Option.getD_some, h3, Instr.keyThatStays, sameBits_key, if_true, Sem.run_pure, run_setObjM _ h1]
    · exact h.elim
  · exact h.elim
theorem makeMap_rep (S : Sim ng g t m a w) : Rep (newAtP g m.length ⟨w.heap.size, 0, 0, 0⟩) (m ++ [⟨true, .mpI fun _ _ => none⟩]) { w with heap := w.heap.push (.map #[] 0) } ∧ Step g m w (newAtP g m.length ⟨w.heap.size, 0, 0, 0⟩) (m ++ [⟨true, .mpI fun _ _ => none⟩]) { w with heap := w.heap.push (.map #[] 0) } := by
  have hnew : (w.heap.push (Obj.map #[] 0))[w.heap.size]? = some (.map #[] 0) := by simp
  refine madeP S (.mpI fun _ _ => none) (.map #[] 0) ⟨w.heap.size, 0, 0, 0⟩ rfl ⟨by simp, (fun j v hv => nomatch hv), fun _ _ j => ?_, fun _ j hj => absurd hj (Nat.not_lt_zero j), fun f hf => ?_, rfl⟩
  · unfold World.frozen?
    simp only [hnew]
  · have hf : (fun _ _ => none) = f := B.mpI.inj hf
    subst hf
    exact ⟨#[], 0, hnew, ⟨(fun e he => by simp at he), (fun _ _ _ h => nomatch h), List.Pairwise.nil⟩⟩
end
end Go.Eng
