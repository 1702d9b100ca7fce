/- The engine, part 19: regions that draw their order: the theorem; the whole evaluator. No condition. -/
import Derived.Test.YtbfdbpmdibjanaaDoorE18
namespace Go.Eng
open Go
section
variable {P : Program} {ng : Nat} {ops : Array Oper} {s : Nat} {m0 : List Blk} {t0 : List V} {T : Nat → List V} {M : Nat → List Blk} {run : Nat → Bool} {v : Nat → V}
variable {g0 : Nat → Pl} {w0 : World}
section
variable {Lax : Prop} (C : Ctx Lax P ng ops s m0 t0 T M run v) (R0 : Rep g0 m0 w0)
include C R0

omit C R0 in
theorem size_of {g : Nat → Pl} {t : List V} {m : List Blk} {a : Act} {w : World} (S : Sim ng g t m a w) : a.tmps.size = t.length := by
  have := Rvs_length S.tmps; rwa [Array.length_toList] at this

omit C R0 in
theorem load_kd {o : Oper} (h : isLoad o = true) : ¬ kd o.op ≠ .quiet := by
  unfold isLoad at h
  split at h
  · rename_i a b e; rw [e]; simp [kd]
  · exact absurd h (by simp)
/-- One operation, whichever may come up. -/
theorem inv_step {Q : Exit → Act → World → Prop} {D : Nat → Prop} (hc : Closed ops D) {i : Nat} {o : Oper} (hi : ops[i]? = some o) (hn : ¬ D i) (hr : ∀ e ∈ o.after, Region.binds .any e = true → D e.on)
    {a : Act} {w : World} (h : Inv ng ops s m0 t0 M run v g0 w0 D a w) {K : Act → World → Prop} (hK : ∀ a' w', Inv ng ops s m0 t0 M run v g0 w0 (fun j => D j ∨ j = i) a' w' → K a' w') : wpOp P ops Q i K a w := by
  have hlt : i < ops.size := (Array.getElem?_eq_some_iff.1 hi).1
  have E := C.entry i o hi
  have hlast := fun x hx => writes_last C.L hc hi hn (x := x) hx
  unfold wpOp
  simp only [hi]
  -- an operation of part B that looks into memory, or writes, at the state that it finds
  have late : ∀ g t, (s ≤ i) → kd o.op ≠ .pure → StB ng ops m0 t0 v g0 w0 (M i) D g t a w → (∀ k', NB ops s k' → D k' → k' ≤ i) →
      if Region.wanted o (yielded ops a.tmps) then o.wp P a w K Q ∨ (o.asks P a w ∧ LetsOut Q) else K (a.put o.dst undef) w := by
    intro g t hsi hk B hmax
    have hsame := same_reads C hc hi hn hr B.len (fun x hx _ => B.wr x hx)
    have hw := wanted_of B.sim (E.guard.congr fun j want d hg hd => (hsame d (guard_looks hg hd)).symm)
    rw [hw]
    have fin : ∀ g' t' a' w', t'.length = t0.length → Sim ng g' t' (M (i + 1)) a' w' → Step g0 m0 w0 g' (M (i + 1)) w' → (∀ x, x < t0.length → Wr ops v t0 (fun j => D j ∨ j = i) x (getT t' x)) → K a' w' := by
      intro g' t' a' w' hl S' hs' hwr
      exact hK a' w' (.inr ⟨i, ⟨o, hi, hsi, hk⟩, .inr rfl, fun k' hk' hD => by
        rcases hD with hD | rfl
        · exact hmax k' hk' hD
        · exact Nat.le_refl _, g', t', S', hs', hl, hwr⟩)
    cases hrun : run i with
    | false =>
      simp only [Bool.false_eq_true, if_false]
      obtain ⟨e1, e2⟩ := E.skip hrun
      refine fin g (putL o.dst t (v i)) _ w (by rw [putL_length, B.len]) ?_ (by rw [e2]; exact B.step) (fun x hx => wr_next hi hlast B.len hx (fun _ => B.wr x hx))
      rw [e1, e2]
      exact B.sim.put o.dst Rv_un B.sim.rep (.refl _ _ _)
    | true =>
      simp only [if_true]
      left
      have hev := E.late hrun (by simpa using hsi)
      rw [evOp_congr (ev_same fun x hx => (hsame x hx).symm)] at hev
      refine oper_wp_of_gets B.sim (evOp_sound B.sim o hev) (fun u m' g' x w' hu S' hs' => ?_)
      obtain ⟨rfl, rfl⟩ := hu
      exact fin g' (putL o.dst t (v i)) _ w' (by rw [putL_length, B.len]) S' (B.step.trans hs') (fun x hx => wr_next hi hlast B.len hx (fun _ => B.wr x hx))
  rcases h with ⟨hnone, g, t, pf, A⟩ | ⟨k, hNB, hDk, hmax, g, t, B⟩
  · by_cases hnb : s ≤ i ∧ kd o.op ≠ .pure
    · -- the first of part B
      have hall : ∀ j x, Mk ops s run j x → D j := by
        rintro j x ⟨o', hj, hjs, hk', _, _⟩
        exact pre_ready hc hi hr (((C.L.pair j i o' o (by omega) hj hi).2.1 hnb.1 (by rw [hk']; simp) hnb.2).resolve_right fun ⟨_, _, hl⟩ => load_kd hl (by rw [hk']; simp))
      obtain ⟨g', t', B⟩ := adopt_all C R0 A hall
      have hM : M i = M s := by
        have := mem_const C (Nat.le_refl s) (i - s) (by omega) (fun j h1 h2 hj => by
          obtain ⟨o', ho', _, hk'⟩ := id hj
          exact hnone j hj (pre_ready hc hi hr (((C.L.pair j i o' o (by omega) ho' hi).2.1 hnb.1 hk' hnb.2).resolve_right fun ⟨_, hl, _⟩ => by omega)))
        rwa [show s + (i - s) = i by omega] at this
      rw [← hM] at B
      exact late g' t' hnb.1 hnb.2 B (fun k' hk' hD => absurd hD (hnone k' hk'))
    · -- part A, or what touches no memory
      have hap : i < s ∨ kd o.op = .pure := by
        rcases Nat.lt_or_ge i s with h | h
        · exact .inl h
        · exact .inr (Classical.byContradiction fun hk => hnb ⟨h, hk⟩)
      have hnoD : ∀ k, NB ops s k → ¬ (D k ∨ k = i) := by
        intro k hk hD
        rcases hD with hD | rfl
        · exact hnone k hk hD
        · obtain ⟨o', ho', h1, h2⟩ := hk
          rw [hi] at ho'; cases ho'
          exact hnb ⟨h1, h2⟩
      have hsame := same_reads C hc hi hn hr A.len (fun x hx hxl => A.wr x hx fun j => no_mk C hi hap hxl j)
      have hw := wanted_of A.sim (E.guard.congr fun j want d hg hd => (hsame d (guard_looks hg hd)).symm)
      rw [hw]
      -- behind it: no new block
      have plain : (∀ x, ¬ Mk ops s run i x) → ∀ g' w' x, Sim ng g' (putL o.dst t (v i)) m0 (a.put o.dst x) w' → Step g m0 w g' m0 w' → K (a.put o.dst x) w' := by
        intro hnm g' w' y S' hs'
        refine hK _ _ (.inl ⟨hnoD, g', putL o.dst t (v i), pf, S', A.step.trans hs', by rw [putL_length, A.len], fun x hx hm => wr_next hi hlast A.len hx (fun _ => A.wr x hx hm), ?_, ?_⟩)
        · intro j x hj hm
          have hj : D j := by
            rcases hj with hj | rfl
            · exact hj
            · exact absurd hm (hnm x)
          exact ghosts_keep R0 A hs' (fun j x hj hm => put_getD (mk_slot C hi hm (fun e => hn (by rw [e]; exact hj)))) j x hj hm
        · intro j k x y hj hk hmj hmk hne
          have hj : D j := by
            rcases hj with hj | rfl
            · exact hj
            · exact absurd hmj (hnm x)
          have hk : D k := by
            rcases hk with hk | rfl
            · exact hk
            · exact absurd hmk (hnm y)
          exact A.apart j k x y hj hk hmj hmk hne
      cases hrun : run i with
      | false =>
        simp only [Bool.false_eq_true, if_false]
        refine plain (fun x ⟨_, _, _, _, h4, _⟩ => by simp [hrun] at h4) g w undef ?_ (.refl _ _ _)
        rw [(E.skip hrun).1]
        exact A.sim.put o.dst Rv_un A.sim.rep (.refl _ _ _)
      | true =>
        simp only [if_true]
        left
        -- what reads, or reckons
        have reckon : kd o.op ≠ .mk → (evOp P ng o.op (T i) m0 fun u b => u = v i ∧ b = m0) → o.wp P a w K Q := by
          intro hk hev
          rw [evOp_congr (ev_same fun x hx => (hsame x hx).symm)] at hev
          refine oper_wp_of_gets A.sim (evOp_sound A.sim o hev) (fun u m' g' x w' hu S' hs' => ?_)
          obtain ⟨rfl, rfl⟩ := hu
          exact plain (fun x ⟨o', h1, _, h3, _, _⟩ => by rw [hi] at h1; cases h1; exact hk h3) g' w' x S' hs'
        rcases Nat.lt_or_ge i s with his | his
        · have hph : Nat.ble s i = false := by
            rw [Bool.eq_false_iff]; intro h; have : s ≤ i := by simpa using h
            omega
          cases hk : kd o.op with
          | eff => exact absurd hk (E.early hph)
          | pure => exact reckon (by rw [hk]; simp) (E.still hrun hph (.inl hk)).1
          | quiet => exact reckon (by rw [hk]; simp) (E.still hrun hph (.inr hk)).1
          | mk =>
            obtain ⟨d, hd, _⟩ := C.L.self i o hi hk
            have hdl : d < t0.length := mkLt_spec C.lt i o (by simpa using hi) hk d hd
            have hm : Mk ops s run i d := ⟨o, hi, his, hk, hrun, hd⟩
            obtain ⟨sh, cs, e1, e2, e3⟩ := mk_spec hk (E.made hrun hph hk)
            obtain ⟨c, e, q1, q2⟩ := e3 o rfl A.sim (ev_same fun x hx => (hsame x hx).symm)
            unfold Oper.wp
            rw [q1]
            simp only [Oper.upon]
            have hh : ∀ p, p < w.heap.size → (w.heap.push (Obj.cells c e))[p]? = w.heap[p]? := fun p hp => by rw [Array.getElem?_push, if_neg (by omega)]
            have hs' : Step g m0 w g m0 { w with heap := w.heap.push (.cells c e) } := step_push g m0 w _
            have hw0 : w0.heap.size ≤ w.heap.size := A.step.size
            have S1 : Sim ng g (t.set d (.raw (mkX sh w.heap.size))) m0 (a.put o.dst (mkX sh w.heap.size)) { w with heap := w.heap.push (.cells c e) } := by
              have := A.sim.put o.dst (v := .raw (mkX sh w.heap.size)) (x := mkX sh w.heap.size) (by simp [Rv]) (rep_push A.sim.rep (.cells c e)) hs'
              rw [hd] at this ⊢
              exact this
            have hkeep := ghosts_keep R0 A (a' := a.put o.dst (mkX sh w.heap.size)) hs' (fun j x hj hm => put_getD (mk_slot C hi hm (fun e => hn (by rw [e]; exact hj))))
            have hux : ∀ x, Mk ops s run i x → x = d := by
              rintro x ⟨o', h1, _, _, _, h5⟩
              rw [hi] at h1; cases h1; rw [hd] at h5; cases h5; rfl
            refine hK _ _ (.inl ⟨hnoD, g, t.set d (.raw (mkX sh w.heap.size)), fun j => if j = i then w.heap.size else pf j, S1, A.step.trans hs', by simp [A.len], fun x hx hnm => ?_, ?_, ?_⟩)
            · have hxd : d ≠ x := fun e => hnm i (by rw [← e]; exact hm)
              rw [getT_set, if_neg (fun h => hxd h.1)]
              exact (A.wr x hx hnm).add hi (by rw [hd]; simpa using hxd)
            · intro j x hj hmj
              by_cases hji : j = i
              · subst hji
                have := hux x hmj
                subst this
                simp only [if_true]
                refine ⟨fun sh' cs' k1 k2 => ?_, by simp, hw0⟩
                have hsh : sh' = sh := mkV_inj (by rw [← k1, e1])
                have hcs : cs' = cs := by
                  rw [e2] at k2
                  have := List.append_cancel_left k2
                  simpa using this.symm
                subst hsh; subst hcs
                refine ⟨c, e, by simp, hw0, ?_, q2⟩
                rw [hd]
                exact put_getD_same (by rw [size_of A.sim, A.len]; exact hdl)
              · simp only [if_neg hji]
                have hj : D j := by
                  rcases hj with hj | rfl
                  · exact hj
                  · exact absurd rfl hji
                exact hkeep j x hj hmj
            · intro j k x y hj hk' hmj hmk hne
              have hold : ∀ j x, D j → Mk ops s run j x → pf j < w.heap.size := fun j x hj hm => (A.ghost j x hj hm).2.1
              by_cases hji : j = i
              · subst hji
                have hk' : D k := by
                  rcases hk' with hk' | rfl
                  · exact hk'
                  · exact absurd rfl hne
                simp only [if_true, if_neg (Ne.symm hne)]
                have := hold k y hk' hmk
                omega
              · have hjD : D j := by
                  rcases hj with hj | rfl
                  · exact hj
                  · exact absurd rfl hji
                by_cases hki : k = i
                · subst hki
                  simp only [if_true, if_neg hji]
                  have := hold j x hjD hmj
                  omega
                · have hkD : D k := by
                    rcases hk' with hk' | rfl
                    · exact hk'
                    · exact absurd rfl hki
                  simp only [if_neg hji, if_neg hki]
                  exact A.apart j k x y hjD hkD hmj hmk hne
        · have hk : kd o.op = .pure := hap.resolve_left (by omega)
          exact reckon (by rw [hk]; simp) ((pure_mem hk (E.late hrun (by simpa using his))).2 m0)
  · -- part B has begun
    obtain ⟨ok, hok, hsk, hkk⟩ := id hNB
    by_cases hp : kd o.op = .pure ∨ i < s
    · have hfree : kd o.op = .pure ∨ (Lax ∧ i < s ∧ isLoad o = true) := by
        refine Classical.byContradiction fun hno => ?_
        obtain ⟨n1, n2⟩ := not_or.1 hno
        have his : i < s := hp.resolve_left n1
        rcases (C.L.pair i k o ok (by omega) hi hok).2.1 hsk n1 hkk with h | h
        · exact hn (hc _ _ h hDk)
        · exact n2 h
      have hsame := same_reads C hc hi hn hr B.len (fun x hx _ => B.wr x hx)
      have hw := wanted_of B.sim (E.guard.congr fun j want d hg hd => (hsame d (guard_looks hg hd)).symm)
      rw [hw]
      have fin : ∀ g' w' x, Sim ng g' (putL o.dst t (v i)) (M (k + 1)) (a.put o.dst x) w' → Step g (M (k + 1)) w g' (M (k + 1)) w' → K (a.put o.dst x) w' := by
        intro g' w' y S' hs'
        refine hK _ _ (.inr ⟨k, hNB, .inl hDk, fun k' hk' hD => ?_, g', putL o.dst t (v i), S', B.step.trans hs', by rw [putL_length, B.len], fun x hx => wr_next hi hlast B.len hx (fun _ => B.wr x hx)⟩)
        rcases hD with hD | rfl
        · exact hmax k' hk' hD
        · obtain ⟨o', ho', h1, h2⟩ := hk'
          rw [hi] at ho'; cases ho'
          rcases hp with hp | hp
          · exact absurd hp h2
          · omega
      cases hrun : run i with
      | false =>
        simp only [Bool.false_eq_true, if_false]
        refine fin g w undef ?_ (.refl _ _ _)
        rw [(E.skip hrun).1]
        exact B.sim.put o.dst Rv_un B.sim.rep (.refl _ _ _)
      | true =>
        simp only [if_true]
        left
        have hev : evOp P ng o.op (T i) (M (k + 1)) fun u b => u = v i ∧ b = M (k + 1) := by
          rcases hfree with hp | ⟨hlx, his, hld⟩
          case inr => exact C.free hlx i o hi his hld hrun (k + 1) (by omega) (by have := (Array.getElem?_eq_some_iff.1 hok).1; omega)
          rcases Nat.lt_or_ge i s with his | his
          · have hph : Nat.ble s i = false := by
              rw [Bool.eq_false_iff]; intro h; have : s ≤ i := by simpa using h
              omega
            exact (pure_mem hp (E.still hrun hph (.inl hp)).1).2 _
          · exact (pure_mem hp (E.late hrun (by simpa using his))).2 _
        rw [evOp_congr (ev_same fun x hx => (hsame x hx).symm)] at hev
        refine oper_wp_of_gets B.sim (evOp_sound B.sim o hev) (fun u m' g' x w' hu S' hs' => ?_)
        obtain ⟨rfl, rfl⟩ := hu
        exact fin g' w' x S' hs'
    · obtain ⟨hp, his⟩ := not_or.1 hp
      have hki : k < i := by
        rcases Nat.lt_trichotomy k i with h | h | h
        · exact h
        · subst h; exact absurd hDk hn
        · exact absurd (hc _ _ (((C.L.pair i k o ok h hi hok).2.1 hsk hp hkk).resolve_right fun ⟨_, hl, _⟩ => by omega) hDk) hn
      have hM : M i = M (k + 1) := by
        have := mem_const C (a := k + 1) (by omega) (i - (k + 1)) (by omega) (fun j h1 h2 hj => by
          obtain ⟨o', ho', _, hk'⟩ := id hj
          have hDj := pre_ready hc hi hr (((C.L.pair j i o' o (by omega) ho' hi).2.1 (by omega) hk' hp).resolve_right fun ⟨_, hl, _⟩ => by omega)
          have := hmax j hj hDj
          omega)
        rwa [show k + 1 + (i - (k + 1)) = i by omega] at this
      rw [← hM] at B
      exact late g t (by omega) hp B (fun k' hk' hD => by have := hmax k' hk' hD; omega)

/-- All of them are through. -/
theorem inv_end {D : Nat → Prop} (hall : ∀ i, i < ops.size → D i) {K : List V → List Blk → Prop} (hK : K (T ops.size) (M ops.size)) {a : Act} {w : World} (h : Inv ng ops s m0 t0 M run v g0 w0 D a w) : Reach ng K g0 m0 w0 a w := by
  have fin : ∀ g t m, m = M ops.size → StB ng ops m0 t0 v g0 w0 m D g t a w → Reach ng K g0 m0 w0 a w := by
    intro g t m hm B
    obtain ⟨l, hw⟩ := text_wr C ops.size (Nat.le_refl _)
    have ht : t = T ops.size := by
      apply List.ext_getElem
      · rw [B.len, l]
      · intro x h1 h2
        have hx : x < t0.length := by rw [← B.len]; exact h1
        have := (B.wr x hx).unique ((hw x hx).congr fun j o hj _ => ⟨fun h => hall j h, fun _ => (Array.getElem?_eq_some_iff.1 hj).1⟩)
        rw [getT_eq, getT_eq] at this
        simpa [List.getD_eq_getElem?_getD, h1, h2] using this
    subst hm
    subst ht
    exact ⟨g, _, _, hK, B.sim, B.step⟩
  rcases h with ⟨hnone, g, t, pf, A⟩ | ⟨k, hNB, hDk, hmax, g, t, B⟩
  · have hs : s = ops.size := by
      have := s_le C
      rcases Nat.lt_or_ge s ops.size with h | h
      · exfalso
        obtain ⟨o, ho⟩ := op_at h
        refine hnone s ⟨o, ho, Nat.le_refl _, ?_⟩ (hall s h)
        have hf := C.L.first
        have ho' : ops.toList[s]? = some o := by simpa using ho
        have key : ∀ (l : List Oper) (o : Oper), l[firstEff l]? = some o → kd o.op = .eff := by
          intro l
          induction l with
          | nil => intro o h; simp at h
          | cons z l ih =>
            intro o h
            by_cases hz : kd z.op = .eff
            · simp only [firstEff, hz, List.getElem?_cons_zero, Option.some.injEq] at h
              rw [← h]; exact hz
            · have : firstEff (z :: l) = firstEff l + 1 := by
                rw [firstEff]
                split
                · contradiction
                · rfl
              rw [this] at h
              exact ih o (by simpa using h)
        rw [key _ o (by rw [← hf]; exact ho')]
        simp
      · omega
    obtain ⟨g', t', B⟩ := adopt_all C R0 A (fun j x ⟨_, hj, _⟩ => hall j (Array.getElem?_eq_some_iff.1 hj).1)
    exact fin g' t' _ (by rw [hs]) B
  · have hk : k < ops.size := by obtain ⟨o, ho, _⟩ := hNB; exact (Array.getElem?_eq_some_iff.1 ho).1
    have hsk : s ≤ k := by obtain ⟨o, _, h, _⟩ := hNB; exact h
    have hM : M ops.size = M (k + 1) := by
      have := mem_const C (a := k + 1) (by omega) (ops.size - (k + 1)) (by omega) (fun j h1 h2 hj => by
        have := hmax j hj (hall j (by omega)); omega)
      rwa [show k + 1 + (ops.size - (k + 1)) = ops.size by omega] at this
    exact fin g t _ hM.symm B

omit C R0 in
theorem count_set {l : List Bool} : ∀ {i : Nat}, l[i]? = some false → (l.set i true).count false + 1 = l.count false := by
  induction l with
  | nil => intro i h; simp at h
  | cons b l ih =>
    intro i h
    cases i with
    | zero => simp at h; subst h; simp
    | succ i =>
      have := ih (i := i) (by simpa using h)
      cases b <;> simp <;> omega

theorem any_of_inv {Q : Exit → Act → World → Prop} {K : List V → List Blk → Prop} (hK : K (T ops.size) (M ops.size)) (hQ : ∀ a' w', Reach ng K g0 m0 w0 a' w' → Q .normal a' w') :
    ∀ (fuel : Nat) (listed : Array Bool) (a : Act) (w : World), listed.size = ops.size → listed.toList.count false = fuel → Closed ops (fun j => listed.getD j false = true) →
      Inv ng ops s m0 t0 M run v g0 w0 (fun j => listed.getD j false = true) a w → wpAny P .any ops Q fuel listed a w := by
  intro fuel
  have hall_of : ∀ (listed : Array Bool), listed.size = ops.size → (∀ i, i < ops.size → listed.getD i false = true) → ∀ a w, Inv ng ops s m0 t0 M run v g0 w0 (fun j => listed.getD j false = true) a w → Q .normal a w :=
    fun listed _ h a w hI => hQ a w (inv_end C R0 h hK hI)
  -- where nothing is ready, all is through
  have done : ∀ (listed : Array Bool), listed.size = ops.size → Region.ready .any ops listed = [] → ∀ i, i < ops.size → listed.getD i false = true := by
    intro listed hl hr i
    induction i using Nat.strongRecOn with
    | _ i ih =>
      intro hi
      refine Classical.byContradiction fun hno => ?_
      obtain ⟨o, ho⟩ := op_at hi
      have : i ∈ Region.ready .any ops listed := by
        rw [mem_ready]
        refine ⟨?_, o, ho, fun e he hb => ?_⟩
        · have : i < listed.size := by omega
          simp [this] at hno ⊢
          exact hno
        · have := C.L.back i o ho e he hb
          exact ih e.on this (by omega)
      rw [hr] at this
      cases this
  induction fuel with
  | zero =>
    intro listed a w hl hc hcl hI
    have h0 : ∀ i, i < ops.size → listed.getD i false = true := by
      intro i hi
      have hi' : i < listed.size := by omega
      have : false ∉ listed.toList := List.count_eq_zero.1 hc
      have hm : listed[i] ∈ listed.toList := by simp
      cases hb : listed[i] with
      | true => simp [hi', hb]
      | false => rw [hb] at hm; exact absurd hm this
    refine ⟨?_, hall_of listed hl h0 a w hI⟩
    rw [List.eq_nil_iff_forall_not_mem]
    intro i hi
    obtain ⟨h1, o, ho, _⟩ := mem_ready.1 hi
    have hlt : i < ops.size := (Array.getElem?_eq_some_iff.1 ho).1
    have := h0 i hlt
    have hi' : i < listed.size := by omega
    simp [hi'] at h1 this
    rw [h1] at this; cases this
  | succ fuel ih =>
    intro listed a w hl hc hcl hI
    refine ⟨fun hr => hall_of listed hl (done listed hl hr) a w hI, fun i hi => ?_⟩
    obtain ⟨h1, o, ho, h2⟩ := mem_ready.1 hi
    have hlt : i < ops.size := (Array.getElem?_eq_some_iff.1 ho).1
    have hi' : i < listed.size := by omega
    have hif : listed[i] = false := by simpa [hi'] using h1
    refine inv_step C R0 hcl ho (by simp [hi', hif]) h2 hI (fun a' w' hI' => ?_)
    have hD : (fun j => (listed.setIfInBounds i true).getD j false = true) = fun j => listed.getD j false = true ∨ j = i := by
      funext j
      by_cases hji : j = i
      · subst hji; simp [hi']
      · simp [Array.getElem?_setIfInBounds_ne (Ne.symm hji), hji]
    refine ih _ a' w' (by simp [hl]) ?_ ?_ ?_
    · have := count_set (l := listed.toList) (i := i) (by simp [hi', hif])
      simp only [Array.toList_setIfInBounds]
      omega
    · rw [hD]; exact closed_add hcl ho h2
    · rw [hD]; exact hI'
end

theorem drawn_ctx {Lax : Prop} {id : Nat} {Q : Exit → Act → World → Prop} {g : Nat → Pl} {t : List V} {m : List Blk} {a : Act} {w : World} {K : List V → List Blk → Prop} (hm : P.follows .mixedOrders = true)
    (C : Ctx Lax P ng ops s m t T M run v) (h3 : K (T ops.size) (M ops.size)) (S : Sim ng g t m a w) (hQ : ∀ a' w', Reach ng K g m w a' w' → Q .normal a' w') : (Code.region id ops true).wp P Q a w := by
  have S1 : Sim ng g t m a { w with drawn := w.drawn + 1 } := ⟨S.defers, S.tmps, S.rep.heap rfl, S.glob⟩
  have hno : ∀ j, (Array.replicate ops.size false).getD j false = true → False := by
    intro j hj
    by_cases hlt : j < ops.size <;> simp [hlt] at hj
  refine wp_region_any hm (any_of_inv (g0 := g) (w0 := { w with drawn := w.drawn + 1 }) C S1.rep h3 (fun a' w' r => hQ a' w' (r.from (.drawn g m w _))) ops.size _ a _ (by simp) (by simp) ?_ ?_)
  · exact fun i j _ hj => (hno j hj).elim
  · exact .inl ⟨fun k _ hk => hno k hk, g, t, fun _ => 0, S1, .refl _ _ _, rfl, fun x hx _ => .inr ⟨fun j o _ hj => (hno j hj).elim, rfl⟩, fun j x hj => (hno j hj).elim, fun j k x y hj => (hno j hj).elim⟩
/-- **One walk in the order of the text serves every order.** -/
theorem drawn_sound {id : Nat} {Q : Exit → Act → World → Prop} {g : Nat → Pl} {t : List V} {m : List Blk} {a : Act} {w : World} {K : List V → List Blk → Prop} (hm : P.follows .mixedOrders = true) (hl : lookD ops = true)
    (hlt : mkLt t.length ops.toList = true) (S : Sim ng g t m a w) (h : evA P ng ops.toList m ops.toList t m K) (hQ : ∀ a' w', Reach ng K g m w a' w' → Q .normal a' w') : (Code.region id ops true).wp P Q a w := by
  obtain ⟨T, M, run, v, h1, h2, h3, h4⟩ := evA_walk _ _ _ _ h
  rw [Array.length_toList] at h3
  have C : Ctx False P ng ops (firstEff ops.toList) m t T M run v := ⟨by have := looked hl; simpa using this, hlt, h1, h2, fun k o ho => (h4 k o ho).1, fun k o ho => (h4 k o (by simpa using ho)).2, fun h => h.elim⟩
  exact drawn_ctx hm C h3 S hQ
/-- The same, where loads may come behind stores. -/
theorem drawn_lax {id : Nat} {Q : Exit → Act → World → Prop} {g : Nat → Pl} {t : List V} {m : List Blk} {a : Act} {w : World} {K : List V → List Blk → Prop} (hm : P.follows .mixedOrders = true) (hl : lookF ops = true)
    (hlt : mkLt t.length ops.toList = true) (S : Sim ng g t m a w) (h : evF P ng m ops.toList [] t m K) (hQ : ∀ a' w', Reach ng K g m w a' w' → Q .normal a' w') : (Code.region id ops true).wp P Q a w := by
  simp only [lookF, Bool.and_eq_true] at hl
  obtain ⟨T, M, v, h1, h2, h3, h4, _, h6⟩ := evF_walk (ops := ops.toList) _ (fun k o ho => noGuards_spec hl.1 k o ho) _ _ _ _ h
  rw [Array.length_toList] at h3
  have C : Ctx True P ng ops (firstEff ops.toList) m t T M (fun _ => true) v := ⟨by have := looked hl.2; simpa using this, hlt, h1, h2, fun k o ho => (h4 k o ho).1, fun k o ho => (h4 k o (by simpa using ho)).2, fun _ i o ho hi hld _ k h1 h2 => h6 i o (by simpa using ho) hi hld k h1 (by simpa using h2)⟩
  exact drawn_ctx hm C h3 S hQ
end
end Go.Eng
