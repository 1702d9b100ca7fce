/- The engine, part 18: regions that draw their order: the steps, and the theorem. No condition. -/
import Derived.Test.YtbfdbpmdibjanaaDoorE17
namespace Go.Eng
open Go
section
variable {P : Program} {ng : Nat} {ops : Array Oper} {s : Nat} {m0 : List Blk} {t0 : List V} {T : Nat → List V} {M : Nat → List Blk} {run : Nat → Bool} {v : Nat → V}
variable {g0 : Nat → Pl} {w0 : World}

def Inv (ng : Nat) (ops : Array Oper) (s : Nat) (m0 : List Blk) (t0 : List V) (M : Nat → List Blk) (run : Nat → Bool) (v : Nat → V) (g0 : Nat → Pl) (w0 : World) (D : Nat → Prop) (a : Act) (w : World) : Prop :=
  ((∀ k, NB ops s k → ¬ D k) ∧ ∃ g t pf, StA ng ops s m0 t0 M run v g0 w0 D g t pf a w) ∨
  (∃ k, NB ops s k ∧ D k ∧ (∀ k', NB ops s k' → D k' → k' ≤ k) ∧ ∃ g t, StB ng ops m0 t0 v g0 w0 (M (k + 1)) D g t a w)

theorem mkV_inj {sh sh' : Sh} {n : Nat} (h : mkV sh n = mkV sh' n) : sh = sh' := by
  cases sh <;> cases sh' <;> simp_all [mkV]
theorem rep_push {g : Nat → Pl} {m : List Blk} {w : World} (h : Rep g m w) (o : Obj) : Rep g m { w with heap := w.heap.push o } := by
  have hh : ∀ p, p < w.heap.size → (w.heap.push o)[p]? = w.heap[p]? := fun p hp => by rw [Array.getElem?_push, if_neg (by omega)]
  exact ⟨fun i b hb => (h.blk i b hb).congr (hh _ (h.blk i b hb).size) (Nat.le_refl _) fun _ _ => .inl rfl, h.apart⟩
theorem step_push (g : Nat → Pl) (m : List Blk) (w : World) (o : Obj) : Step g m w g m { w with heap := w.heap.push o } :=
  ⟨Nat.le_refl _, agree_of fun _ _ => ⟨rfl, rfl⟩, rfl, rfl, rfl, by simp, fun p hp _ => by
    show (w.heap.push o)[p]? = _
    rw [Array.getElem?_push, if_neg (by omega)], fun p _ h => h⟩
/-- A block that lies there is taken in. -/
theorem adopt {g : Nat → Pl} {t : List V} {m : List Blk} {a : Act} {w : World} (S : Sim ng g t m a w) {p x : Nat} {c : Array Value} {e : TypeId} {sh : Sh} {cs : List V}
    (hp : w.heap[p]? = some (.cells c e)) (hf : ∀ i, i < m.length → (g i).1 ≠ p) (hc : Rvs m.length g cs c.toList) (hx : a.tmps.getD x undef = mkX sh p) :
    Sim ng (newAt g m.length p) (t.set x (mkV sh m.length)) (m ++ [⟨true, .cells cs⟩]) a w := by
  have hag : ∀ i, i < m.length → newAt g m.length p i = g i := fun i hi => by exact newAtP_old g m.length _ i hi
  have hlen : (m ++ [(⟨true, .cells cs⟩ : Blk)]).length = m.length + 1 := by simp
  have hget : ∀ (i : Nat) (d : Blk), (m ++ [(⟨true, .cells cs⟩ : Blk)])[i]? = some d → (i < m.length ∧ m[i]? = some d) ∨ (i = m.length ∧ d = ⟨true, .cells cs⟩) := by
    intro i d hd
    rcases Nat.lt_or_ge i m.length with hi | hi
    · rw [List.getElem?_append_left hi] at hd; exact .inl ⟨hi, hd⟩
    · rw [List.getElem?_append_right hi] at hd
      have : i - m.length = 0 := by
        have := (List.getElem?_eq_some_iff.1 hd).1; simp at this; omega
      rw [this] at hd; simp at hd
      exact .inr ⟨by omega, hd.symm⟩
  refine ⟨S.defers, ?_, ⟨fun i d hd => ?_, fun i j y z hij hy hz hw hl hl' => ?_⟩, ⟨by have := S.glob.1; omega, fun i hi => by rw [hag i (by have := S.glob.1; omega)]; exact S.glob.2 i hi⟩⟩
  · rw [hlen]
    have h1 := Rvs_mono (n' := m.length + 1) (by omega) hag _ S.tmps
    have h2 := Rvs_set h1 x (v := mkV sh m.length) (x := mkX sh p) (Rv_mk (by omega) (by simp [newAt, newAtP]))
    have he : a.tmps.toList.set x (mkX sh p) = a.tmps.toList := by
      apply List.ext_getElem?
      intro i
      rw [List.getElem?_set]
      by_cases hi : x = i
      · subst hi
        rcases Nat.lt_or_ge x a.tmps.size with hlt | hlt
        · rw [if_pos rfl, if_pos (by simpa using hlt), ← hx]
          simp [hlt]
        · rw [if_pos rfl, if_neg (by simpa using hlt)]
          simp [hlt]
      · rw [if_neg hi]
    rwa [he] at h2
  · rcases hget i d hd with ⟨hi, hd⟩ | ⟨rfl, rfl⟩
    · have R := S.rep.blk i d hd
      rw [hag i hi, hlen]
      exact R.congr rfl (by omega) fun i hi => .inl (hag i hi)
    · have hnew : newAt g m.length p m.length = ⟨p, 0, 0, 0⟩ := by simp [newAt, newAtP]
      rw [hnew, hlen]
      refine ⟨(Array.getElem?_eq_some_iff.1 hp).1, fun j u hu => ?_, fun _ _ j => ?_, (fun _ j hj => absurd hj (Nat.not_lt_zero j)), (fun f hf => nomatch hf), rfl⟩
      · obtain ⟨y, hy, hr⟩ := cells_get hc j u hu
        refine ⟨y, ?_, Rv_mono (by omega) hag u hr⟩
        unfold World.cell?
        simp only [hp, Nat.zero_add]
        simpa using hy
      · unfold World.frozen?
        simp only [hp]
        simp
  · rcases hget i y hy with ⟨hi, hy⟩ | ⟨rfl, rfl⟩
    · rcases hget j z hz with ⟨hj, hz⟩ | ⟨rfl, rfl⟩
      · rw [hag i hi, hag j hj]; exact S.rep.apart i j y z hij hy hz hw hl hl'
      · rw [hag i hi]; simp only [newAt, newAtP, if_true]; exact hf i hi
    · rcases hget j z hz with ⟨hj, hz⟩ | ⟨rfl, rfl⟩
      · rw [hag j hj]; simp only [newAt, newAtP, if_true]; exact (hf j hj).symm
      · exact absurd rfl hij

theorem op_at {k : Nat} (hk : k < ops.size) : ∃ o, ops[k]? = some o := ⟨ops[k], by simp [hk]⟩
section
variable {Lax : Prop} (C : Ctx Lax P ng ops s m0 t0 T M run v)
include C
omit C in
theorem pure_mem {o : Oper} (hk : kd o.op = .pure) {t : List V} {m m' : List Blk} {u : V} (h : evOp P ng o.op t m fun a b => a = u ∧ b = m') : m' = m ∧ ∀ X, evOp P ng o.op t X fun a b => a = u ∧ b = X := by
  rw [pure_any hk t m [] _] at h
  obtain ⟨a, b, ⟨h1, h2⟩, _⟩ := evOp_det h
  refine ⟨h2.symm, fun X => ?_⟩
  rw [pure_any hk t X [] _]
  exact evOp_mono (fun a b ⟨h, _⟩ => ⟨h, rfl⟩) h
/-- Memory along the text: part A. -/
theorem mem_A {k : Nat} (hk : k < s) (hks : k < ops.size) : (∃ x, Mk ops s run k x ∧ ∃ sh cs, v k = mkV sh (M k).length ∧ M (k + 1) = M k ++ [⟨true, .cells cs⟩]) ∨ ((∀ x, ¬ Mk ops s run k x) ∧ M (k + 1) = M k) := by
  obtain ⟨o, ho⟩ := op_at hks
  have E := C.entry k o ho
  have hph : Nat.ble s k = false := by
    rw [Bool.eq_false_iff]; intro h; have : s ≤ k := by simpa using h
    omega
  cases hr : run k with
  | false => exact .inr ⟨fun x ⟨_, _, _, _, h4, _⟩ => by simp [hr] at h4, (E.skip hr).2⟩
  | true =>
    cases hkd : kd o.op with
    | eff => exact absurd hkd (E.early hph)
    | pure => exact .inr ⟨(fun x ⟨o', h1, _, h3, _, _⟩ => by rw [ho] at h1; cases h1; rw [hkd] at h3; exact absurd h3 (by simp)), (E.still hr hph (.inl hkd)).2⟩
    | quiet => exact .inr ⟨(fun x ⟨o', h1, _, h3, _, _⟩ => by rw [ho] at h1; cases h1; rw [hkd] at h3; exact absurd h3 (by simp)), (E.still hr hph (.inr hkd)).2⟩
    | mk =>
      obtain ⟨d, hd, _⟩ := C.L.self k o ho hkd
      obtain ⟨sh, cs, h1, h2, _⟩ := mk_spec hkd (E.made hr hph hkd)
      exact .inl ⟨d, ⟨o, ho, hk, hkd, hr, hd⟩, sh, cs, h1, h2⟩
/-- Part B: what touches no memory leaves it. -/
theorem mem_B {k : Nat} (hk : s ≤ k) (hks : k < ops.size) (hn : ¬ NB ops s k) : M (k + 1) = M k := by
  obtain ⟨o, ho⟩ := op_at hks
  have E := C.entry k o ho
  have hpure : kd o.op = .pure := Classical.byContradiction fun h => hn ⟨o, ho, hk, h⟩
  cases hr : run k with
  | false => exact (E.skip hr).2
  | true => exact (pure_mem hpure (E.late hr (by simpa using hk))).1
theorem mem_const {a : Nat} (ha : s ≤ a) : ∀ (n : Nat), a + n ≤ ops.size → (∀ j, a ≤ j → j < a + n → ¬ NB ops s j) → M (a + n) = M a
  | 0, _, _ => rfl
  | n + 1, hn, h => by
    have := mem_B C (k := a + n) (by omega) (by omega) (h (a + n) (by omega) (by omega))
    rw [← Nat.add_assoc, this]
    exact mem_const ha n (by omega) (fun j h1 h2 => h j h1 (by omega))
theorem s_le : s ≤ ops.size := by
  rw [C.L.first, ← Array.length_toList]
  generalize ops.toList = l
  induction l with
  | nil => simp [firstEff]
  | cons o l ih =>
    simp only [firstEff]
    split
    · omega
    · simp; omega

/-- All new blocks are taken in, in the order of the text. -/
theorem adopt_all (R0 : Rep g0 m0 w0) {D : Nat → Prop} {g : Nat → Pl} {t : List V} {pf : Nat → Nat} {a : Act} {w : World} (A : StA ng ops s m0 t0 M run v g0 w0 D g t pf a w) (hall : ∀ j x, Mk ops s run j x → D j) :
    ∃ g' t', StB ng ops m0 t0 v g0 w0 (M s) D g' t' a w := by
  have key : ∀ k, k ≤ s → ∃ g' t', Sim ng g' t' (M k) a w ∧ m0.length ≤ (M k).length ∧ (∀ i, i < m0.length → g' i = g i ∧ (M k)[i]? = m0[i]?) ∧
      (∀ i, m0.length ≤ i → i < (M k).length → ∃ j x, j < k ∧ Mk ops s run j x ∧ (g' i).1 = pf j) ∧ t'.length = t0.length ∧
      (∀ x, x < t0.length → (∀ j, Mk ops s run j x → j < k) → Wr ops v t0 D x (getT t' x)) ∧ (∀ x, (∀ j, Mk ops s run j x → ¬ j < k) → getT t' x = getT t x) := by
    intro k
    induction k with
    | zero =>
      intro _
      refine ⟨g, t, by rw [C.M0]; exact A.sim, by rw [C.M0]; exact Nat.le_refl _, fun i hi => ⟨rfl, by rw [C.M0]⟩, fun i h1 h2 => by rw [C.M0] at h2; omega, A.len, fun x hx h => A.wr x hx fun j hj => absurd (h j hj) (by omega), fun x _ => rfl⟩
    | succ k ih =>
      intro hk
      obtain ⟨g', t', S, hml, h1, h2, h3, h4, h5⟩ := ih (by omega)
      rcases mem_A C (k := k) (by omega) (by have := s_le C; omega) with ⟨x, hm, sh, cs, e1, e2⟩ | ⟨hno, e⟩
      · obtain ⟨hg, hlt, hge⟩ := A.ghost k x (hall k x hm) hm
        obtain ⟨c, e, q1, q2, q3, q4⟩ := hg sh cs e1 e2
        have hfresh : ∀ i, i < (M k).length → (g' i).1 ≠ pf k := by
          intro i hi he
          rcases Nat.lt_or_ge i m0.length with hi0 | hi0
          · rw [(h1 i hi0).1, A.step.eq i hi0] at he
            have hb : ∃ b, m0[i]? = some b := ⟨m0[i], by simp [hi0]⟩
            obtain ⟨b, hb⟩ := hb
            have := (R0.blk i b hb).size
            omega
          · obtain ⟨j, y, hjk, hmj, hj⟩ := h2 i hi0 hi
            exact A.apart j k y x (hall j y hmj) (hall k x hm) hmj hm (by omega) (by rw [← hj, he])
        have hc' : Rvs (M k).length g' cs c.toList := Rvs_mono hml (fun i hi => (h1 i hi).1) _ q4
        refine ⟨newAt g' (M k).length (pf k), t'.set x (mkV sh (M k).length), by rw [e2]; exact adopt S q1 hfresh hc' q3, by rw [e2]; simp; omega, fun i hi => ?_, fun i hi1 hi2 => ?_, by simp [h3], fun y hy hyk => ?_, fun y hyk => ?_⟩
        · refine ⟨by rw [newAt, newAtP, if_neg (by omega)]; exact (h1 i hi).1, ?_⟩
          rw [e2, List.getElem?_append_left (by omega)]
          exact (h1 i hi).2
        · rw [e2] at hi2
          simp only [List.length_append, List.length_cons, List.length_nil] at hi2
          rcases Nat.lt_or_ge i (M k).length with hi3 | hi3
          · obtain ⟨j, z, k1, k2, k3⟩ := h2 i hi1 hi3
            exact ⟨j, z, by omega, k2, by rw [newAt, newAtP, if_neg (by omega)]; exact k3⟩
          · exact ⟨k, x, by omega, hm, by rw [newAt, newAtP, if_pos (by omega)]⟩
        · rw [getT_set]
          by_cases hxy : x = y
          · subst hxy
            rw [if_pos ⟨rfl, by omega⟩, ← e1]
            obtain ⟨o, ho, _, _, _, hd⟩ := id hm
            refine .inl ⟨k, o, ho, hall k x hm, hd, rfl, fun k' o' hk' _ hd' => ?_⟩
            rcases Nat.lt_or_ge k k' with hlt' | hge'
            · exact absurd hd' (mk_slot C hk' hm (by omega))
            · exact hge'
          · rw [if_neg (fun h => hxy h.1)]
            refine h4 y hy fun j hj => ?_
            have := hyk j hj
            rcases Nat.lt_or_ge j k with h | h
            · exact h
            · exfalso
              have : j = k := by omega
              subst this
              obtain ⟨o, ho, _, _, _, hd⟩ := hm
              obtain ⟨o', ho', _, _, _, hd'⟩ := hj
              rw [ho] at ho'; cases ho'; rw [hd] at hd'; cases hd'; exact hxy rfl
        · rw [getT_set, if_neg (fun h => hyk k (by rw [← h.1]; exact hm) (by omega))]
          exact h5 y fun j hj hjk => hyk j hj (by omega)
      · refine ⟨g', t', by rw [e]; exact S, by rw [e]; exact hml, fun i hi => by rw [e]; exact h1 i hi, fun i hi1 hi2 => ?_, h3, fun y hy hyk => h4 y hy fun j hj => ?_, fun y hyk => h5 y fun j hj hjk => hyk j hj (by omega)⟩
        · rw [e] at hi2
          obtain ⟨j, z, k1, k2, k3⟩ := h2 i hi1 hi2
          exact ⟨j, z, by omega, k2, k3⟩
        · have := hyk j hj
          rcases Nat.lt_or_ge j k with h | h
          · exact h
          · exfalso
            have : j = k := by omega
            subst this
            exact hno y hj
  obtain ⟨g', t', S, hml, h1, h2, h3, h4, _⟩ := key s (Nat.le_refl _)
  refine ⟨g', t', S, ⟨hml, agree_of fun i hi => ⟨by rw [(h1 i hi).1]; exact A.step.eq i hi, by rw [getB_eq, getB_eq, List.getD_eq_getElem?_getD, List.getD_eq_getElem?_getD, (h1 i hi).2]⟩, A.step.os, A.step.tape, A.step.output, A.step.size, A.step.same, fun p hp ⟨i, b, hb, hw, he⟩ => ?_⟩, h3, fun x hx => h4 x hx fun j ⟨_, _, hjs, _⟩ => hjs⟩
  rcases Nat.lt_or_ge i m0.length with hi | hi
  · rw [(h1 i hi).1] at he
    rw [(h1 i hi).2] at hb
    exact A.step.foot p hp ⟨i, b, hb, hw, he⟩
  · obtain ⟨j, x, _, hm, hj⟩ := h2 i hi (List.getElem?_eq_some_iff.1 hb).1
    have := (A.ghost j x (hall j x hm) hm).2.2
    omega
end
end
end Go.Eng
