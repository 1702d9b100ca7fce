/- The engine, part 11: the evaluator is sound for code without drawn orders. No condition. -/
import Derived.Test.YtbfdbpmdibjanaaDoorE10
namespace Go.Eng
open Go
section
variable {P : Program} {ng : Nat}

theorem Step.glob {g g' : Nat → Pl} {m m' : List Blk} {w w' : World} (h : Step g m w g' m' w') (hg : ng ≤ m.length ∧ ∀ i, i < ng → g i = ⟨i, 0, 0, 0⟩) : ng ≤ m'.length ∧ ∀ i, i < ng → g' i = ⟨i, 0, 0, 0⟩ :=
  ⟨Nat.le_trans hg.1 h.len, fun i hi => by rw [(h.ag i (by omega)).zero (by rw [hg.2 i hi])]; exact hg.2 i hi⟩
theorem Sim.put {g g' : Nat → Pl} {t : List V} {m m' : List Blk} {a : Act} {w w' : World} (S : Sim ng g t m a w) (d : Option Tmp) {v : V} {x : Value} (hr : Rv m'.length g' v x) (hp : Rep g' m' w') (hs : Step g m w g' m' w') :
    Sim ng g' (match d with | some d => t.set d v | none => t) m' (a.put d x) w' := by
  have ht := Rvs_monoA hs.len hs.ag _ S.tmps
  cases d with
  | none => exact ⟨S.defers, ht, hp, hs.glob S.glob⟩
  | some d => exact ⟨S.defers, by simpa [Act.put] using Rvs_set ht d hr, hp, hs.glob S.glob⟩
theorem putK_eq (d : Option Tmp) (t : List V) (v : V) (K : List V → Prop) : putK d t v K = K (match d with | some d => t.set d v | none => t) := by
  cases d <;> simp [putK, setT_eq]
theorem dstOf_eq : ∀ (ops : List Oper) (j : Nat), dstOf ops j = (ops[j]?).bind (·.dst)
  | [], j => by simp [dstOf]
  | o :: os, 0 => by simp [dstOf]
  | o :: os, j + 1 => by simp [dstOf, dstOf_eq os j]

/-- 'Q' behind some steps from (g, m, w) at which 'K' holds. -/
def Reach (ng : Nat) (K : List V → List Blk → Prop) (g : Nat → Pl) (m : List Blk) (w : World) (a' : Act) (w' : World) : Prop :=
  ∃ g' t' m', K t' m' ∧ Sim ng g' t' m' a' w' ∧ Step g m w g' m' w'
theorem Reach.from {K : List V → List Blk → Prop} {g g1 : Nat → Pl} {m m1 : List Blk} {w w1 : World} {a' : Act} {w' : World} (h : Step g m w g1 m1 w1) (r : Reach ng K g1 m1 w1 a' w') : Reach ng K g m w a' w' := by
  obtain ⟨g', t', m', h1, h2, h3⟩ := r
  exact ⟨g', t', m', h1, h2, h.trans h3⟩

theorem oper_wp_of_gets {o : Oper} {a : Act} {w : World} {g : Nat → Pl} {t : List V} {m : List Blk} {K : V → List Blk → Prop} {next : Act → World → Prop} {Q : Exit → Act → World → Prop}
    (S : Sim ng g t m a w) (h : Gets P K g m w ((execOp a.eval o).run P w))
    (hn : ∀ v m' g' x w', K v m' → Sim ng g' (match o.dst with | some d => t.set d v | none => t) m' (a.put o.dst x) w' → Step g m w g' m' w' → next (a.put o.dst x) w') : o.wp P a w next Q := by
  unfold Oper.wp
  generalize (execOp a.eval o).run P w = r at h
  cases r with
  | halt x w' => exact h.elim
  | ok nx w' =>
    cases nx <;> simp only [Gets] at h <;> try exact h.elim
    case value x =>
      obtain ⟨v, m', g', h1, h2, h3, h4⟩ := h
      exact hn v m' g' x w' h1 (S.put o.dst h2 h3 h4) h4
    case skip =>
      obtain ⟨v, m', g', h1, h2, h3, h4⟩ := h
      exact hn v m' g' undef w' h1 (S.put o.dst h2 h3 h4) h4
    case enter f xs =>
      refine Calls.mono h ?_
      rintro e w2 ⟨x, rfl, v, m', g', h1, h2, h3, h4⟩
      exact hn v m' g' x w2 h1 (S.put o.dst h2 h3 h4) h4

theorem evOps_sound {ops : Array Oper} {Q : Exit → Act → World → Prop} : ∀ (l : List Oper) (t : List V) (m : List Blk) (K : List V → List Blk → Prop) (g : Nat → Pl) (a : Act) (w : World),
    evOps P ng ops.toList l t m K → Sim ng g t m a w → (∀ a' w', Reach ng K g m w a' w' → Q .normal a' w') → wpList P ops Q l a w
  | [], t, m, K, g, a, w, h, S, hQ => hQ a w ⟨g, t, m, h, S, .refl _ _ _⟩
  | o :: os, t, m, K, g, a, w, h, S, hQ => by
    have exec : ∀ (t : List V), Sim ng g t m a w → (evOp P ng o.op t m fun v m' => putK o.dst t v fun t' => evOps P ng ops.toList os t' m' K) → o.wp P a w (wpList P ops Q os) Q := by
      intro t S h
      refine oper_wp_of_gets S (evOp_sound S o h) (fun v m' g' x w' hk S' hs => ?_)
      rw [putK_eq] at hk
      exact evOps_sound os _ m' K g' _ w' hk S' (fun a2 w2 r => hQ a2 w2 (r.from hs))
    have skip : ∀ (t : List V), Sim ng g t m a w → (putK o.dst t V.un fun t' => evOps P ng ops.toList os t' m K) → wpList P ops Q os (a.put o.dst undef) w := by
      intro t S h
      rw [putK_eq] at h
      exact evOps_sound os _ m K g _ w h (S.put o.dst Rv_un S.rep (.refl _ _ _)) hQ
    simp only [evOps] at h
    simp only [wpList]
    split at h
    · rename_i hg
      rw [if_pos (by simp [Region.wanted, hg])]
      exact .inl (exec t S h)
    · rename_i j want hg
      split at h
      · rename_i d hd
        rw [dstOf_eq] at hd
        have hy : ∀ b : Bool, a.tmps.getD d undef = .bool b → d < a.tmps.size → yielded ops a.tmps j = some b := by
          intro b hb hlt
          have hd' : (ops[j]?).bind (·.dst) = some d := by simpa using hd
          simp only [yielded, hd', Option.bind_some]
          have : a.tmps[d]? = some (.bool b) := by
            rw [Array.getElem?_eq_getElem hlt]
            simpa [Array.getD_eq_getD_getElem?, hlt] using hb
          rw [this]
        have hlen := Rvs_length S.tmps
        rw [Array.length_toList] at hlen
        split at h
        · rename_i c hc
          have hrv := Rvs_getD S.tmps d
          rw [← getT_eq, hc] at hrv
          simp only [Rv] at hrv
          have hlt : d < a.tmps.size := by
            rcases Nat.lt_or_ge d a.tmps.size with h' | h'
            · exact h'
            · rw [List.getD_eq_getElem?_getD, List.getElem?_eq_none (by simpa using h')] at hrv
              simp [undef] at hrv
          have hrv' : a.tmps.getD d undef = .bool c := by simpa using hrv
          have hyc := hy c hrv' hlt
          have hset : ∀ b, c = b → Sim ng g (t.set d (.bool b)) m a w := by
            rintro b rfl
            have := Rvs_set S.tmps d (v := .bool c) (x := .bool c) (Rv_bool c)
            have he : a.tmps.toList.set d (.bool c) = a.tmps.toList := by
              apply List.ext_getElem?
              intro i
              rw [List.getElem?_set]
              by_cases hi : d = i
              · subst hi
                simp only [Array.length_toList, hlt, if_true]
                have : a.tmps[d]? = some (.bool c) := by
                  rw [Array.getElem?_eq_getElem hlt]
                  simpa [Array.getD_eq_getD_getElem?, hlt] using hrv'
                simpa using this.symm
              · rw [if_neg hi]
            rw [he] at this
            exact ⟨S.defers, this, S.rep, S.glob⟩
          rw [br_iff] at h
          rcases h with ⟨hct, h⟩ | ⟨hcf, h⟩
          · rw [setT_eq] at h
            subst hct
            cases want with
            | true =>
              rw [if_pos (by simp [Region.wanted, hg, hyc])]
              exact .inl (exec _ (hset true rfl) h)
            | false =>
              rw [if_neg (by simp [Region.wanted, hg, hyc])]
              exact skip _ (hset true rfl) h
          · rw [setT_eq] at h
            subst hcf
            cases want with
            | true =>
              rw [if_neg (by simp [Region.wanted, hg, hyc])]
              exact skip _ (hset false rfl) h
            | false =>
              rw [if_pos (by simp [Region.wanted, hg, hyc])]
              exact .inl (exec _ (hset false rfl) h)
        · rename_i xs hc
          have hrv := Rvs_getD S.tmps d
          rw [← getT_eq, hc] at hrv
          simp only [Rv] at hrv
          have hyn : yielded ops a.tmps j = none := by
            have hd' : (ops[j]?).bind (·.dst) = some d := by simpa using hd
            simp only [yielded, hd', Option.bind_some]
            rcases Nat.lt_or_ge d a.tmps.size with h' | h'
            · have : a.tmps[d]? = some (.tuple xs) := by
                rw [Array.getElem?_eq_getElem h']
                simpa [h'] using hrv
              rw [this]
            · rw [Array.getElem?_eq_none h']
          rw [if_neg (by simp [Region.wanted, hg, hyn])]
          exact skip t S h
        · exact h.elim
      · exact h.elim
end
end Go.Eng
