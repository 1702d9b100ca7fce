/- The engine, part 21: loops by rounds and by invariants; a callee's contract in more memory; floats by their bits. No condition. -/
import Derived.Test.YtbfdbpmdibjanaaDoorE20
namespace Go.Eng
open Go
section
variable {P : Program} {ng : Nat}

theorem br_mono {c : Bool} {A A' B B' : Prop} (h : A → A') (h' : B → B') (hh : br c A B) : br c A' B' := by
  cases c
  · exact h' hh
  · exact h hh
theorem putK_mono {d : Option Tmp} {t : List V} {v : V} {K K' : List V → Prop} (h : ∀ t, K t → K' t) (hh : putK d t v K) : putK d t v K' := by
  rw [putK_eq] at *; exact h _ hh
theorem evOps_mono {ops : List Oper} : ∀ {l : List Oper} {t : List V} {m : List Blk} {K K' : List V → List Blk → Prop}, (∀ t m, K t m → K' t m) → evOps P ng ops l t m K → evOps P ng ops l t m K'
  | [], t, m, K, K', h, hh => h _ _ hh
  | o :: os, t, m, K, K', h, hh => by
    simp only [evOps] at hh ⊢
    split
    · rename_i hg
      simp only [hg] at hh
      exact evOp_mono (fun v m' => putK_mono fun t' => evOps_mono h) hh
    · rename_i j want hg
      simp only [hg] at hh
      split
      · rename_i d hd
        simp only [hd] at hh
        split
        · rename_i c hc
          simp only [hc] at hh
          refine br_mono ?_ ?_ hh <;> rw [setT_eq, setT_eq]
          · cases want with
            | true => exact evOp_mono fun v m' => putK_mono fun t' => evOps_mono h
            | false => exact putK_mono fun t' => evOps_mono h
          · cases want with
            | true => exact putK_mono fun t' => evOps_mono h
            | false => exact evOp_mono fun v m' => putK_mono fun t' => evOps_mono h
        · rename_i xs hc
          simp only [hc] at hh
          exact putK_mono (fun t' => evOps_mono h) hh
        · rename_i h1 h2
          split at hh
          · rename_i c hc; exact absurd hc (h1 c)
          · rename_i xs hc; exact absurd hc (h2 xs)
          · exact hh
      · rename_i hd
        simp only [hd] at hh
theorem evQ_mono {op : Op} {t : List V} {m : List Blk} {K K' : V → Prop} (h : ∀ v, K v → K' v) (hh : evQ P ng op t m K) : evQ P ng op t m K' := by
  unfold evQ at *
  cases op <;> try exact hh
  case load ty a => exact (lin_loadV P ty _ m).mono _ _ h hh
  case call c =>
    obtain ⟨callee, args, ats⟩ := c
    cases callee <;> try exact hh
    rename_i f
    simp only at hh ⊢
    cases hf : evO ng t f <;> rw [hf] at hh <;> try exact hh
    rename_i fn a b
    cases fn <;> try exact hh
    simp only [evArgs_eq] at hh ⊢
    obtain ⟨r, h1, h2⟩ := hh
    rw [fV_eq] at h2
    exact ⟨r, h1, by rw [fV_eq]; exact h _ h2⟩
theorem evOne_mono {k : Kd} {op : Op} {t : List V} {m0 m : List Blk} {K K' : V → List Blk → Prop} (h : ∀ v m, K v m → K' v m) (hh : evOne P ng k op t m0 m K) : evOne P ng k op t m0 m K' := by
  cases k with
  | pure => exact evOp_mono (fun v _ => h v m) hh
  | quiet => exact evQ_mono (fun v => h v m) hh
  | mk => exact evOp_mono h hh
  | eff => exact hh
theorem evA_mono {ops : List Oper} {m0 : List Blk} : ∀ {l : List Oper} {t : List V} {m : List Blk} {K K' : List V → List Blk → Prop}, (∀ t m, K t m → K' t m) → evA P ng ops m0 l t m K → evA P ng ops m0 l t m K'
  | [], t, m, K, K', h, hh => h _ _ hh
  | o :: os, t, m, K, K', h, hh => by
    simp only [evA] at hh ⊢
    split
    · rename_i hk
      simp only [hk] at hh
      exact evOps_mono h hh
    · rename_i k hk
      split at hh
      · rename_i he; exact absurd he hk
      · split
        · rename_i hg
          simp only [hg] at hh
          exact evOne_mono (fun v m' => putK_mono fun t' => evA_mono h) hh
        · rename_i j want hg
          simp only [hg] at hh
          split
          · rename_i d hd
            simp only [hd] at hh
            split
            · rename_i c hc
              simp only [hc] at hh
              refine br_mono ?_ ?_ hh <;> rw [setT_eq, setT_eq]
              · cases want with
                | true => exact evOne_mono fun v m' => putK_mono fun t' => evA_mono h
                | false => exact putK_mono fun t' => evA_mono h
              · cases want with
                | true => exact putK_mono fun t' => evA_mono h
                | false => exact evOne_mono fun v m' => putK_mono fun t' => evA_mono h
            · rename_i xs hc
              simp only [hc] at hh
              exact putK_mono (fun t' => evA_mono h) hh
            · rename_i h1 h2
              split at hh
              · rename_i c hc; exact absurd hc (h1 c)
              · rename_i xs hc; exact absurd hc (h2 xs)
              · exact hh
          · rename_i hd
            simp only [hd] at hh
theorem chk_mono {m : List Blk} {K K' : Prop} (h : K → K') : ∀ {F : List (TypeId × V × V)}, chk P F m K → chk P F m K'
  | [], hh => h hh
  | e :: F, hh => (lin_loadV P e.1 e.2.1 m).mono (fun u => u = e.2.2 ∧ chk P F m K) (fun u => u = e.2.2 ∧ chk P F m K') (fun u hu => ⟨hu.1, chk_mono h hu.2⟩) hh
theorem evB_mono {F : List (TypeId × V × V)} : ∀ {l : List Oper} {t : List V} {m : List Blk} {K K' : List V → List Blk → Prop}, (∀ t m, K t m → K' t m) → evB P ng F l t m K → evB P ng F l t m K'
  | [], t, m, K, K', h, hh => h _ _ hh
  | o :: os, t, m, K, K', h, hh => evOp_mono (K' := fun v m' => chk P F m' (putK o.dst t v fun t' => evB P ng F os t' m' K')) (fun v m' => chk_mono (putK_mono fun t' => evB_mono h)) hh
theorem evF_mono {m0 : List Blk} : ∀ {l : List Oper} {F : List (TypeId × V × V)} {t : List V} {m : List Blk} {K K' : List V → List Blk → Prop}, (∀ t m, K t m → K' t m) → evF P ng m0 l F t m K → evF P ng m0 l F t m K'
  | [], F, t, m, K, K', h, hh => h _ _ hh
  | o :: os, F, t, m, K, K', h, hh => by
    have e : ∀ K, evF P ng m0 (o :: os) F t m K = (match kd o.op with
      | .eff => evB P ng F (o :: os) t m K
      | k => evOne P ng k o.op t m0 m fun v m' => putK o.dst t v fun t' => match o.op with
        | .load ty a => fV (evO ng t a) fun av => fV v fun v => evF P ng m0 os ((ty, av, v) :: F) t' m' K
        | _ => evF P ng m0 os F t' m' K) := fun _ => rfl
    rw [e] at hh ⊢
    have key : ∀ k, (evOne P ng k o.op t m0 m fun v m' => putK o.dst t v fun t' => match o.op with
        | .load ty a => fV (evO ng t a) fun av => fV v fun v => evF P ng m0 os ((ty, av, v) :: F) t' m' K
        | _ => evF P ng m0 os F t' m' K) → (evOne P ng k o.op t m0 m fun v m' => putK o.dst t v fun t' => match o.op with
        | .load ty a => fV (evO ng t a) fun av => fV v fun v => evF P ng m0 os ((ty, av, v) :: F) t' m' K'
        | _ => evF P ng m0 os F t' m' K') := by
      intro k hh
      refine evOne_mono (fun v m' => putK_mono fun t' => ?_) hh
      cases o.op
      case load ty a =>
        simp only [fV_eq]
        exact evF_mono h
      all_goals exact evF_mono h
    cases hk : kd o.op <;> rw [hk] at hh
    case eff => exact evB_mono h hh
    all_goals exact key _ hh
theorem ev_mono : ∀ (c : Code) {t : List V} {m : List Blk} {K K' : Exit → List V → List Blk → Prop}, (∀ e t m, K e t m → K' e t m) → ev P ng c t m K → ev P ng c t m K'
  | .skip, _, _, _, _, h, hh => h _ _ _ hh
  | .region id ops false, _, _, _, _, h, hh => evOps_mono (fun t m => h _ t m) hh
  | .region id ops true, _, _, _, _, h, hh => br_mono (evA_mono fun t m => h _ t m) (br_mono (evF_mono fun t m => h _ t m) (fun h => h)) hh
  | .seq x y, _, _, _, _, h, hh => ev_mono x (fun e t m hk => by
    cases e with
    | normal => exact ev_mono y h hk
    | _ => exact h _ _ _ hk) hh
  | .cond c x y, t, _, _, _, h, hh => by
    simp only [ev] at hh ⊢
    cases hc : evO ng t c <;> rw [hc] at hh <;> try exact hh
    exact br_mono (ev_mono x h) (ev_mono y h) hh
  | .block id c, _, _, _, _, h, hh => ev_mono c (fun e t m hk => by
    cases e with
    | exit id' =>
      simp only at hk ⊢
      cases hb : Nat.beq id' id <;> simp only [hb] at hk ⊢ <;> exact h _ _ _ hk
    | _ => exact h _ _ _ hk) hh
  | .loop c, _, _, _, _, h, hh => ⟨fun J hJ hF => loopVC.out hh J (fun t m hb => hJ t m (ev_mono c (fun e t m hk => by
    cases e with
    | normal => exact hk
    | _ => exact h _ _ _ hk) hb)) hF⟩
  | .rangeFunc .., _, _, _, _, _, hh => hh
  | .exit id, _, _, _, _, h, hh => h _ _ _ hh
  | .scope c, _, _, _, _, _, hh => hh
  | .label l, _, _, _, _, h, hh => h _ _ _ hh
  | .goto l, _, _, _, _, _, hh => hh
  | .ret, _, _, _, _, h, hh => h _ _ _ hh
  | .refuse s, _, _, _, _, _, hh => hh

/-- One round of a loop, then the loop again. -/
theorem loop_round {n : Nat} {c : Code} {t : List V} {m : List Blk} {K : Exit → List V → List Blk → Prop}
    (h : ev P ng c t m fun e t' m' => match e with | .normal => loopVC n c (ev P ng c) t' m' K | e => K e t' m') : loopVC n c (ev P ng c) t m K :=
  ⟨fun J hJ hF => hJ t m (ev_mono c (fun e t m hk => by
    cases e with
    | normal => exact loopVC.out hk J hJ hF
    | _ => exact hk) h)⟩
/-- What is no longer needed may be forgotten. -/
theorem loop_forget {n : Nat} {c : Code} {t T : List V} {m M : List Blk} {K : Exit → List V → List Blk → Prop} (F : Fg n t m T M) (h : loopVC n c (ev P ng c) T M K) : loopVC n c (ev P ng c) t m K :=
  ⟨fun J hJ hF => hF t m T M F (h.out J hJ hF)⟩
/-- A loop by what holds at each round's head, and a number that falls; what is no longer needed may be forgotten at each head. -/
theorem loop_fg {n : Nat} {c : Code} {t : List V} {m : List Blk} {K : Exit → List V → List Blk → Prop} (I : List V → List Blk → Prop) (μ : List V → List Blk → Nat) (h0 : ∃ T M, Fg n t m T M ∧ I T M)
    (round : ∀ t' m', I t' m' → ev P ng c t' m' fun e t1 m1 => match e with | .normal => ∃ T M, Fg n t1 m1 T M ∧ I T M ∧ μ T M < μ t' m' | e => K e t1 m1) : loopVC n c (ev P ng c) t m K := by
  refine ⟨fun J hJ hF => ?_⟩
  have key : ∀ k t' m', μ t' m' = k → I t' m' → J t' m' := by
    intro k
    induction k using Nat.strongRecOn with
    | _ k ih =>
      intro t' m' hn hI
      refine hJ t' m' (ev_mono c (fun e t1 m1 hk => ?_) (round t' m' hI))
      cases e with
      | normal =>
        obtain ⟨T, M, F, hI', hμ⟩ := hk
        exact hF t1 m1 T M F (ih _ (hn ▸ hμ) T M rfl hI')
      | _ => exact hk
  obtain ⟨T, M, F, hI⟩ := h0
  exact hF t m T M F (key _ T M rfl hI)
/-- A loop over a count of states, at whose heads one forgets. -/
theorem loop_to {n : Nat} {c : Code} {t : List V} {m : List Blk} {K : Exit → List V → List Blk → Prop} (T : Nat → List V) (M : Nat → List Blk) (a b : Nat) (hab : a ≤ b) (h0 : Fg n t m (T a) (M a))
    (round : ∀ k, a ≤ k → k < b → ev P ng c (T k) (M k) fun e t1 m1 => match e with | .normal => Fg n t1 m1 (T (k + 1)) (M (k + 1)) | e => K e t1 m1)
    (last : ev P ng c (T b) (M b) fun e t1 m1 => match e with | .normal => False | e => K e t1 m1) : loopVC n c (ev P ng c) t m K := by
  refine loop_forget h0 ?_
  have key : ∀ d k, k + d = b → a ≤ k → loopVC n c (ev P ng c) (T k) (M k) K := by
    intro d
    induction d with
    | zero =>
      intro k hk _
      obtain rfl : k = b := by omega
      refine loop_round (ev_mono c (fun e t' m' hk => ?_) last)
      cases e with
      | normal => exact hk.elim
      | _ => exact hk
    | succ d ih =>
      intro k hk hak
      refine loop_round (ev_mono c (fun e t' m' h => ?_) (round k hak (by omega)))
      cases e with
      | normal => exact loop_forget h (ih (k + 1) (by omega) (by omega))
      | _ => exact h
  exact key (b - a) a (by omega) (Nat.le_refl _)
/-- What may be forgotten, by sight. -/
theorem Fg.of {n : Nat} {t T : List V} {m M : List Blk} (x : List Blk) (h1 : wkL T t) (h2 : m = M ++ x) (h3 : Nat.ble n M.length = true) (h4 : scL M.length T = true) (h5 : scM M.length M = true) : Fg n t m T M :=
  ⟨h1, ⟨x, h2⟩, by simpa using h3, fun _ _ => Rvs_shrink T h4, fun _ _ _ _ _ v hb hv => Rv_shrink v (B.sc_get (scM_get h5 hb) hv)⟩
/-- Nothing is forgotten of memory. -/
theorem Fg.all {n : Nat} {t T : List V} {m : List Blk} (h1 : wkL T t) (h3 : n ≤ m.length) : Fg n t m T m :=
  ⟨h1, ⟨[], by simp⟩, h3, fun _ _ h => h, fun _ _ _ _ _ _ _ _ h => h⟩
theorem Fg.refl {t : List V} {m : List Blk} {n : Nat} (h : n ≤ m.length) : Fg n t m t m := by
  refine Fg.all ?_ h
  induction t with
  | nil => rfl
  | cons v t ih => cases v <;> first | exact ih | exact ⟨rfl, ih⟩
/-- A loop by what holds at each round's head, and a number that falls. -/
theorem loop_inv {n : Nat} {c : Code} {t : List V} {m : List Blk} {K : Exit → List V → List Blk → Prop} (I : List V → List Blk → Prop) (μ : List V → List Blk → Nat) (h0 : I t m) (hn : n ≤ m.length)
    (round : ∀ t m, n ≤ m.length → I t m → ev P ng c t m fun e t' m' => match e with | .normal => n ≤ m'.length ∧ I t' m' ∧ μ t' m' < μ t m | e => K e t' m') : loopVC n c (ev P ng c) t m K := by
  refine loop_fg (fun t m => n ≤ m.length ∧ I t m) μ ⟨t, m, Fg.refl hn, hn, h0⟩ fun t' m' hI => ev_mono c (fun e t1 m1 hk => ?_) (round t' m' hI.1 hI.2)
  cases e with
  | normal => exact ⟨t1, m1, Fg.refl hk.1, ⟨hk.1, hk.2.1⟩, hk.2.2⟩
  | _ => exact hk

/-! ### More memory than the callee sees -/
theorem rep_more {g g' : Nat → Pl} {m x : List Blk} {w w' : World} (R : Rep g (m ++ x) w) (hro : roM m = true) (hs : Step g m w g' m w') : Rep g (m ++ x) w' ∧ Step g (m ++ x) w g (m ++ x) w' := by
  have hnf : ∀ p, ¬ Foot g m p := fun p ⟨i, b, hb, hw, _⟩ => by rw [roM_get hro hb] at hw; cases hw
  have hh : ∀ p, p < w.heap.size → w'.heap[p]? = w.heap[p]? := fun p hp => hs.same p hp (hnf p)
  exact ⟨⟨fun i b hb => (R.blk i b hb).congr (hh _ (R.blk i b hb).size) (Nat.le_refl _) fun _ _ => .inl rfl, R.apart⟩, ⟨Nat.le_refl _, agree_of fun _ _ => ⟨rfl, rfl⟩, hs.os, hs.tape, hs.output, hs.size, fun p hp _ => hh p hp, fun _ _ h => h⟩⟩
/-- A contract over read-only memory holds where there is more. -/
theorem COk.more {f : FuncId} {args : List V} {m : List Blk} {r : V} (h : COk P ng f args m r m) (hng : Nat.ble ng m.length = true) (hro : roM m = true) (hsc : scM m.length m = true) (ha : scL m.length args = true) (x : List Blk) :
    COk P ng f args (m ++ x) r (m ++ x) := by
  intro g w xs hg hrep hargs
  have R0 : Rep g m w := hrep.forget fun i b hb j v hv => B.sc_get (scM_get hsc hb) hv
  have hng' : ng ≤ m.length := by simpa using hng
  have := h g w xs ⟨hng', hg.2⟩ R0 (Rvs_shrink _ ha hargs)
  have fin : ∀ (g' : Nat → Pl) (y : Value) (w' : World), Rv m.length g' r y → Rep g' m w' → Step g m w g' m w' → ∃ g', Rv (m ++ x).length g' r y ∧ Rep g' (m ++ x) w' ∧ Step g (m ++ x) w g' (m ++ x) w' := by
    intro g' y w' h1 h2 h3
    obtain ⟨k1, k2⟩ := rep_more hrep hro h3
    refine ⟨g, ?_, k1, k2⟩
    exact Rv_mono (by simp) (fun i hi => (h3.eq i hi).symm) _ h1
  revert this
  cases (callFunc f xs.toArray).run P w with
  | halt x w' => exact fun h => h.elim
  | ok nx w' =>
    cases nx <;> intro this <;> first
      | exact this.elim
      | skip
    case value y =>
      obtain ⟨g', h1, h2, h3⟩ := this
      exact fin g' y w' h1 h2 h3
    case enter f2 ys2 =>
      refine Calls.mono this ?_
      rintro e w2 ⟨g', y, h0, h1, h2, h3⟩
      obtain ⟨g2, k1, k2, k3⟩ := fin g' y w2 h1 h2 h3
      exact ⟨g2, y, h0, k1, k2, k3⟩

/-! ### Floats by their bits -/
theorem Rv_bits {n : Nat} {g : Nat → Pl} {o : Option Nat} {x : Value} (h : Rv n g (.fl o) x) : ∃ b, fden o b ∧ Rv n g (.fl (some b)) x := by
  simp only [Rv] at *
  obtain ⟨b, h1, h2⟩ := h
  exact ⟨b, h1, b, rfl, h2⟩
theorem Rvs_bits {n : Nat} {g : Nat → Pl} {as bs : List V} {o : Option Nat} {xs : List Value} (h : Rvs n g (as ++ .fl o :: bs) xs) : ∃ b, fden o b ∧ Rvs n g (as ++ .fl (some b) :: bs) xs := by
  induction as generalizing xs with
  | nil =>
    simp only [List.nil_append, Rvs] at *
    obtain ⟨y, ys, h1, h2, h3⟩ := h
    obtain ⟨b, k1, k2⟩ := Rv_bits h2
    exact ⟨b, k1, y, ys, h1, k2, h3⟩
  | cons v as ih =>
    simp only [List.cons_append, Rvs] at *
    obtain ⟨y, ys, h1, h2, h3⟩ := h
    obtain ⟨b, k1, k2⟩ := ih h3
    exact ⟨b, k1, y, ys, h1, h2, k2⟩
/-- A contract for each pattern of bits that a float may have is one for the float. -/
theorem COk_bits {f : FuncId} (as : List V) {bs : List V} {o : Option Nat} {m m' : List Blk} {r : V} (h : ∀ b, fden o b → COk P ng f (as ++ .fl (some b) :: bs) m r m') : COk P ng f (as ++ .fl o :: bs) m r m' := by
  intro g w xs hg hrep hargs
  obtain ⟨b, h1, h2⟩ := Rvs_bits hargs
  exact h b h1 g w xs hg hrep h2
/-- A function of the model's own that only reckons. -/
theorem COk_ext {f : FuncId} {args : List V} {m : List Blk} {r : V} (h : ∀ n g w xs, Rvs n g args xs → ∃ x w', (callFunc f xs.toArray).run P w = .ok (.value x) w' ∧ Rv n g r x ∧ Drew w w') : COk P ng f args m r m := by
  intro g w xs hg hrep hargs
  obtain ⟨x, w', h1, h2, h3⟩ := h m.length g w xs hargs
  rw [h1]
  exact ⟨g, h2, h3.rep hrep, h3.step⟩
end
end Go.Eng
