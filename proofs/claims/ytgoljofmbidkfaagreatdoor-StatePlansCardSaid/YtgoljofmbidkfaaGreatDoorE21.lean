import Derived.Test.YtgoljofmbidkfaaGreatDoorE27
/- The engine: parts 20 to 21. No condition. -/
/- The engine, part 20: code, loops, whole functions; memory that a callee does not see. No condition. -/
namespace Go.Eng
open Go
noncomputable def ev (P : Program) (ng : Nat) (c : Code) : List V → List Blk → (Exit → List V → List Blk → Prop) → Prop :=
  Code.rec (motive := fun _ => List V → List Blk → (Exit → List V → List Blk → Prop) → Prop)
    (fun t m K => K .normal t m)
    (fun _ ops draw t m K => match draw with
      | false => evOps P ng ops.toList ops.toList t m fun t m => K .normal t m
      | true => br (lookD ops && mkLt (lenL t) ops.toList && P.follows .mixedOrders) (evA P ng ops.toList m ops.toList t m fun t m => K .normal t m)
          (br (lookF ops && mkLt (lenL t) ops.toList && P.follows .mixedOrders) (evF P ng m ops.toList [] t m fun t m => K .normal t m) (br (lookG ops (lenL t) && P.follows .mixedOrders) (evG P ng (masks ops.toList []) (effs2 0 ops.toList) ops.toList 0 [] [(0, m)] m t m fun t m => K .normal t m) False)))
    (fun _ _ iha ihb t m K => iha t m fun e t m => match e with | .normal => ihb t m K | e => K e t m)
    (fun c _ _ iha ihb t m K => match evO ng t c with
      | .bool c => br c (iha t m K) (ihb t m K)
      | _ => False)
    (fun id _ ih t m K => ih t m fun e t m => match e with
      | .exit id' => match Nat.beq id' id with | true => K .normal t m | false => K (.exit id') t m
      | e => K e t m)
    (fun c ih t m K => loopVC m.length c ih t m K)
    (fun _ _ _ _ _ _ _ _ _ => False)
    (fun id t m K => K (.exit id) t m)
    (fun _ _ _ _ _ => False)
    (fun _ t m K => K .normal t m)
    (fun _ _ _ _ => False)
    (fun t m K => K .ret t m)
    (fun _ _ _ _ => False) c

/-! ### A whole function -/
noncomputable def resV (P : Program) (t : List V) (m : List Blk) (l : List ResultVar) : (List V → Prop) → Prop :=
  List.rec (motive := fun _ => (List V → Prop) → Prop) (fun K => K [])
    (fun r _ ih K => match r with
      | .tmp i => fV (getT t i) fun v => ih fun vs => K (v :: vs)
      | .cell a ty => loadV P ty (getT t a) m fun v => ih fun vs => K (v :: vs)) l
def tupV : List V → V
  | [v] => v
  | vs => .tup vs
def tupK : List V → (V → Prop) → Prop
  | [v], K => fV v K
  | vs, K => K (.tup vs)
/-- Behind a body: the results are 'r', memory begins as 'm''. -/
noncomputable def fin (P : Program) (fn : Func) (r : V) (m' : List Blk) : Exit → List V → List Blk → Prop
  | .normal, t, m | .ret, t, m => resV P t m fn.results.toList fun vs => tupK vs fun v => v = r ∧ ∃ x, m = m' ++ x
  | _, _, _ => False
section
variable {P : Program} {ng : Nat}

def PostE (ng : Nat) (K : Exit → List V → List Blk → Prop) (g : Nat → Pl) (m : List Blk) (w : World) (e : Exit) (a' : Act) (w' : World) : Prop :=
  ∃ g' t' m', K e t' m' ∧ Sim ng g' t' m' a' w' ∧ Step g m w g' m' w'
theorem PostE.from {K : Exit → List V → List Blk → Prop} {g g1 : Nat → Pl} {m m1 : List Blk} {w w1 : World} {e : Exit} {a' : Act} {w' : World} (h : Step g m w g1 m1 w1) (r : PostE ng K g1 m1 w1 e a' w') : PostE ng K g m w e a' w' := by
  obtain ⟨g', t', m', h1, h2, h3⟩ := r
  exact ⟨g', t', m', h1, h2, h.trans h3⟩

def SoundC (P : Program) (ng : Nat) (c : Code) : Prop := ∀ (t : List V) (m : List Blk) (K : Exit → List V → List Blk → Prop) (g : Nat → Pl) (a : Act) (w : World),
  ev P ng c t m K → Sim ng g t m a w → c.wp P (PostE ng K g m w) a w

theorem wkL_spec : ∀ {T t : List V} {xs : List Value} {n : Nat} {g : Nat → Pl}, wkL T t → Rvs n g t xs → Rvs n g T xs
  | [], t, xs, n, g, h, hr => by
    have h : t = [] := h
    subst h; exact hr
  | v :: T, [], xs, n, g, h, hr => h.elim
  | v :: T, u :: t, xs, n, g, h, hr => by
    obtain ⟨y, ys, rfl, h1, h2⟩ := hr
    cases v with
    | any => exact ⟨y, ys, rfl, trivial, wkL_spec (T := T) h h2⟩
    | _ =>
      obtain ⟨rfl, h⟩ := h
      exact ⟨y, ys, rfl, h1, wkL_spec (T := T) h h2⟩
theorem Step.forgetN {g g' : Nat → Pl} {m M x : List Blk} {w w' : World} (h : Step g m w g' (M ++ x) w') (hl : m.length ≤ M.length) : Step g m w g' M w' :=
  ⟨hl, fun i hi => by
      have := h.agree i hi
      have e : getB (M ++ x) i = getB M i := by
        rw [getB_eq, getB_eq, List.getD_eq_getElem?_getD, List.getD_eq_getElem?_getD, List.getElem?_append_left (by omega)]
      rwa [e] at this, h.os, h.tape, h.output, h.size, h.same, fun p hp ⟨i, b, hb, hw, he⟩ => h.foot p hp ⟨i, b, by rw [List.getElem?_append_left (List.getElem?_eq_some_iff.1 hb).1]; exact hb, hw, he⟩⟩
theorem Fg.sim {n : Nat} {g : Nat → Pl} {t T : List V} {m M : List Blk} {a : Act} {w : World} (F : Fg n t m T M) (hn : ng ≤ n) (S : Sim ng g t m a w) : Sim ng g T M a w := by
  obtain ⟨x, rfl⟩ := F.more
  refine ⟨S.defers, F.sc g _ (wkL_spec F.slots S.tmps), ⟨fun i b hb => ?_, fun i j b c hij hb hc hw hl hl' => ?_⟩, ⟨Nat.le_trans hn F.len, S.glob.2⟩⟩
  · have R := S.rep.blk i b (by rw [List.getElem?_append_left (List.getElem?_eq_some_iff.1 hb).1]; exact hb)
    refine ⟨R.size, fun j v hv => ?_, R.free, R.room, R.map, R.ver⟩
    obtain ⟨y, hy, hr⟩ := R.cell j v hv
    exact ⟨y, hy, F.scm g y i b j v hb hv hr⟩
  · exact S.rep.apart i j b c hij (by rw [List.getElem?_append_left (List.getElem?_eq_some_iff.1 hb).1]; exact hb) (by rw [List.getElem?_append_left (List.getElem?_eq_some_iff.1 hc).1]; exact hc) hw hl hl'
theorem sound_loop {c : Code} (ih : SoundC P ng c) : SoundC P ng (.loop c) := by
  intro t0 m0 K g0 a0 w0 h S0 b k cs
  have key := loopVC.out h (fun t m => ∀ g a w, Sim ng g t m a w → Step g0 m0 w0 g m w → ∃ e a' w', PostE ng K g0 m0 w0 e a' w' ∧ Arrives P (lone (b.at a (.code c :: .inLoop c :: k)) cs w) b k cs e a' w') (by
    intro t m hb g a w S hs0
    obtain ⟨e, a1, w1, ⟨g1, t1, m1, hk, S1, hs⟩, harr⟩ := ih t m _ g a w hb S b (.inLoop c :: k) cs
    have hs := hs0.trans hs
    cases e with
    | normal =>
      obtain ⟨e2, a2, w2, hp, harr2⟩ := hk g1 a1 w1 S1 hs
      exact ⟨e2, a2, w2, hp, .of_steps (Steps.trans harr (.one step_inLoop)) harr2⟩
    | exit id => exact ⟨_, a1, w1, ⟨g1, t1, m1, hk, S1, hs⟩, .pass (x := .inLoop c) rfl (fun _ _ => .inl (by simp)) harr⟩
    | goto l => exact ⟨_, a1, w1, ⟨g1, t1, m1, hk, S1, hs⟩, .pass (x := .inLoop c) rfl (fun _ _ => .inl (by simp)) harr⟩
    | ret => exact ⟨_, a1, w1, ⟨g1, t1, m1, hk, S1, hs⟩, .pass (x := .inLoop c) rfl (fun _ _ => .inl (by simp)) harr⟩
    | panic ch => exact ⟨_, a1, w1, ⟨g1, t1, m1, hk, S1, hs⟩, .pass (x := .inLoop c) rfl (fun _ _ => .inl (by simp)) harr⟩
    | outgrown => exact ⟨_, a1, w1, ⟨g1, t1, m1, hk, S1, hs⟩, .pass (x := .inLoop c) rfl (fun _ _ => .inl (by simp)) harr⟩) (by
    intro t m T M F hJ g a w S hs
    refine hJ g a w (F.sim S0.glob.1 S) ?_
    obtain ⟨x, rfl⟩ := F.more
    exact hs.forgetN F.len)
  obtain ⟨e, a', w', hp, harr⟩ := key g0 a0 w0 S0 (.refl _ _ _)
  exact ⟨e, a', w', hp, .of_steps (.one step_loop) harr⟩

theorem ev_sound : ∀ c : Code, SoundC P ng c
  | .skip => fun t m K g a w h S => wp_skip ⟨g, t, m, h, S, .refl _ _ _⟩
  | .region id ops false => fun t m K g a w h S => wp_region_list (evOps_sound _ t m _ g a w h S (fun a' w' ⟨g', t', m', h1, h2, h3⟩ => ⟨g', t', m', h1, h2, h3⟩))
  | .region id ops true => fun t m K g a w h S => by
    have h : br (lookD ops && mkLt (lenL t) ops.toList && P.follows .mixedOrders) (evA P ng ops.toList m ops.toList t m fun t m => K .normal t m)
          (br (lookF ops && mkLt (lenL t) ops.toList && P.follows .mixedOrders) (evF P ng m ops.toList [] t m fun t m => K .normal t m) (br (lookG ops (lenL t) && P.follows .mixedOrders) (evG P ng (masks ops.toList []) (effs2 0 ops.toList) ops.toList 0 [] [(0, m)] m t m fun t m => K .normal t m) False)) := h
    rw [br_iff] at h
    rcases h with ⟨h1, h2⟩ | ⟨_, h⟩
    · simp only [Bool.and_eq_true, lenL_eq] at h1
      exact drawn_sound h1.2 h1.1.1 h1.1.2 S h2 (fun a' w' ⟨g', t', m', k1, k2, k3⟩ => ⟨g', t', m', k1, k2, k3⟩)
    · rw [br_iff] at h
      rcases h with ⟨h1, h2⟩ | ⟨_, h⟩
      · simp only [Bool.and_eq_true, lenL_eq] at h1
        exact drawn_lax h1.2 h1.1.1 h1.1.2 S h2 (fun a' w' ⟨g', t', m', k1, k2, k3⟩ => ⟨g', t', m', k1, k2, k3⟩)
      · obtain ⟨h1, h2⟩ := br_F h
        simp only [Bool.and_eq_true, lenL_eq] at h1
        exact drawn_made h1.2 h1.1 S h2 (fun a' w' ⟨g', t', m', k1, k2, k3⟩ => ⟨g', t', m', k1, k2, k3⟩)
  | .seq x y => fun t m K g a w h S => by
    refine wp_seq (wp_mono (ev_sound x t m _ g a w h S) ?_)
    rintro e a1 w1 ⟨g1, t1, m1, hk, S1, hs⟩
    cases e with
    | normal => exact wp_mono (ev_sound y t1 m1 K g1 a1 w1 hk S1) (fun e a w r => r.from hs)
    | _ => exact ⟨g1, t1, m1, hk, S1, hs⟩
  | .cond c x y => fun t m K g a w h S => by
    simp only [ev] at h
    split at h
    · rename_i b hb
      have hr := eval_of S hb
      simp only [Rv] at hr
      rw [br_iff] at h
      rcases h with ⟨rfl, h⟩ | ⟨rfl, h⟩
      · exact wp_cond_true hr (ev_sound x t m K g a w h S)
      · exact wp_cond_false hr (ev_sound y t m K g a w h S)
    · exact h.elim
  | .block id c => fun t m K g a w h S => by
    refine wp_block (wp_mono (ev_sound c t m _ g a w h S) ?_)
    rintro e a1 w1 ⟨g1, t1, m1, hk, S1, hs⟩
    cases e with
    | exit id' =>
      simp only [Exit.inBlock]
      by_cases hid : id' = id
      · subst hid
        rw [if_pos rfl]
        have : Nat.beq id' id' = true := by simp
        simp only [this] at hk
        exact ⟨g1, t1, m1, hk, S1, hs⟩
      · rw [if_neg hid]
        have : Nat.beq id' id = false := by
          rw [Bool.eq_false_iff]; intro h; exact hid (Nat.eq_of_beq_eq_true h)
        simp only [this] at hk
        exact ⟨g1, t1, m1, hk, S1, hs⟩
    | _ => exact ⟨g1, t1, m1, hk, S1, hs⟩
  | .loop c => sound_loop (ev_sound c)
  | .rangeFunc f p x y => fun t m K g a w h S => h.elim
  | .exit id => fun t m K g a w h S => wp_exit ⟨g, t, m, h, S, .refl _ _ _⟩
  | .scope c => fun t m K g a w h S => h.elim
  | .label l => fun t m K g a w h S => wp_label ⟨g, t, m, h, S, .refl _ _ _⟩
  | .goto l => fun t m K g a w h S => h.elim
  | .ret => fun t m K g a w h S => wp_ret ⟨g, t, m, h, S, .refl _ _ _⟩
  | .refuse s => fun t m K g a w h S => h.elim

/-! ### What blocks a value names -/
mutual
def V.sc (n : Nat) : V → Bool
  | .ptr i _ => Nat.blt i n
  | .sl i _ _ => Nat.blt i n
  | .gp i _ _ => Nat.blt i n
  | .gs i _ _ _ => Nat.blt i n
  | .mp i => Nat.blt i n
  | .sk i _ _ _ => Nat.blt i n
  | .agg cs => scL n cs
  | .tup cs => scL n cs
  | .clo _ a b => scL n a && scL n b
  | _ => true
def scL (n : Nat) : List V → Bool
  | [] => true
  | v :: vs => v.sc n && scL n vs
end
def B.sc (n : Nat) : B → Bool
  | .cells cs => scL n cs
  | .gcells _ cs => scL n cs
  | _ => true
def scM (n : Nat) : List Blk → Bool
  | [] => true
  | b :: bs => b.b.sc n && scM n bs
def roM : List Blk → Bool
  | [] => true
  | b :: bs => !b.w && roM bs

mutual
theorem Rv_shrink {n k : Nat} {g : Nat → Pl} : ∀ (v : V) {x : Value}, v.sc k = true → Rv n g v x → Rv k g v x
  | .bool b, x, _, h => by simpa [Rv] using h
  | .int _ _, x, _, h => by simpa [Rv] using h
  | .fl o, x, _, h => by simpa [Rv] using h
  | .raw v, x, _, h => by simpa [Rv] using h
  | .any, x, _, h => trivial
  | .ptr i off, x, hs, h => by
    simp only [Rv] at *
    exact ⟨by simpa [V.sc] using hs, h.2⟩
  | .sl i off len, x, hs, h => by
    simp only [Rv] at *
    exact ⟨by simpa [V.sc] using hs, h.2⟩
  | .gp i v off, x, hs, h => by
    simp only [Rv] at *
    exact ⟨by simpa [V.sc] using hs, h.2⟩
  | .gs i v e len, x, hs, h => by
    simp only [Rv] at *
    exact ⟨by simpa [V.sc] using hs, h.2⟩
  | .mp i, x, hs, h => by
    simp only [Rv] at *
    exact ⟨by simpa [V.sc] using hs, h.2⟩
  | .sk i off len c, x, hs, h => by
    simp only [Rv] at *
    exact ⟨by simpa [V.sc] using hs, h.2⟩
  | .agg cs, x, hs, h => by
    simp only [Rv] at *
    obtain ⟨xs, h1, h2⟩ := h
    exact ⟨xs, h1, Rvs_shrink cs hs h2⟩
  | .tup cs, x, hs, h => by
    simp only [Rv] at *
    obtain ⟨xs, h1, h2⟩ := h
    exact ⟨xs, h1, Rvs_shrink cs hs h2⟩
  | .clo fn a b, x, hs, h => by
    simp only [Rv, V.sc, Bool.and_eq_true] at *
    obtain ⟨xs, ys, h1, h2, h3⟩ := h
    exact ⟨xs, ys, h1, Rvs_shrink a hs.1 h2, Rvs_shrink b hs.2 h3⟩
theorem Rvs_shrink {n k : Nat} {g : Nat → Pl} : ∀ (vs : List V) {xs : List Value}, scL k vs = true → Rvs n g vs xs → Rvs k g vs xs
  | [], xs, _, h => by simpa [Rvs] using h
  | v :: vs, xs, hs, h => by
    simp only [Rvs, scL, Bool.and_eq_true] at *
    obtain ⟨y, ys, h1, h2, h3⟩ := h
    exact ⟨y, ys, h1, Rv_shrink v hs.1 h2, Rvs_shrink vs hs.2 h3⟩
end
mutual
theorem Rv_sc {n : Nat} {g : Nat → Pl} : ∀ (v : V) {x : Value}, Rv n g v x → v.sc n = true
  | .bool b, x, h => rfl
  | .int _ _, x, h => rfl
  | .fl o, x, h => rfl
  | .raw v, x, h => rfl
  | .any, x, h => rfl
  | .ptr i off, x, h => by simp only [Rv] at h; simpa [V.sc] using h.1
  | .sl i off len, x, h => by simp only [Rv] at h; simpa [V.sc] using h.1
  | .gp i v off, x, h => by simp only [Rv] at h; simpa [V.sc] using h.1
  | .gs i v e len, x, h => by simp only [Rv] at h; simpa [V.sc] using h.1
  | .mp i, x, h => by simp only [Rv] at h; simpa [V.sc] using h.1
  | .sk i off len c, x, h => by simp only [Rv] at h; simpa [V.sc] using h.1
  | .agg cs, x, h => by
    simp only [Rv] at h
    obtain ⟨xs, h1, h2⟩ := h
    exact Rvs_sc cs h2
  | .tup cs, x, h => by
    simp only [Rv] at h
    obtain ⟨xs, h1, h2⟩ := h
    exact Rvs_sc cs h2
  | .clo fn a b, x, h => by
    simp only [Rv] at h
    obtain ⟨xs, ys, h1, h2, h3⟩ := h
    simp [V.sc, Rvs_sc a h2, Rvs_sc b h3]
theorem Rvs_sc {n : Nat} {g : Nat → Pl} : ∀ (vs : List V) {xs : List Value}, Rvs n g vs xs → scL n vs = true
  | [], xs, h => rfl
  | v :: vs, xs, h => by
    simp only [Rvs] at h
    obtain ⟨y, ys, h1, h2, h3⟩ := h
    simp [scL, Rv_sc v h2, Rvs_sc vs h3]
end
theorem scL_get {n : Nat} : ∀ {l : List V} {j : Nat} {v : V}, scL n l = true → l[j]? = some v → v.sc n = true
  | [], j, v, _, h => by simp at h
  | u :: l, 0, v, hs, h => by simp at h; subst h; simp [scL] at hs; exact hs.1
  | u :: l, j + 1, v, hs, h => by simp [scL] at hs; exact scL_get hs.2 (by simpa using h)
theorem B.sc_get {n : Nat} {b : B} {j : Nat} {v : V} (hs : b.sc n = true) (h : b.get j = some v) : v.sc n = true := by
  cases b with
  | dead => simp [B.get] at h
  | cells cs => exact scL_get hs h
  | ints k l => simp only [B.get, Option.map_eq_some_iff] at h; obtain ⟨_, _, rfl⟩ := h; rfl
  | flts l => simp only [B.get, Option.map_eq_some_iff] at h; obtain ⟨_, _, rfl⟩ := h; rfl
  | bools l => simp only [B.get, Option.map_eq_some_iff] at h; obtain ⟨_, _, rfl⟩ := h; rfl
  | gcells v cs => exact scL_get hs h
  | gints v k l => simp only [B.get, Option.map_eq_some_iff] at h; obtain ⟨_, _, rfl⟩ := h; rfl
  | gflts v l => simp only [B.get, Option.map_eq_some_iff] at h; obtain ⟨_, _, rfl⟩ := h; rfl
  | mpI f => simp [B.get] at h
theorem scM_get {n : Nat} : ∀ {m : List Blk} {i : Nat} {b : Blk}, scM n m = true → m[i]? = some b → b.b.sc n = true
  | [], i, b, _, h => by simp at h
  | c :: m, 0, b, hs, h => by simp at h; subst h; simp [scM] at hs; exact hs.1
  | c :: m, i + 1, b, hs, h => by simp [scM] at hs; exact scM_get hs.2 (by simpa using h)
theorem roM_get : ∀ {m : List Blk} {i : Nat} {b : Blk}, roM m = true → m[i]? = some b → b.w = false
  | [], i, b, h, h' => by simp at h'
  | c :: m, 0, b, hs, h => by simp at h; subst h; simp [roM] at hs; exact hs.1
  | c :: m, i + 1, b, hs, h => by simp [roM] at hs; exact roM_get hs.2 (by simpa using h)

/-- Blocks beyond are forgotten. -/
theorem Rep.forget {g : Nat → Pl} {m x : List Blk} {w : World} (h : Rep g (m ++ x) w) (hs : ∀ (i : Nat) b, m[i]? = some b → ∀ (j : Nat) v, b.b.get j = some v → v.sc m.length = true) : Rep g m w := by
  have hget : ∀ (i : Nat) (b : Blk), m[i]? = some b → (m ++ x)[i]? = some b := fun i b hb => by
    rw [List.getElem?_append_left (List.getElem?_eq_some_iff.1 hb).1]; exact hb
  refine ⟨fun i b hb => ?_, fun i j b c hij hb hc hw hl hl' => h.apart i j b c hij (hget i b hb) (hget j c hc) hw hl hl'⟩
  have R := h.blk i b (hget i b hb)
  refine ⟨R.size, fun j v hv => ?_, R.free, R.room, R.map, R.ver⟩
  obtain ⟨y, hy, hr⟩ := R.cell j v hv
  exact ⟨y, hy, Rv_shrink v (hs i b hb j v hv) hr⟩
theorem Step.forget {g g' : Nat → Pl} {m m' x : List Blk} {w w' : World} (h : Step g m w g' (m' ++ x) w') (hl : m.length ≤ m'.length) : Step g m w g' m' w' :=
  ⟨hl, fun i hi => by
      have := h.agree i hi
      have e : getB (m' ++ x) i = getB m' i := by
        rw [getB_eq, getB_eq, List.getD_eq_getElem?_getD, List.getD_eq_getElem?_getD, List.getElem?_append_left (by omega)]
      rwa [e] at this, h.os, h.tape, h.output, h.size, h.same, fun p hp ⟨i, b, hb, hw, he⟩ => h.foot p hp ⟨i, b, by rw [List.getElem?_append_left (List.getElem?_eq_some_iff.1 hb).1]; exact hb, hw, he⟩⟩

/-! ### A whole function -/
theorem asAddr_some (A : Addr) : asAddr (.pointer (some A)) = pure A := rfl
theorem resV_sound {g : Nat → Pl} {t : List V} {m : List Blk} {a : Act} {w : World} (S : Sim ng g t m a w) : ∀ (rs : List ResultVar) {K : List V → Prop}, resV P t m rs K →
    ∃ vs xs, (rs.mapM (fun (r : ResultVar) => (match r with
      | .tmp t => pure (a.tmps.getD t undef)
      | .cell p t => do loadVar t (← asAddr (a.tmps.getD p undef)) : Sem Value))).run P w = .ok xs w ∧ Rvs m.length g vs xs ∧ K vs
  | [], K, h => ⟨[], [], by simp, by simp [Rvs], h⟩
  | .tmp i :: rs, K, h => by
    have h : fV (getT t i) (fun v => resV P t m rs fun vs => K (v :: vs)) := h
    rw [fV_eq] at h
    obtain ⟨vs, xs, h1, h2, h3⟩ := resV_sound S rs h
    refine ⟨_, a.tmps.getD i undef :: xs, ?_, ?_, h3⟩
    · simp only [List.mapM_cons, Sem.run_bind, Sem.run_pure, Result.andThen_ok, h1]
    · simp only [Rvs]
      refine ⟨_, _, rfl, ?_, h2⟩
      rw [getT_eq]
      simpa using Rvs_getD S.tmps i
  | .cell p ty :: rs, K, h => by
    have h : loadV P ty (getT t p) m (fun v => resV P t m rs fun vs => K (v :: vs)) := h
    have hp : Rv m.length g (getT t p) (a.tmps.getD p undef) := by
      rw [getT_eq]; simpa using Rvs_getD S.tmps p
    have haddr : ∃ A, a.tmps.getD p undef = .pointer (some A) := by
      cases hv : getT t p <;> rw [hv] at h hp <;> try exact h.elim
      · simp only [Rv] at hp
        exact ⟨_, hp.2.2⟩
      · simp only [Rv] at hp
        obtain ⟨_, _, A, hA, _⟩ := hp
        exact ⟨A, hA⟩
    obtain ⟨A, hA⟩ := haddr
    obtain ⟨v, y, h1, h2, h3⟩ := loadV_sound S hp h
    obtain ⟨vs, xs, k1, k2, k3⟩ := resV_sound S rs h3
    refine ⟨v :: vs, y :: xs, ?_, ?_, k3⟩
    · rw [hA] at h1
      simp only [Instr.loadAt, Instr.sureAddr, Sem.run_bind, Sem.run_pure, Result.andThen_ok] at h1
      simp only [List.mapM_cons, Sem.run_bind, hA, asAddr_some, Sem.run_pure, Result.andThen_ok, h1, k1]
    · simp only [Rvs]
      exact ⟨_, _, rfl, h2, k2⟩

theorem tup_sound {n : Nat} {g : Nat → Pl} {vs : List V} {xs : List Value} (h : Rvs n g vs xs) : Rv n g (tupV vs) (if h : xs.toArray.size = 1 then xs.toArray[0] else .tuple xs.toArray) := by
  have hl := Rvs_length h
  match vs, h with
  | [], h => simp only [Rvs] at h; subst h; simp [tupV, Rv, Rvs]
  | [v], h =>
    simp only [Rvs] at h
    obtain ⟨y, ys, rfl, h1, rfl⟩ := h
    simpa [tupV] using h1
  | v :: u :: vs, h =>
    rw [dif_neg (by simp at hl ⊢; omega)]
    simp only [tupV, Rv]
    exact ⟨_, rfl, by simpa using h⟩

theorem tupK_eq (vs : List V) (K : V → Prop) : tupK vs K = K (tupV vs) := by
  match vs with
  | [] => rfl
  | [v] => simp [tupK, tupV, fV_eq]
  | _ :: _ :: _ => rfl
theorem Ok_of_ev {f : FuncId} {fn : Func} {c : Code} {args : List V} {m m' : List Blk} {r : V} (hf : P.funcs[f]? = some fn) (hb : fn.body = some c)
    (hl : m.length ≤ m'.length) (hr : r.sc m'.length = true) (hs : m' = m ∨ scM m'.length m' = true) (h : tmps0 args fn.ntmps fun t => ev P ng c t m (fin P fn r m')) : Ok P ng f args m r m' := by
  intro g w xs hg hrep hargs
  rw [tmps0_eq] at h
  have hlen := Rvs_length hargs
  have S : Sim ng g (args ++ List.replicate (fn.ntmps - args.length) V.un) m { tmps := xs.toArray ++ Array.replicate (fn.ntmps - xs.toArray.size) undef, defers := [] } w := by
    refine ⟨rfl, ?_, hrep, hg⟩
    have := Rvs_append hargs (Rvs_replicate_un (n := m.length) (g := g) (fn.ntmps - args.length))
    simpa [hlen] using this
  refine calls_of_wp hf hb (wp_mono (ev_sound c _ m _ g _ w h S) ?_)
  have fin : ∀ (t' : List V) (m1 : List Blk) (g' : Nat → Pl) (a' : Act) (w' : World), (resV P t' m1 fn.results.toList fun vs => tupK vs fun v => v = r ∧ ∃ x, m1 = m' ++ x) → Sim ng g' t' m1 a' w' → Step g m w g' m1 w' →
      a'.defers = [] ∧ ∃ v, (results fn a'.tmps).run P w' = .ok v w' ∧ ∃ g' x, Ending.returned v = .returned x ∧ Rv m'.length g' r x ∧ Rep g' m' w' ∧ Step g m w g' m' w' := by
    intro t' m1 g' a' w' hres S' hst
    obtain ⟨vs, ys, h1, h2, h3⟩ := resV_sound S' _ hres
    rw [tupK_eq] at h3
    obtain ⟨h3, x, h4⟩ := h3
    subst h4
    refine ⟨S'.defers, (if h : ys.toArray.size = 1 then ys.toArray[0] else .tuple ys.toArray), ?_, g', _, rfl, ?_, S'.rep.forget ?_, hst.forget hl⟩
    · simp only [results, Sem.run_bind, Array.mapM_eq_mapM_toList, Sem.run_map, Sem.run_pure]
      erw [h1]
      rfl
    · subst h3
      exact Rv_shrink _ hr (tup_sound h2)
    · rcases hs with rfl | hs
      · intro i b hb j v hv
        obtain ⟨y, _, hy⟩ := (hrep.blk i b hb).cell j v hv
        exact Rv_sc v hy
      · intro i b hb j v hv
        exact B.sc_get (scM_get hs hb) hv
  rintro e a' w' ⟨g', t', m1, hk, S', hst⟩
  cases e with
  | normal => exact fin t' m1 g' a' w' hk S' hst
  | ret => exact fin t' m1 g' a' w' hk S' hst
  | exit id => exact hk.elim
  | goto l => exact hk.elim
  | panic ch => exact hk.elim
  | outgrown => exact hk.elim

/-- A Go function of the program's own, with a body. -/
def plainFn (fn : Func) : Bool := fn.name != "runtime.NumGoroutine" && fn.body.isSome
theorem COk_of {f : FuncId} {fn : Func} {args : List V} {m m' : List Blk} {r : V} (hf : P.funcs[f]? = some fn) (hp : plainFn fn = true) (h : Ok P ng f args m r m') : COk P ng f args m r m' := by
  intro g w xs hg hrep hargs
  simp only [plainFn, Bool.and_eq_true, bne_iff_ne, ne_eq, Option.isSome_iff_exists] at hp
  obtain ⟨h1, c, h2⟩ := hp
  have : (callFunc f xs.toArray).run P w = .ok (.enter f xs.toArray) w := by
    simp [callFunc, hf, h1, h2]
  rw [this]
  exact h g w xs hg hrep hargs
def bodyOf (f : Func) : Code :=
  match f.body with
  | some c => c
  | none => .skip
theorem COk_of_ev {f : FuncId} (fn : Func) {args : List V} {m m' : List Blk} {r : V} (hf : P.funcs[f]? = some fn) (hp : plainFn fn = true)
    (hl : m.length ≤ m'.length) (hr : r.sc m'.length = true) (hs : m' = m ∨ scM m'.length m' = true) (h : tmps0 args fn.ntmps fun t => ev P ng (bodyOf fn) t m (fin P fn r m')) : COk P ng f args m r m' := by
  refine COk_of hf hp (Ok_of_ev hf ?_ hl hr hs h)
  simp only [plainFn, Bool.and_eq_true, Option.isSome_iff_exists] at hp
  obtain ⟨_, c, hc⟩ := hp
  simp only [bodyOf, hc]
/-- A function that leaves memory as it was. -/
theorem COk_quiet {f : FuncId} (fn : Func) {args : List V} {m : List Blk} {r : V} (hf : P.funcs[f]? = some fn) (hp : plainFn fn = true)
    (hr : r.sc m.length = true) (h : tmps0 args fn.ntmps fun t => ev P ng (bodyOf fn) t m (fin P fn r m)) : COk P ng f args m r m :=
  COk_of_ev fn hf hp (Nat.le_refl _) hr (.inl rfl) h
end
end Go.Eng
/- The engine, part 21: loops by rounds and by invariants; a callee's contract in more memory; floats by their bits. No condition. -/
namespace Go.Eng
open Go
set_option linter.unusedSimpArgs false
set_option linter.unusedVariables false
section
variable {P : Program} {ng : Nat}

theorem br_mono {c : Bool} {A A' B B' : Prop} (h : A → A') (h' : B → B') (hh : br c A B) : br c A' B' := by
  cases c
  · exact h' hh
  · exact h hh
theorem putK_mono {d : Option Tmp} {t : List V} {v : V} {K K' : List V → Prop} (h : ∀ t, K t → K' t) (hh : putK d t v K) : putK d t v K' := by
  rw [putK_eq] at *; exact h _ hh
theorem evOps_mono {ops : List Oper} : ∀ {l : List Oper} {t : List V} {m : List Blk} {K K' : List V → List Blk → Prop}, (∀ t m, K t m → K' t m) → evOps P ng ops l t m K → evOps P ng ops l t m K'
  | [], t, m, K, K', h, hh => h _ _ hh
  | o :: os, t, m, K, K', h, hh => by
    simp only [evOps] at hh ⊢
    split
    · rename_i hg
      simp only [hg] at hh
      exact evOp_mono (fun v m' => putK_mono fun t' => evOps_mono h) hh
    · rename_i j want hg
      simp only [hg] at hh
      split
      · rename_i d hd
        simp only [hd] at hh
        split
        · rename_i c hc
          simp only [hc] at hh
          refine br_mono ?_ ?_ hh <;> rw [setT_eq, setT_eq]
          · cases want with
            | true => exact evOp_mono fun v m' => putK_mono fun t' => evOps_mono h
            | false => exact putK_mono fun t' => evOps_mono h
          · cases want with
            | true => exact putK_mono fun t' => evOps_mono h
            | false => exact evOp_mono fun v m' => putK_mono fun t' => evOps_mono h
        · rename_i xs hc
          simp only [hc] at hh
          exact putK_mono (fun t' => evOps_mono h) hh
        · rename_i h1 h2
          split at hh
          · rename_i c hc; exact absurd hc (h1 c)
          · rename_i xs hc; exact absurd hc (h2 xs)
          · exact hh
      · rename_i hd
        simp only [hd] at hh
theorem evQ_mono {op : Op} {t : List V} {m : List Blk} {K K' : V → Prop} (h : ∀ v, K v → K' v) (hh : evQ P ng op t m K) : evQ P ng op t m K' := by
  unfold evQ at *
  cases op <;> try exact hh
  case load ty a => exact (lin_loadV P ty _ m).mono _ _ h hh
  case call c =>
    obtain ⟨callee, args, ats⟩ := c
    cases callee <;> try exact hh
    rename_i f
    simp only at hh ⊢
    cases hf : evO ng t f <;> rw [hf] at hh <;> try exact hh
    rename_i fn a b
    cases fn <;> try exact hh
    simp only [evArgs_eq] at hh ⊢
    obtain ⟨r, h1, h2⟩ := hh
    rw [fV_eq] at h2
    exact ⟨r, h1, by rw [fV_eq]; exact h _ h2⟩
theorem evOne_mono {k : Kd} {op : Op} {t : List V} {m0 m : List Blk} {K K' : V → List Blk → Prop} (h : ∀ v m, K v m → K' v m) (hh : evOne P ng k op t m0 m K) : evOne P ng k op t m0 m K' := by
  cases k with
  | pure => exact evOp_mono (fun v _ => h v m) hh
  | quiet => exact evQ_mono (fun v => h v m) hh
  | mk => exact evOp_mono h hh
  | eff => exact hh
theorem evA_mono {ops : List Oper} {m0 : List Blk} : ∀ {l : List Oper} {t : List V} {m : List Blk} {K K' : List V → List Blk → Prop}, (∀ t m, K t m → K' t m) → evA P ng ops m0 l t m K → evA P ng ops m0 l t m K'
  | [], t, m, K, K', h, hh => h _ _ hh
  | o :: os, t, m, K, K', h, hh => by
    simp only [evA] at hh ⊢
    split
    · rename_i hk
      simp only [hk] at hh
      exact evOps_mono h hh
    · rename_i k hk
      split at hh
      · rename_i he; exact absurd he hk
      · split
        · rename_i hg
          simp only [hg] at hh
          exact evOne_mono (fun v m' => putK_mono fun t' => evA_mono h) hh
        · rename_i j want hg
          simp only [hg] at hh
          split
          · rename_i d hd
            simp only [hd] at hh
            split
            · rename_i c hc
              simp only [hc] at hh
              refine br_mono ?_ ?_ hh <;> rw [setT_eq, setT_eq]
              · cases want with
                | true => exact evOne_mono fun v m' => putK_mono fun t' => evA_mono h
                | false => exact putK_mono fun t' => evA_mono h
              · cases want with
                | true => exact putK_mono fun t' => evA_mono h
                | false => exact evOne_mono fun v m' => putK_mono fun t' => evA_mono h
            · rename_i xs hc
              simp only [hc] at hh
              exact putK_mono (fun t' => evA_mono h) hh
            · rename_i h1 h2
              split at hh
              · rename_i c hc; exact absurd hc (h1 c)
              · rename_i xs hc; exact absurd hc (h2 xs)
              · exact hh
          · rename_i hd
            simp only [hd] at hh
theorem chk_mono {m : List Blk} {K K' : Prop} (h : K → K') : ∀ {F : List (TypeId × V × V)}, chk P F m K → chk P F m K'
  | [], hh => h hh
  | e :: F, hh => (lin_loadV P e.1 e.2.1 m).mono (fun u => u = e.2.2 ∧ chk P F m K) (fun u => u = e.2.2 ∧ chk P F m K') (fun u hu => ⟨hu.1, chk_mono h hu.2⟩) hh
theorem evB_mono {F : List (TypeId × V × V)} : ∀ {l : List Oper} {t : List V} {m : List Blk} {K K' : List V → List Blk → Prop}, (∀ t m, K t m → K' t m) → evB P ng F l t m K → evB P ng F l t m K'
  | [], t, m, K, K', h, hh => h _ _ hh
  | o :: os, t, m, K, K', h, hh => evOp_mono (K' := fun v m' => chk P F m' (putK o.dst t v fun t' => evB P ng F os t' m' K')) (fun v m' => chk_mono (putK_mono fun t' => evB_mono h)) hh
theorem evF_mono {m0 : List Blk} : ∀ {l : List Oper} {F : List (TypeId × V × V)} {t : List V} {m : List Blk} {K K' : List V → List Blk → Prop}, (∀ t m, K t m → K' t m) → evF P ng m0 l F t m K → evF P ng m0 l F t m K'
  | [], F, t, m, K, K', h, hh => h _ _ hh
  | o :: os, F, t, m, K, K', h, hh => by
    have e : ∀ K, evF P ng m0 (o :: os) F t m K = (match kd o.op with
      | .eff => evB P ng F (o :: os) t m K
      | k => evOne P ng k o.op t m0 m fun v m' => putK o.dst t v fun t' => match o.op with
        | .load ty a => fV (evO ng t a) fun av => fV v fun v => evF P ng m0 os ((ty, av, v) :: F) t' m' K
        | _ => evF P ng m0 os F t' m' K) := fun _ => rfl
    rw [e] at hh ⊢
    have key : ∀ k, (evOne P ng k o.op t m0 m fun v m' => putK o.dst t v fun t' => match o.op with
        | .load ty a => fV (evO ng t a) fun av => fV v fun v => evF P ng m0 os ((ty, av, v) :: F) t' m' K
        | _ => evF P ng m0 os F t' m' K) → (evOne P ng k o.op t m0 m fun v m' => putK o.dst t v fun t' => match o.op with
        | .load ty a => fV (evO ng t a) fun av => fV v fun v => evF P ng m0 os ((ty, av, v) :: F) t' m' K'
        | _ => evF P ng m0 os F t' m' K') := by
      intro k hh
      refine evOne_mono (fun v m' => putK_mono fun t' => ?_) hh
      cases o.op
      case load ty a =>
        simp only [fV_eq]
        exact evF_mono h
      all_goals exact evF_mono h
    cases hk : kd o.op <;> rw [hk] at hh
    case eff => exact evB_mono h hh
    all_goals exact key _ hh
theorem And_of {a b : Prop} (h : a) (k : b) : a ∧ b := ⟨h, k⟩
theorem okS_no {ms es : List Nat} {i k : Nat} {A B : Prop} (h : okS ms i k es = false) (b : B) : br (okS ms i k es) A B := by rw [h]; exact b
theorem okS_yes {ms es : List Nat} {i k : Nat} {A B : Prop} (h : okS ms i k es = true) (a : A) : br (okS ms i k es) A B := by rw [h]; exact a
theorem askS_mono {ms es : List Nat} {i : Nat} {op : Op} {t : List V} {v : V} {K K' : Prop} (h : K → K') : ∀ {l : List (Nat × List Blk)}, askS P ng ms es i op t v l K → askS P ng ms es i op t v l K'
  | [], hh => h hh
  | s :: l, hh => by
    have hh : br (okS ms i s.1 es) (evQ P ng op t s.2 (fun u => u = v) ∧ askS P ng ms es i op t v l K) (askS P ng ms es i op t v l K) := hh
    show br (okS ms i s.1 es) (evQ P ng op t s.2 (fun u => u = v) ∧ askS P ng ms es i op t v l K') (askS P ng ms es i op t v l K')
    cases hk : okS ms i s.1 es with
    | true => rw [hk] at hh; exact ⟨hh.1, askS_mono h hh.2⟩
    | false => rw [hk] at hh; exact askS_mono h hh
theorem askF_mono {ms es : List Nat} {k : Nat} {m : List Blk} {K K' : Prop} (h : K → K') : ∀ {l : List Rec2}, askF P ng ms es k m l K → askF P ng ms es k m l K'
  | [], hh => h hh
  | s :: l, hh => by
    have hh : br (okS ms s.i k es) (evQ P ng s.op s.t m (fun u => u = s.v) ∧ askF P ng ms es k m l K) (askF P ng ms es k m l K) := hh
    show br (okS ms s.i k es) (evQ P ng s.op s.t m (fun u => u = s.v) ∧ askF P ng ms es k m l K') (askF P ng ms es k m l K')
    cases hk : okS ms s.i k es with
    | true => rw [hk] at hh; exact ⟨hh.1, askF_mono h hh.2⟩
    | false => rw [hk] at hh; exact askF_mono h hh
theorem evG_mono {ms es : List Nat} : ∀ {l : List Oper} {j : Nat} {F : List Rec2} {Ss : List (Nat × List Blk)} {mc : List Blk} {t : List V} {m : List Blk} {K K' : List V → List Blk → Prop}, (∀ t m, K t m → K' t m) → evG P ng ms es l j F Ss mc t m K → evG P ng ms es l j F Ss mc t m K'
  | [], _, _, _, _, _, _, _, _, h, hh => h _ _ hh
  | o :: os, j, F, Ss, mc, t, m, K, K', h, hh => by
    rw [evG_cons] at hh ⊢
    cases hk : kd2 o.op with
    | pure => simp only [hk] at hh ⊢; exact evOp_mono (fun v m' => putK_mono fun t' => evG_mono h) hh
    | quiet => simp only [hk] at hh ⊢; exact evQ_mono (fun v => askS_mono (putK_mono fun t' => evG_mono h)) hh
    | mk =>
      simp only [hk] at hh ⊢
      cases hcc : isC o.op with
      | false => simp only [hcc] at hh ⊢; exact evOp_mono (fun v m' => putK_mono fun t' => evG_mono h) hh
      | true =>
        simp only [hcc] at hh ⊢
        refine callN_mono (fun sh b hh => ?_) hh
        rw [addB_eq, fV_eq] at hh ⊢
        exact putK_mono (fun t' => evG_mono h) hh
    | eff => simp only [hk] at hh ⊢; exact evOp_mono (fun v m' => askF_mono (putK_mono fun t' => evG_mono h)) hh
    | bad => simp only [hk] at hh
theorem ev_mono : ∀ (c : Code) {t : List V} {m : List Blk} {K K' : Exit → List V → List Blk → Prop}, (∀ e t m, K e t m → K' e t m) → ev P ng c t m K → ev P ng c t m K'
  | .skip, _, _, _, _, h, hh => h _ _ _ hh
  | .region id ops false, _, _, _, _, h, hh => evOps_mono (fun t m => h _ t m) hh
  | .region id ops true, _, _, _, _, h, hh => br_mono (evA_mono fun t m => h _ t m) (br_mono (evF_mono fun t m => h _ t m) (br_mono (evG_mono fun t m => h _ t m) (fun h => h))) hh
  | .seq x y, _, _, _, _, h, hh => ev_mono x (fun e t m hk => by
    cases e with
    | normal => exact ev_mono y h hk
    | _ => exact h _ _ _ hk) hh
  | .cond c x y, t, _, _, _, h, hh => by
    simp only [ev] at hh ⊢
    cases hc : evO ng t c <;> rw [hc] at hh <;> try exact hh
    exact br_mono (ev_mono x h) (ev_mono y h) hh
  | .block id c, _, _, _, _, h, hh => ev_mono c (fun e t m hk => by
    cases e with
    | exit id' =>
      simp only at hk ⊢
      cases hb : Nat.beq id' id <;> simp only [hb] at hk ⊢ <;> exact h _ _ _ hk
    | _ => exact h _ _ _ hk) hh
  | .loop c, _, _, _, _, h, hh => ⟨fun J hJ hF => loopVC.out hh J (fun t m hb => hJ t m (ev_mono c (fun e t m hk => by
    cases e with
    | normal => exact hk
    | _ => exact h _ _ _ hk) hb)) hF⟩
  | .rangeFunc .., _, _, _, _, _, hh => hh
  | .exit id, _, _, _, _, h, hh => h _ _ _ hh
  | .scope c, _, _, _, _, _, hh => hh
  | .label l, _, _, _, _, h, hh => h _ _ _ hh
  | .goto l, _, _, _, _, _, hh => hh
  | .ret, _, _, _, _, h, hh => h _ _ _ hh
  | .refuse s, _, _, _, _, _, hh => hh

/-- One round of a loop, then the loop again. -/
theorem loop_round {n : Nat} {c : Code} {t : List V} {m : List Blk} {K : Exit → List V → List Blk → Prop}
    (h : ev P ng c t m fun e t' m' => match e with | .normal => loopVC n c (ev P ng c) t' m' K | e => K e t' m') : loopVC n c (ev P ng c) t m K :=
  ⟨fun J hJ hF => hJ t m (ev_mono c (fun e t m hk => by
    cases e with
    | normal => exact loopVC.out hk J hJ hF
    | _ => exact hk) h)⟩
/-- What is no longer needed may be forgotten. -/
theorem loop_forget {n : Nat} {c : Code} {t T : List V} {m M : List Blk} {K : Exit → List V → List Blk → Prop} (F : Fg n t m T M) (h : loopVC n c (ev P ng c) T M K) : loopVC n c (ev P ng c) t m K :=
  ⟨fun J hJ hF => hF t m T M F (h.out J hJ hF)⟩
/-- A loop over a count of states, at whose heads one forgets. -/
theorem loop_to {n : Nat} {c : Code} {t : List V} {m : List Blk} {K : Exit → List V → List Blk → Prop} (T : Nat → List V) (M : Nat → List Blk) (a b : Nat) (hab : a ≤ b) (h0 : Fg n t m (T a) (M a))
    (round : ∀ k, a ≤ k → k < b → ev P ng c (T k) (M k) fun e t1 m1 => match e with | .normal => Fg n t1 m1 (T (k + 1)) (M (k + 1)) | e => K e t1 m1)
    (last : ev P ng c (T b) (M b) fun e t1 m1 => match e with | .normal => False | e => K e t1 m1) : loopVC n c (ev P ng c) t m K := by
  refine loop_forget h0 ?_
  have key : ∀ d k, k + d = b → a ≤ k → loopVC n c (ev P ng c) (T k) (M k) K := by
    intro d
    induction d with
    | zero =>
      intro k hk _
      obtain rfl : k = b := by omega
      refine loop_round (ev_mono c (fun e t' m' hk => ?_) last)
      cases e with
      | normal => exact hk.elim
      | _ => exact hk
    | succ d ih =>
      intro k hk hak
      refine loop_round (ev_mono c (fun e t' m' h => ?_) (round k hak (by omega)))
      cases e with
      | normal => exact loop_forget h (ih (k + 1) (by omega) (by omega))
      | _ => exact h
  exact key (b - a) a (by omega) (Nat.le_refl _)
/-- What may be forgotten, by sight. -/
theorem Fg.of {n : Nat} {t T : List V} {m M : List Blk} (x : List Blk) (h1 : wkL T t) (h2 : m = M ++ x) (h3 : Nat.ble n M.length = true) (h4 : scL M.length T = true) (h5 : scM M.length M = true) : Fg n t m T M :=
  ⟨h1, ⟨x, h2⟩, by simpa using h3, fun _ _ => Rvs_shrink T h4, fun _ _ _ _ _ v hb hv => Rv_shrink v (B.sc_get (scM_get h5 hb) hv)⟩
/-- Nothing is forgotten of memory. -/
theorem Fg.all {n : Nat} {t T : List V} {m : List Blk} (h1 : wkL T t) (h3 : n ≤ m.length) : Fg n t m T m :=
  ⟨h1, ⟨[], by simp⟩, h3, fun _ _ h => h, fun _ _ _ _ _ _ _ _ h => h⟩
theorem Fg.refl {t : List V} {m : List Blk} {n : Nat} (h : n ≤ m.length) : Fg n t m t m := by
  refine Fg.all ?_ h
  induction t with
  | nil => rfl
  | cons v t ih => cases v <;> first | exact ih | exact ⟨rfl, ih⟩
/-! ### More memory than the callee sees -/
theorem rep_more {g g' : Nat → Pl} {m x : List Blk} {w w' : World} (R : Rep g (m ++ x) w) (hro : roM m = true) (hs : Step g m w g' m w') : Rep g (m ++ x) w' ∧ Step g (m ++ x) w g (m ++ x) w' := by
  have hnf : ∀ p, ¬ Foot g m p := fun p ⟨i, b, hb, hw, _⟩ => by rw [roM_get hro hb] at hw; cases hw
  have hh : ∀ p, p < w.heap.size → w'.heap[p]? = w.heap[p]? := fun p hp => hs.same p hp (hnf p)
  exact ⟨⟨fun i b hb => (R.blk i b hb).congr (hh _ (R.blk i b hb).size) (Nat.le_refl _) fun _ _ => .inl rfl, R.apart⟩, ⟨Nat.le_refl _, agree_of fun _ _ => ⟨rfl, rfl⟩, hs.os, hs.tape, hs.output, hs.size, fun p hp _ => hh p hp, fun _ _ h => h⟩⟩
/-- A contract over read-only memory holds where there is more. -/
theorem COk.more {f : FuncId} {args : List V} {m : List Blk} {r : V} (h : COk P ng f args m r m) (hng : Nat.ble ng m.length = true) (hro : roM m = true) (hsc : scM m.length m = true) (ha : scL m.length args = true) (x : List Blk) :
    COk P ng f args (m ++ x) r (m ++ x) := by
  intro g w xs hg hrep hargs
  have R0 : Rep g m w := hrep.forget fun i b hb j v hv => B.sc_get (scM_get hsc hb) hv
  have hng' : ng ≤ m.length := by simpa using hng
  have := h g w xs ⟨hng', hg.2⟩ R0 (Rvs_shrink _ ha hargs)
  have fin : ∀ (g' : Nat → Pl) (y : Value) (w' : World), Rv m.length g' r y → Rep g' m w' → Step g m w g' m w' → ∃ g', Rv (m ++ x).length g' r y ∧ Rep g' (m ++ x) w' ∧ Step g (m ++ x) w g' (m ++ x) w' := by
    intro g' y w' h1 h2 h3
    obtain ⟨k1, k2⟩ := rep_more hrep hro h3
    refine ⟨g, ?_, k1, k2⟩
    exact Rv_mono (by simp) (fun i hi => (h3.eq i hi).symm) _ h1
  revert this
  cases (callFunc f xs.toArray).run P w with
  | halt x w' => exact fun h => h.elim
  | ok nx w' =>
    cases nx <;> intro this <;> first
      | exact this.elim
      | skip
    case value y =>
      obtain ⟨g', h1, h2, h3⟩ := this
      exact fin g' y w' h1 h2 h3
    case enter f2 ys2 =>
      refine Calls.mono this ?_
      rintro e w2 ⟨g', y, h0, h1, h2, h3⟩
      obtain ⟨g2, k1, k2, k3⟩ := fin g' y w2 h1 h2 h3
      exact ⟨g2, y, h0, k1, k2, k3⟩

/-! ### Floats by their bits -/
theorem Rv_bits {n : Nat} {g : Nat → Pl} {o : Option Nat} {x : Value} (h : Rv n g (.fl o) x) : ∃ b, fden o b ∧ Rv n g (.fl (some b)) x := by
  simp only [Rv] at *
  obtain ⟨b, h1, h2⟩ := h
  exact ⟨b, h1, b, rfl, h2⟩
theorem Rvs_bits {n : Nat} {g : Nat → Pl} {as bs : List V} {o : Option Nat} {xs : List Value} (h : Rvs n g (as ++ .fl o :: bs) xs) : ∃ b, fden o b ∧ Rvs n g (as ++ .fl (some b) :: bs) xs := by
  induction as generalizing xs with
  | nil =>
    simp only [List.nil_append, Rvs] at *
    obtain ⟨y, ys, h1, h2, h3⟩ := h
    obtain ⟨b, k1, k2⟩ := Rv_bits h2
    exact ⟨b, k1, y, ys, h1, k2, h3⟩
  | cons v as ih =>
    simp only [List.cons_append, Rvs] at *
    obtain ⟨y, ys, h1, h2, h3⟩ := h
    obtain ⟨b, k1, k2⟩ := ih h3
    exact ⟨b, k1, y, ys, h1, h2, k2⟩
/-- A contract for each pattern of bits that a float may have is one for the float. -/
theorem COk_bits {f : FuncId} (as : List V) {bs : List V} {o : Option Nat} {m m' : List Blk} {r : V} (h : ∀ b, fden o b → COk P ng f (as ++ .fl (some b) :: bs) m r m') : COk P ng f (as ++ .fl o :: bs) m r m' := by
  intro g w xs hg hrep hargs
  obtain ⟨b, h1, h2⟩ := Rvs_bits hargs
  exact h b h1 g w xs hg hrep h2
/-- A function of the model's own that only reckons. -/
theorem COk_ext {f : FuncId} {args : List V} {m : List Blk} {r : V} (h : ∀ n g w xs, Rvs n g args xs → ∃ x w', (callFunc f xs.toArray).run P w = .ok (.value x) w' ∧ Rv n g r x ∧ Drew w w') : COk P ng f args m r m := by
  intro g w xs hg hrep hargs
  obtain ⟨x, w', h1, h2, h3⟩ := h m.length g w xs hargs
  rw [h1]
  exact ⟨g, h2, h3.rep hrep, h3.step⟩
end
end Go.Eng
