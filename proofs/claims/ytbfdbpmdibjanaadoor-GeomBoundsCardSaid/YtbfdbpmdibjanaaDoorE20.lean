/- The engine, part 20: code, loops, whole functions; memory that a callee does not see. No condition. -/
import Derived.Test.YtbfdbpmdibjanaaDoorE19
namespace Go.Eng
open Go
noncomputable def ev (P : Program) (ng : Nat) (c : Code) : List V → List Blk → (Exit → List V → List Blk → Prop) → Prop :=
  Code.rec (motive := fun _ => List V → List Blk → (Exit → List V → List Blk → Prop) → Prop)
    (fun t m K => K .normal t m)
    (fun _ ops draw t m K => match draw with
      | false => evOps P ng ops.toList ops.toList t m fun t m => K .normal t m
      | true => br (lookD ops && mkLt (lenL t) ops.toList && P.follows .mixedOrders) (evA P ng ops.toList m ops.toList t m fun t m => K .normal t m)
          (br (lookF ops && mkLt (lenL t) ops.toList && P.follows .mixedOrders) (evF P ng m ops.toList [] t m fun t m => K .normal t m) False))
    (fun _ _ iha ihb t m K => iha t m fun e t m => match e with | .normal => ihb t m K | e => K e t m)
    (fun c _ _ iha ihb t m K => match evO ng t c with
      | .bool c => br c (iha t m K) (ihb t m K)
      | _ => False)
    (fun id _ ih t m K => ih t m fun e t m => match e with
      | .exit id' => match Nat.beq id' id with | true => K .normal t m | false => K (.exit id') t m
      | e => K e t m)
    (fun c ih t m K => loopVC m.length c ih t m K)
    (fun _ _ _ _ _ _ _ _ _ => False)
    (fun id t m K => K (.exit id) t m)
    (fun _ _ _ _ _ => False)
    (fun _ t m K => K .normal t m)
    (fun _ _ _ _ => False)
    (fun t m K => K .ret t m)
    (fun _ _ _ _ => False) c

/-! ### A whole function -/
noncomputable def resV (P : Program) (t : List V) (m : List Blk) (l : List ResultVar) : (List V → Prop) → Prop :=
  List.rec (motive := fun _ => (List V → Prop) → Prop) (fun K => K [])
    (fun r _ ih K => match r with
      | .tmp i => fV (getT t i) fun v => ih fun vs => K (v :: vs)
      | .cell a ty => loadV P ty (getT t a) m fun v => ih fun vs => K (v :: vs)) l
def tupV : List V → V
  | [v] => v
  | vs => .tup vs
def tupK : List V → (V → Prop) → Prop
  | [v], K => fV v K
  | vs, K => K (.tup vs)
/-- Behind a body: the results are 'r', memory begins as 'm''. -/
noncomputable def fin (P : Program) (fn : Func) (r : V) (m' : List Blk) : Exit → List V → List Blk → Prop
  | .normal, t, m | .ret, t, m => resV P t m fn.results.toList fun vs => tupK vs fun v => v = r ∧ ∃ x, m = m' ++ x
  | _, _, _ => False
section
variable {P : Program} {ng : Nat}

def PostE (ng : Nat) (K : Exit → List V → List Blk → Prop) (g : Nat → Pl) (m : List Blk) (w : World) (e : Exit) (a' : Act) (w' : World) : Prop :=
  ∃ g' t' m', K e t' m' ∧ Sim ng g' t' m' a' w' ∧ Step g m w g' m' w'
theorem PostE.from {K : Exit → List V → List Blk → Prop} {g g1 : Nat → Pl} {m m1 : List Blk} {w w1 : World} {e : Exit} {a' : Act} {w' : World} (h : Step g m w g1 m1 w1) (r : PostE ng K g1 m1 w1 e a' w') : PostE ng K g m w e a' w' := by
  obtain ⟨g', t', m', h1, h2, h3⟩ := r
  exact ⟨g', t', m', h1, h2, h.trans h3⟩

def SoundC (P : Program) (ng : Nat) (c : Code) : Prop := ∀ (t : List V) (m : List Blk) (K : Exit → List V → List Blk → Prop) (g : Nat → Pl) (a : Act) (w : World),
  ev P ng c t m K → Sim ng g t m a w → c.wp P (PostE ng K g m w) a w

theorem wkL_spec : ∀ {T t : List V} {xs : List Value} {n : Nat} {g : Nat → Pl}, wkL T t → Rvs n g t xs → Rvs n g T xs
  | [], t, xs, n, g, h, hr => by
    have h : t = [] := h
    subst h; exact hr
  | v :: T, [], xs, n, g, h, hr => h.elim
  | v :: T, u :: t, xs, n, g, h, hr => by
    obtain ⟨y, ys, rfl, h1, h2⟩ := hr
    cases v with
    | any => exact ⟨y, ys, rfl, trivial, wkL_spec (T := T) h h2⟩
    | _ =>
      obtain ⟨rfl, h⟩ := h
      exact ⟨y, ys, rfl, h1, wkL_spec (T := T) h h2⟩
theorem Step.forgetN {g g' : Nat → Pl} {m M x : List Blk} {w w' : World} (h : Step g m w g' (M ++ x) w') (hl : m.length ≤ M.length) : Step g m w g' M w' :=
  ⟨hl, fun i hi => by
      have := h.agree i hi
      have e : getB (M ++ x) i = getB M i := by
        rw [getB_eq, getB_eq, List.getD_eq_getElem?_getD, List.getD_eq_getElem?_getD, List.getElem?_append_left (by omega)]
      rwa [e] at this, h.os, h.tape, h.output, h.size, h.same, fun p hp ⟨i, b, hb, hw, he⟩ => h.foot p hp ⟨i, b, by rw [List.getElem?_append_left (List.getElem?_eq_some_iff.1 hb).1]; exact hb, hw, he⟩⟩
theorem Fg.sim {n : Nat} {g : Nat → Pl} {t T : List V} {m M : List Blk} {a : Act} {w : World} (F : Fg n t m T M) (hn : ng ≤ n) (S : Sim ng g t m a w) : Sim ng g T M a w := by
  obtain ⟨x, rfl⟩ := F.more
  refine ⟨S.defers, F.sc g _ (wkL_spec F.slots S.tmps), ⟨fun i b hb => ?_, fun i j b c hij hb hc hw hl hl' => ?_⟩, ⟨Nat.le_trans hn F.len, S.glob.2⟩⟩
  · have R := S.rep.blk i b (by rw [List.getElem?_append_left (List.getElem?_eq_some_iff.1 hb).1]; exact hb)
    refine ⟨R.size, fun j v hv => ?_, R.free, R.room, R.map, R.ver⟩
    obtain ⟨y, hy, hr⟩ := R.cell j v hv
    exact ⟨y, hy, F.scm g y i b j v hb hv hr⟩
  · exact S.rep.apart i j b c hij (by rw [List.getElem?_append_left (List.getElem?_eq_some_iff.1 hb).1]; exact hb) (by rw [List.getElem?_append_left (List.getElem?_eq_some_iff.1 hc).1]; exact hc) hw hl hl'
theorem sound_loop {c : Code} (ih : SoundC P ng c) : SoundC P ng (.loop c) := by
  intro t0 m0 K g0 a0 w0 h S0 b k cs
  have key := loopVC.out h (fun t m => ∀ g a w, Sim ng g t m a w → Step g0 m0 w0 g m w → ∃ e a' w', PostE ng K g0 m0 w0 e a' w' ∧ Arrives P (lone (b.at a (.code c :: .inLoop c :: k)) cs w) b k cs e a' w') (by
    intro t m hb g a w S hs0
    obtain ⟨e, a1, w1, ⟨g1, t1, m1, hk, S1, hs⟩, harr⟩ := ih t m _ g a w hb S b (.inLoop c :: k) cs
    have hs := hs0.trans hs
    cases e with
    | normal =>
      obtain ⟨e2, a2, w2, hp, harr2⟩ := hk g1 a1 w1 S1 hs
      exact ⟨e2, a2, w2, hp, .of_steps (Steps.trans harr (.one step_inLoop)) harr2⟩
    | exit id => exact ⟨_, a1, w1, ⟨g1, t1, m1, hk, S1, hs⟩, .pass (x := .inLoop c) rfl (fun _ _ => .inl (by simp)) harr⟩
    | goto l => exact ⟨_, a1, w1, ⟨g1, t1, m1, hk, S1, hs⟩, .pass (x := .inLoop c) rfl (fun _ _ => .inl (by simp)) harr⟩
    | ret => exact ⟨_, a1, w1, ⟨g1, t1, m1, hk, S1, hs⟩, .pass (x := .inLoop c) rfl (fun _ _ => .inl (by simp)) harr⟩
    | panic ch => exact ⟨_, a1, w1, ⟨g1, t1, m1, hk, S1, hs⟩, .pass (x := .inLoop c) rfl (fun _ _ => .inl (by simp)) harr⟩
    | outgrown => exact ⟨_, a1, w1, ⟨g1, t1, m1, hk, S1, hs⟩, .pass (x := .inLoop c) rfl (fun _ _ => .inl (by simp)) harr⟩) (by
    intro t m T M F hJ g a w S hs
    refine hJ g a w (F.sim S0.glob.1 S) ?_
    obtain ⟨x, rfl⟩ := F.more
    exact hs.forgetN F.len)
  obtain ⟨e, a', w', hp, harr⟩ := key g0 a0 w0 S0 (.refl _ _ _)
  exact ⟨e, a', w', hp, .of_steps (.one step_loop) harr⟩

theorem ev_sound : ∀ c : Code, SoundC P ng c
  | .skip => fun t m K g a w h S => wp_skip ⟨g, t, m, h, S, .refl _ _ _⟩
  | .region id ops false => fun t m K g a w h S => wp_region_list (evOps_sound _ t m _ g a w h S (fun a' w' ⟨g', t', m', h1, h2, h3⟩ => ⟨g', t', m', h1, h2, h3⟩))
  | .region id ops true => fun t m K g a w h S => by
    have h : br (lookD ops && mkLt (lenL t) ops.toList && P.follows .mixedOrders) (evA P ng ops.toList m ops.toList t m fun t m => K .normal t m)
          (br (lookF ops && mkLt (lenL t) ops.toList && P.follows .mixedOrders) (evF P ng m ops.toList [] t m fun t m => K .normal t m) False) := h
    rw [br_iff] at h
    rcases h with ⟨h1, h2⟩ | ⟨_, h⟩
    · simp only [Bool.and_eq_true, lenL_eq] at h1
      exact drawn_sound h1.2 h1.1.1 h1.1.2 S h2 (fun a' w' ⟨g', t', m', k1, k2, k3⟩ => ⟨g', t', m', k1, k2, k3⟩)
    · obtain ⟨h1, h2⟩ := br_F h
      simp only [Bool.and_eq_true, lenL_eq] at h1
      exact drawn_lax h1.2 h1.1.1 h1.1.2 S h2 (fun a' w' ⟨g', t', m', k1, k2, k3⟩ => ⟨g', t', m', k1, k2, k3⟩)
  | .seq x y => fun t m K g a w h S => by
    refine wp_seq (wp_mono (ev_sound x t m _ g a w h S) ?_)
    rintro e a1 w1 ⟨g1, t1, m1, hk, S1, hs⟩
    cases e with
    | normal => exact wp_mono (ev_sound y t1 m1 K g1 a1 w1 hk S1) (fun e a w r => r.from hs)
    | _ => exact ⟨g1, t1, m1, hk, S1, hs⟩
  | .cond c x y => fun t m K g a w h S => by
    simp only [ev] at h
    split at h
    · rename_i b hb
      have hr := eval_of S hb
      simp only [Rv] at hr
      rw [br_iff] at h
      rcases h with ⟨rfl, h⟩ | ⟨rfl, h⟩
      · exact wp_cond_true hr (ev_sound x t m K g a w h S)
      · exact wp_cond_false hr (ev_sound y t m K g a w h S)
    · exact h.elim
  | .block id c => fun t m K g a w h S => by
    refine wp_block (wp_mono (ev_sound c t m _ g a w h S) ?_)
    rintro e a1 w1 ⟨g1, t1, m1, hk, S1, hs⟩
    cases e with
    | exit id' =>
      simp only [Exit.inBlock]
      by_cases hid : id' = id
      · subst hid
        rw [if_pos rfl]
        have : Nat.beq id' id' = true := by simp
        simp only [this] at hk
        exact ⟨g1, t1, m1, hk, S1, hs⟩
      · rw [if_neg hid]
        have : Nat.beq id' id = false := by
          rw [Bool.eq_false_iff]; intro h; exact hid (Nat.eq_of_beq_eq_true h)
        simp only [this] at hk
        exact ⟨g1, t1, m1, hk, S1, hs⟩
    | _ => exact ⟨g1, t1, m1, hk, S1, hs⟩
  | .loop c => sound_loop (ev_sound c)
  | .rangeFunc f p x y => fun t m K g a w h S => h.elim
  | .exit id => fun t m K g a w h S => wp_exit ⟨g, t, m, h, S, .refl _ _ _⟩
  | .scope c => fun t m K g a w h S => h.elim
  | .label l => fun t m K g a w h S => wp_label ⟨g, t, m, h, S, .refl _ _ _⟩
  | .goto l => fun t m K g a w h S => h.elim
  | .ret => fun t m K g a w h S => wp_ret ⟨g, t, m, h, S, .refl _ _ _⟩
  | .refuse s => fun t m K g a w h S => h.elim

/-! ### What blocks a value names -/
mutual
def V.sc (n : Nat) : V → Bool
  | .ptr i _ => Nat.blt i n
  | .sl i _ _ => Nat.blt i n
  | .gp i _ _ => Nat.blt i n
  | .gs i _ _ _ => Nat.blt i n
  | .mp i => Nat.blt i n
  | .sk i _ _ _ => Nat.blt i n
  | .agg cs => scL n cs
  | .tup cs => scL n cs
  | .clo _ a b => scL n a && scL n b
  | _ => true
def scL (n : Nat) : List V → Bool
  | [] => true
  | v :: vs => v.sc n && scL n vs
end
def B.sc (n : Nat) : B → Bool
  | .cells cs => scL n cs
  | .gcells _ cs => scL n cs
  | _ => true
def scM (n : Nat) : List Blk → Bool
  | [] => true
  | b :: bs => b.b.sc n && scM n bs
def roM : List Blk → Bool
  | [] => true
  | b :: bs => !b.w && roM bs

mutual
theorem Rv_shrink {n k : Nat} {g : Nat → Pl} : ∀ (v : V) {x : Value}, v.sc k = true → Rv n g v x → Rv k g v x
  | .bool b, x, _, h => by simpa [Rv] using h
  | .int _ _, x, _, h => by simpa [Rv] using h
  | .fl o, x, _, h => by simpa [Rv] using h
  | .raw v, x, _, h => by simpa [Rv] using h
  | .any, x, _, h => trivial
  | .ptr i off, x, hs, h => by
    simp only [Rv] at *
    exact ⟨by simpa [V.sc] using hs, h.2⟩
  | .sl i off len, x, hs, h => by
    simp only [Rv] at *
    exact ⟨by simpa [V.sc] using hs, h.2⟩
  | .gp i v off, x, hs, h => by
    simp only [Rv] at *
    exact ⟨by simpa [V.sc] using hs, h.2⟩
  | .gs i v e len, x, hs, h => by
    simp only [Rv] at *
    exact ⟨by simpa [V.sc] using hs, h.2⟩
  | .mp i, x, hs, h => by
    simp only [Rv] at *
    exact ⟨by simpa [V.sc] using hs, h.2⟩
  | .sk i off len c, x, hs, h => by
    simp only [Rv] at *
    exact ⟨by simpa [V.sc] using hs, h.2⟩
  | .agg cs, x, hs, h => by
    simp only [Rv] at *
    obtain ⟨xs, h1, h2⟩ := h
    exact ⟨xs, h1, Rvs_shrink cs hs h2⟩
  | .tup cs, x, hs, h => by
    simp only [Rv] at *
    obtain ⟨xs, h1, h2⟩ := h
    exact ⟨xs, h1, Rvs_shrink cs hs h2⟩
  | .clo fn a b, x, hs, h => by
    simp only [Rv, V.sc, Bool.and_eq_true] at *
    obtain ⟨xs, ys, h1, h2, h3⟩ := h
    exact ⟨xs, ys, h1, Rvs_shrink a hs.1 h2, Rvs_shrink b hs.2 h3⟩
theorem Rvs_shrink {n k : Nat} {g : Nat → Pl} : ∀ (vs : List V) {xs : List Value}, scL k vs = true → Rvs n g vs xs → Rvs k g vs xs
  | [], xs, _, h => by simpa [Rvs] using h
  | v :: vs, xs, hs, h => by
    simp only [Rvs, scL, Bool.and_eq_true] at *
    obtain ⟨y, ys, h1, h2, h3⟩ := h
    exact ⟨y, ys, h1, Rv_shrink v hs.1 h2, Rvs_shrink vs hs.2 h3⟩
end
mutual
theorem Rv_sc {n : Nat} {g : Nat → Pl} : ∀ (v : V) {x : Value}, Rv n g v x → v.sc n = true
  | .bool b, x, h => rfl
  | .int _ _, x, h => rfl
  | .fl o, x, h => rfl
  | .raw v, x, h => rfl
  | .any, x, h => rfl
  | .ptr i off, x, h => by simp only [Rv] at h; simpa [V.sc] using h.1
  | .sl i off len, x, h => by simp only [Rv] at h; simpa [V.sc] using h.1
  | .gp i v off, x, h => by simp only [Rv] at h; simpa [V.sc] using h.1
  | .gs i v e len, x, h => by simp only [Rv] at h; simpa [V.sc] using h.1
  | .mp i, x, h => by simp only [Rv] at h; simpa [V.sc] using h.1
  | .sk i off len c, x, h => by simp only [Rv] at h; simpa [V.sc] using h.1
  | .agg cs, x, h => by
    simp only [Rv] at h
    obtain ⟨xs, h1, h2⟩ := h
    exact Rvs_sc cs h2
  | .tup cs, x, h => by
    simp only [Rv] at h
    obtain ⟨xs, h1, h2⟩ := h
    exact Rvs_sc cs h2
  | .clo fn a b, x, h => by
    simp only [Rv] at h
    obtain ⟨xs, ys, h1, h2, h3⟩ := h
    simp [V.sc, Rvs_sc a h2, Rvs_sc b h3]
theorem Rvs_sc {n : Nat} {g : Nat → Pl} : ∀ (vs : List V) {xs : List Value}, Rvs n g vs xs → scL n vs = true
  | [], xs, h => rfl
  | v :: vs, xs, h => by
    simp only [Rvs] at h
    obtain ⟨y, ys, h1, h2, h3⟩ := h
    simp [scL, Rv_sc v h2, Rvs_sc vs h3]
end
theorem scL_get {n : Nat} : ∀ {l : List V} {j : Nat} {v : V}, scL n l = true → l[j]? = some v → v.sc n = true
  | [], j, v, _, h => by simp at h
  | u :: l, 0, v, hs, h => by simp at h; subst h; simp [scL] at hs; exact hs.1
  | u :: l, j + 1, v, hs, h => by simp [scL] at hs; exact scL_get hs.2 (by simpa using h)
theorem B.sc_get {n : Nat} {b : B} {j : Nat} {v : V} (hs : b.sc n = true) (h : b.get j = some v) : v.sc n = true := by
  cases b with
  | dead => simp [B.get] at h
  | cells cs => exact scL_get hs h
  | ints k l => simp only [B.get, Option.map_eq_some_iff] at h; obtain ⟨_, _, rfl⟩ := h; rfl
  | flts l => simp only [B.get, Option.map_eq_some_iff] at h; obtain ⟨_, _, rfl⟩ := h; rfl
  | bools l => simp only [B.get, Option.map_eq_some_iff] at h; obtain ⟨_, _, rfl⟩ := h; rfl
  | gcells v cs => exact scL_get hs h
  | gints v k l => simp only [B.get, Option.map_eq_some_iff] at h; obtain ⟨_, _, rfl⟩ := h; rfl
  | gflts v l => simp only [B.get, Option.map_eq_some_iff] at h; obtain ⟨_, _, rfl⟩ := h; rfl
  | mpI f => simp [B.get] at h
theorem scM_get {n : Nat} : ∀ {m : List Blk} {i : Nat} {b : Blk}, scM n m = true → m[i]? = some b → b.b.sc n = true
  | [], i, b, _, h => by simp at h
  | c :: m, 0, b, hs, h => by simp at h; subst h; simp [scM] at hs; exact hs.1
  | c :: m, i + 1, b, hs, h => by simp [scM] at hs; exact scM_get hs.2 (by simpa using h)
theorem roM_get : ∀ {m : List Blk} {i : Nat} {b : Blk}, roM m = true → m[i]? = some b → b.w = false
  | [], i, b, h, h' => by simp at h'
  | c :: m, 0, b, hs, h => by simp at h; subst h; simp [roM] at hs; exact hs.1
  | c :: m, i + 1, b, hs, h => by simp [roM] at hs; exact roM_get hs.2 (by simpa using h)

/-- Blocks beyond are forgotten. -/
theorem Rep.forget {g : Nat → Pl} {m x : List Blk} {w : World} (h : Rep g (m ++ x) w) (hs : ∀ (i : Nat) b, m[i]? = some b → ∀ (j : Nat) v, b.b.get j = some v → v.sc m.length = true) : Rep g m w := by
  have hget : ∀ (i : Nat) (b : Blk), m[i]? = some b → (m ++ x)[i]? = some b := fun i b hb => by
    rw [List.getElem?_append_left (List.getElem?_eq_some_iff.1 hb).1]; exact hb
  refine ⟨fun i b hb => ?_, fun i j b c hij hb hc hw hl hl' => h.apart i j b c hij (hget i b hb) (hget j c hc) hw hl hl'⟩
  have R := h.blk i b (hget i b hb)
  refine ⟨R.size, fun j v hv => ?_, R.free, R.room, R.map, R.ver⟩
  obtain ⟨y, hy, hr⟩ := R.cell j v hv
  exact ⟨y, hy, Rv_shrink v (hs i b hb j v hv) hr⟩
theorem Step.forget {g g' : Nat → Pl} {m m' x : List Blk} {w w' : World} (h : Step g m w g' (m' ++ x) w') (hl : m.length ≤ m'.length) : Step g m w g' m' w' :=
  ⟨hl, fun i hi => by
      have := h.agree i hi
      have e : getB (m' ++ x) i = getB m' i := by
        rw [getB_eq, getB_eq, List.getD_eq_getElem?_getD, List.getD_eq_getElem?_getD, List.getElem?_append_left (by omega)]
      rwa [e] at this, h.os, h.tape, h.output, h.size, h.same, fun p hp ⟨i, b, hb, hw, he⟩ => h.foot p hp ⟨i, b, by rw [List.getElem?_append_left (List.getElem?_eq_some_iff.1 hb).1]; exact hb, hw, he⟩⟩

/-! ### A whole function -/
theorem asAddr_some (A : Addr) : asAddr (.pointer (some A)) = pure A := rfl
theorem resV_sound {g : Nat → Pl} {t : List V} {m : List Blk} {a : Act} {w : World} (S : Sim ng g t m a w) : ∀ (rs : List ResultVar) {K : List V → Prop}, resV P t m rs K →
    ∃ vs xs, (rs.mapM (fun (r : ResultVar) => (match r with
      | .tmp t => pure (a.tmps.getD t undef)
      | .cell p t => do loadVar t (← asAddr (a.tmps.getD p undef)) : Sem Value))).run P w = .ok xs w ∧ Rvs m.length g vs xs ∧ K vs
  | [], K, h => ⟨[], [], by simp, by simp [Rvs], h⟩
  | .tmp i :: rs, K, h => by
    have h : fV (getT t i) (fun v => resV P t m rs fun vs => K (v :: vs)) := h
    rw [fV_eq] at h
    obtain ⟨vs, xs, h1, h2, h3⟩ := resV_sound S rs h
    refine ⟨_, a.tmps.getD i undef :: xs, ?_, ?_, h3⟩
    · simp only [List.mapM_cons, Sem.run_bind, Sem.run_pure, Result.andThen_ok, h1]
    · simp only [Rvs]
      refine ⟨_, _, rfl, ?_, h2⟩
      rw [getT_eq]
      simpa using Rvs_getD S.tmps i
  | .cell p ty :: rs, K, h => by
    have h : loadV P ty (getT t p) m (fun v => resV P t m rs fun vs => K (v :: vs)) := h
    have hp : Rv m.length g (getT t p) (a.tmps.getD p undef) := by
      rw [getT_eq]; simpa using Rvs_getD S.tmps p
    have haddr : ∃ A, a.tmps.getD p undef = .pointer (some A) := by
      cases hv : getT t p <;> rw [hv] at h hp <;> try exact h.elim
      · simp only [Rv] at hp
        exact ⟨_, hp.2.2⟩
      · simp only [Rv] at hp
        obtain ⟨_, _, A, hA, _⟩ := hp
        exact ⟨A, hA⟩
    obtain ⟨A, hA⟩ := haddr
    obtain ⟨v, y, h1, h2, h3⟩ := loadV_sound S hp h
    obtain ⟨vs, xs, k1, k2, k3⟩ := resV_sound S rs h3
    refine ⟨v :: vs, y :: xs, ?_, ?_, k3⟩
    · rw [hA] at h1
      simp only [Instr.loadAt, Instr.sureAddr, Sem.run_bind, Sem.run_pure, Result.andThen_ok] at h1
      simp only [List.mapM_cons, Sem.run_bind, hA, asAddr_some, Sem.run_pure, Result.andThen_ok, h1, k1]
    · simp only [Rvs]
      exact ⟨_, _, rfl, h2, k2⟩

theorem tup_sound {n : Nat} {g : Nat → Pl} {vs : List V} {xs : List Value} (h : Rvs n g vs xs) : Rv n g (tupV vs) (if h : xs.toArray.size = 1 then xs.toArray[0] else .tuple xs.toArray) := by
  have hl := Rvs_length h
  match vs, h with
  | [], h => simp only [Rvs] at h; subst h; simp [tupV, Rv, Rvs]
  | [v], h =>
    simp only [Rvs] at h
    obtain ⟨y, ys, rfl, h1, rfl⟩ := h
    simpa [tupV] using h1
  | v :: u :: vs, h =>
    rw [dif_neg (by simp at hl ⊢; omega)]
    simp only [tupV, Rv]
    exact ⟨_, rfl, by simpa using h⟩

theorem tupK_eq (vs : List V) (K : V → Prop) : tupK vs K = K (tupV vs) := by
  match vs with
  | [] => rfl
  | [v] => simp [tupK, tupV, fV_eq]
  | _ :: _ :: _ => rfl
theorem Ok_of_ev {f : FuncId} {fn : Func} {c : Code} {args : List V} {m m' : List Blk} {r : V} (hf : P.funcs[f]? = some fn) (hb : fn.body = some c)
    (hl : m.length ≤ m'.length) (hr : r.sc m'.length = true) (hs : m' = m ∨ scM m'.length m' = true) (h : tmps0 args fn.ntmps fun t => ev P ng c t m (fin P fn r m')) : Ok P ng f args m r m' := by
  intro g w xs hg hrep hargs
  rw [tmps0_eq] at h
  have hlen := Rvs_length hargs
  have S : Sim ng g (args ++ List.replicate (fn.ntmps - args.length) V.un) m { tmps := xs.toArray ++ Array.replicate (fn.ntmps - xs.toArray.size) undef, defers := [] } w := by
    refine ⟨rfl, ?_, hrep, hg⟩
    have := Rvs_append hargs (Rvs_replicate_un (n := m.length) (g := g) (fn.ntmps - args.length))
    simpa [hlen] using this
  refine calls_of_wp hf hb (wp_mono (ev_sound c _ m _ g _ w h S) ?_)
  have fin : ∀ (t' : List V) (m1 : List Blk) (g' : Nat → Pl) (a' : Act) (w' : World), (resV P t' m1 fn.results.toList fun vs => tupK vs fun v => v = r ∧ ∃ x, m1 = m' ++ x) → Sim ng g' t' m1 a' w' → Step g m w g' m1 w' →
      a'.defers = [] ∧ ∃ v, (results fn a'.tmps).run P w' = .ok v w' ∧ ∃ g' x, Ending.returned v = .returned x ∧ Rv m'.length g' r x ∧ Rep g' m' w' ∧ Step g m w g' m' w' := by
    intro t' m1 g' a' w' hres S' hst
    obtain ⟨vs, ys, h1, h2, h3⟩ := resV_sound S' _ hres
    rw [tupK_eq] at h3
    obtain ⟨h3, x, h4⟩ := h3
    subst h4
    refine ⟨S'.defers, (if h : ys.toArray.size = 1 then ys.toArray[0] else .tuple ys.toArray), ?_, g', _, rfl, ?_, S'.rep.forget ?_, hst.forget hl⟩
    · simp only [results, Sem.run_bind, Array.mapM_eq_mapM_toList, Sem.run_map, Sem.run_pure]
      erw [h1]
      rfl
    · subst h3
      exact Rv_shrink _ hr (tup_sound h2)
    · rcases hs with rfl | hs
      · intro i b hb j v hv
        obtain ⟨y, _, hy⟩ := (hrep.blk i b hb).cell j v hv
        exact Rv_sc v hy
      · intro i b hb j v hv
        exact B.sc_get (scM_get hs hb) hv
  rintro e a' w' ⟨g', t', m1, hk, S', hst⟩
  cases e with
  | normal => exact fin t' m1 g' a' w' hk S' hst
  | ret => exact fin t' m1 g' a' w' hk S' hst
  | exit id => exact hk.elim
  | goto l => exact hk.elim
  | panic ch => exact hk.elim
  | outgrown => exact hk.elim

/-- A Go function of the program's own, with a body. -/
def plainFn (fn : Func) : Bool := fn.name != "runtime.NumGoroutine" && fn.body.isSome
theorem COk_of {f : FuncId} {fn : Func} {args : List V} {m m' : List Blk} {r : V} (hf : P.funcs[f]? = some fn) (hp : plainFn fn = true) (h : Ok P ng f args m r m') : COk P ng f args m r m' := by
  intro g w xs hg hrep hargs
  simp only [plainFn, Bool.and_eq_true, bne_iff_ne, ne_eq, Option.isSome_iff_exists] at hp
  obtain ⟨h1, c, h2⟩ := hp
  have : (callFunc f xs.toArray).run P w = .ok (.enter f xs.toArray) w := by
    simp [callFunc, hf, h1, h2]
  rw [this]
  exact h g w xs hg hrep hargs
def bodyOf (f : Func) : Code :=
  match f.body with
  | some c => c
  | none => .skip
theorem COk_of_ev {f : FuncId} (fn : Func) {args : List V} {m m' : List Blk} {r : V} (hf : P.funcs[f]? = some fn) (hp : plainFn fn = true)
    (hl : m.length ≤ m'.length) (hr : r.sc m'.length = true) (hs : m' = m ∨ scM m'.length m' = true) (h : tmps0 args fn.ntmps fun t => ev P ng (bodyOf fn) t m (fin P fn r m')) : COk P ng f args m r m' := by
  refine COk_of hf hp (Ok_of_ev hf ?_ hl hr hs h)
  simp only [plainFn, Bool.and_eq_true, Option.isSome_iff_exists] at hp
  obtain ⟨_, c, hc⟩ := hp
  simp only [bodyOf, hc]
/-- A function that leaves memory as it was. -/
theorem COk_quiet {f : FuncId} (fn : Func) {args : List V} {m : List Blk} {r : V} (hf : P.funcs[f]? = some fn) (hp : plainFn fn = true)
    (hr : r.sc m.length = true) (h : tmps0 args fn.ntmps fun t => ev P ng (bodyOf fn) t m (fin P fn r m)) : COk P ng f args m r m :=
  COk_of_ev fn hf hp (Nat.le_refl _) hr (.inl rfl) h
end
end Go.Eng
