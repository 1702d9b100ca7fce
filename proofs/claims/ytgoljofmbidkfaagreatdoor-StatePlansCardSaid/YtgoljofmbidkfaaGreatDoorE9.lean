import Derived.Test.YtgoljofmbidkfaaGreatDoorE5
/- The engine: parts 6 to 9. No condition. -/
/- The engine, part 6: operations on values: floats, whole numbers, equality. No condition. -/
namespace Go.Eng
open Go

/-! ### Floats -/
theorem read_nan {b : Nat} (h : nanB b) : ∃ s f, f64.read b = .nan s f := by
  obtain ⟨_, h2⟩ := h
  have h3 : f64.binade ≤ f64.infRung := by decide
  refine ⟨b / f64.signWeight % 2 == 1, b % f64.signWeight - f64.infRung, ?_⟩
  unfold Ieee.Format.read
  simp only
  rw [if_neg (by omega), if_neg (by omega), if_neg (by omega)]
theorem fop_nan_l {f : Nat → Nat → Option Nat} (hf : ∀ x y, nanB x → f x y = none) (hg : ∀ x y, nanB y → f x y = none) {a b : Option Nat} {x y : Nat} (ha : fden a x) (hb : fden b y) : f x y = fop2 f a b := by
  cases a with
  | none => simp only [fop2]; exact hf _ _ ha
  | some a =>
    cases b with
    | none => simp only [fop2]; exact hg _ _ hb
    | some b => simp only [fden] at ha hb; subst ha; subst hb; rfl
theorem add_nan_l (x y : Nat) (h : nanB x) : f64.add x y = none := by
  obtain ⟨s, f, e⟩ := read_nan h; simp [Ieee.Format.add, e, Ieee.Datum.sum]
theorem add_nan_r (x y : Nat) (h : nanB y) : f64.add x y = none := by
  obtain ⟨s, f, e⟩ := read_nan h; simp only [Ieee.Format.add, e]; cases f64.read x <;> simp [Ieee.Datum.sum]
theorem sub_nan_l (x y : Nat) (h : nanB x) : f64.sub x y = none := by
  obtain ⟨s, f, e⟩ := read_nan h; simp [Ieee.Format.sub, e, Ieee.Datum.sum]
theorem sub_nan_r (x y : Nat) (h : nanB y) : f64.sub x y = none := by
  obtain ⟨s, f, e⟩ := read_nan h; simp only [Ieee.Format.sub, e]; cases f64.read x <;> simp [Ieee.Datum.sum, Ieee.Datum.opposite]
theorem mul_nan_l (x y : Nat) (h : nanB x) : f64.mul x y = none := by
  obtain ⟨s, f, e⟩ := read_nan h; simp [Ieee.Format.mul, e, Ieee.Datum.product]
theorem mul_nan_r (x y : Nat) (h : nanB y) : f64.mul x y = none := by
  obtain ⟨s, f, e⟩ := read_nan h; simp only [Ieee.Format.mul, e]; cases f64.read x <;> simp [Ieee.Datum.product]
theorem div_nan_l (x y : Nat) (h : nanB x) : f64.div x y = none := by
  obtain ⟨s, f, e⟩ := read_nan h; simp [Ieee.Format.div, e, Ieee.Datum.quotient]
theorem div_nan_r (x y : Nat) (h : nanB y) : f64.div x y = none := by
  obtain ⟨s, f, e⟩ := read_nan h; simp only [Ieee.Format.div, e]; cases f64.read x <;> simp [Ieee.Datum.quotient]
theorem order_nan_l (x y : Nat) (h : nanB x) : f64.order x y = none := by
  obtain ⟨s, f, e⟩ := read_nan h; simp [Ieee.Format.order, e, Ieee.Datum.order]
theorem order_nan_r (x y : Nat) (h : nanB y) : f64.order x y = none := by
  obtain ⟨s, f, e⟩ := read_nan h; simp only [Ieee.Format.order, e]; cases f64.read x <;> simp [Ieee.Datum.order]
theorem fcmp_den {a b : Option Nat} {x y : Nat} (ha : fden a x) (hb : fden b y) : f64.order x y = fcmp a b := by
  cases a with
  | none => simp only [fcmp]; exact order_nan_l _ _ ha
  | some a =>
    cases b with
    | none => simp only [fcmp]; exact order_nan_r _ _ hb
    | some b => simp only [fden] at ha hb; subst ha; subst hb; rfl
theorem nan_cut (x y t : Nat) : nanB (Question.cut (.nanBits .f64 x y) t) := by
  simp only [Question.cut, nanB]
  have h1 : f64.infRung = 0x7ff0000000000000 := by decide
  have h2 : f64.signWeight = 2 ^ 63 := by decide
  rw [h1, h2]
  have h3 := Nat.mod_lt (t / 2) (show 0 < 2 ^ 52 - 1 by decide)
  have h4 := Nat.mod_lt t (show 0 < 2 by decide)
  generalize (t / 2) % (2 ^ 52 - 1) = r at *
  generalize t % 2 = s at *
  refine ⟨by omega, ?_⟩
  have : (s * 2 ^ 63 + 9218868437227405312 + 1 + r) % 2 ^ 63 = 9218868437227405312 + 1 + r := by
    rw [show s * 2 ^ 63 + 9218868437227405312 + 1 + r = (9218868437227405312 + 1 + r) + 2 ^ 63 * s by omega, Nat.add_mul_mod_self_left]
    exact Nat.mod_eq_of_lt (by omega)
  rw [this]; omega

/-- 'w' but for draws. -/
def Drew (w w' : World) : Prop := ∃ k, w' = { w with drawn := k }
theorem Drew.refl (w : World) : Drew w w := ⟨w.drawn, rfl⟩

section
variable {P : Program} {n : Nat} {g : Nat → Pl}
theorem run_fadd {a b : Option Nat} {x y : Nat} (ha : fden a x) (hb : fden b y) (w : World) :
    ∃ r w', (Op.floatArith .add .f64 x y).run P w = .ok (.float .f64 r) w' ∧ fden (fadd a b) r ∧ Drew w w' := by
  have e : f64.add x y = fadd a b := fop_nan_l add_nan_l add_nan_r ha hb
  rw [← e]
  unfold Op.floatArith
  cases hc : f64.add x y with
  | some r => exact ⟨r, w, by simp [FloatKind.format, hc], rfl, .refl w⟩
  | none => exact ⟨_, _, by simp [FloatKind.format, hc, Question.forced]; rfl, nan_cut x y (w.tape w.drawn (.nanBits .f64 x y)), ⟨_, rfl⟩⟩
theorem run_fsub {a b : Option Nat} {x y : Nat} (ha : fden a x) (hb : fden b y) (w : World) :
    ∃ r w', (Op.floatArith .sub .f64 x y).run P w = .ok (.float .f64 r) w' ∧ fden (fsub a b) r ∧ Drew w w' := by
  have e : f64.sub x y = fsub a b := fop_nan_l sub_nan_l sub_nan_r ha hb
  rw [← e]
  unfold Op.floatArith
  cases hc : f64.sub x y with
  | some r => exact ⟨r, w, by simp [FloatKind.format, hc], rfl, .refl w⟩
  | none => exact ⟨_, _, by simp [FloatKind.format, hc, Question.forced]; rfl, nan_cut x y (w.tape w.drawn (.nanBits .f64 x y)), ⟨_, rfl⟩⟩
theorem run_fmul {a b : Option Nat} {x y : Nat} (ha : fden a x) (hb : fden b y) (w : World) :
    ∃ r w', (Op.floatArith .mul .f64 x y).run P w = .ok (.float .f64 r) w' ∧ fden (fmul a b) r ∧ Drew w w' := by
  have e : f64.mul x y = fmul a b := fop_nan_l mul_nan_l mul_nan_r ha hb
  rw [← e]
  unfold Op.floatArith
  cases hc : f64.mul x y with
  | some r => exact ⟨r, w, by simp [FloatKind.format, hc], rfl, .refl w⟩
  | none => exact ⟨_, _, by simp [FloatKind.format, hc, Question.forced]; rfl, nan_cut x y (w.tape w.drawn (.nanBits .f64 x y)), ⟨_, rfl⟩⟩
theorem run_fdiv {a b : Option Nat} {x y : Nat} (ha : fden a x) (hb : fden b y) (w : World) :
    ∃ r w', (Op.floatArith .quo .f64 x y).run P w = .ok (.float .f64 r) w' ∧ fden (fdiv a b) r ∧ Drew w w' := by
  have e : f64.div x y = fdiv a b := fop_nan_l div_nan_l div_nan_r ha hb
  rw [← e]
  unfold Op.floatArith
  cases hc : f64.div x y with
  | some r => exact ⟨r, w, by simp [FloatKind.format, hc], rfl, .refl w⟩
  | none => exact ⟨_, _, by simp [FloatKind.format, hc, Question.forced]; rfl, nan_cut x y (w.tape w.drawn (.nanBits .f64 x y)), ⟨_, rfl⟩⟩
theorem Rv_int (k : IntKind) (a : Int) : Rv n g (.int k a) (.int k a) := rfl
theorem Rv_bool (b : Bool) : Rv n g (.bool b) (.bool b) := rfl
theorem evBin_sound {op : BinOp} {ty : TypeId} {x y : V} {xv yv : Value} {K : V → Prop} (hx : Rv n g x xv) (hy : Rv n g y yv) (h : evBin op x y K) (w : World) :
    ∃ v r w', (binOp op ty xv yv).run P w = .ok r w' ∧ Rv n g v r ∧ K v ∧ Drew w w' := by
  cases x with
  | int k a =>
    cases y with
    | int k' b =>
      simp only [Rv] at hx hy
      subst hx; subst hy
      cases op <;> simp only [evBin] at h <;> try exact h.elim
      case shl =>
        obtain ⟨h1, h2⟩ := br_F h
        have h1 : ¬ b < 0 := by simpa using h1
        refine ⟨_, _, w, ?_, Rv_int _ _, h2, .refl w⟩
        simp only [binOp, Op.shift, if_neg h1, Sem.run_pure]
        try rfl
      case shr =>
        obtain ⟨h1, h2⟩ := br_F h
        have h1 : ¬ b < 0 := by simpa using h1
        refine ⟨_, _, w, ?_, Rv_int _ _, h2, .refl w⟩
        simp only [binOp, Op.shift, if_neg h1, Sem.run_pure]
        try rfl
      case quo =>
        obtain ⟨h1, h2⟩ := br_F h
        obtain ⟨h3, h4⟩ := br_F h2
        have h3 : ¬ b = 0 := by simpa using h3
        have hk := sameKind_eq h1; subst hk
        refine ⟨_, _, w, ?_, Rv_int _ _, h4, .refl w⟩
        simp only [binOp, ne_eq, not_true, if_false, Op.intDiv, if_neg h3, Sem.run_pure]
        try rfl
      case rem =>
        obtain ⟨h1, h2⟩ := br_F h
        obtain ⟨h3, h4⟩ := br_F h2
        have h3 : ¬ b = 0 := by simpa using h3
        have hk := sameKind_eq h1; subst hk
        refine ⟨_, _, w, ?_, Rv_int _ _, h4, .refl w⟩
        simp only [binOp, ne_eq, not_true, if_false, Op.intDiv, if_neg h3, Sem.run_pure]
        try rfl
      all_goals
        obtain ⟨h1, h2⟩ := br_F h
        have hk := sameKind_eq h1; subst hk
        first
          | refine ⟨_, _, w, ?_, Rv_int _ _, h2, .refl w⟩
          | refine ⟨_, _, w, ?_, Rv_bool _, h2, .refl w⟩
        simp only [binOp, ne_eq, not_true, if_false, Op.intArith, Op.intBits, Op.intCmp, Sem.run_pure]
        try rfl
    | _ => cases op <;> exact h.elim
  | fl a =>
    cases y with
    | fl b =>
      simp only [Rv] at hx hy
      obtain ⟨p, hp, rfl⟩ := hx
      obtain ⟨q, hq, rfl⟩ := hy
      cases op <;> simp only [evBin] at h <;> first
        | exact h.elim
        | skip
      case add =>
        obtain ⟨r, w', h1, h2, h3⟩ := run_fadd (P := P) hp hq w
        exact ⟨_, _, w', by simpa only [binOp, ne_eq, not_true, if_false] using h1, by simp only [Rv]; exact ⟨r, h2, rfl⟩, h, h3⟩
      case sub =>
        obtain ⟨r, w', h1, h2, h3⟩ := run_fsub (P := P) hp hq w
        exact ⟨_, _, w', by simpa only [binOp, ne_eq, not_true, if_false] using h1, by simp only [Rv]; exact ⟨r, h2, rfl⟩, h, h3⟩
      case mul =>
        obtain ⟨r, w', h1, h2, h3⟩ := run_fmul (P := P) hp hq w
        exact ⟨_, _, w', by simpa only [binOp, ne_eq, not_true, if_false] using h1, by simp only [Rv]; exact ⟨r, h2, rfl⟩, h, h3⟩
      case quo =>
        obtain ⟨r, w', h1, h2, h3⟩ := run_fdiv (P := P) hp hq w
        exact ⟨_, _, w', by simpa only [binOp, ne_eq, not_true, if_false] using h1, by simp only [Rv]; exact ⟨r, h2, rfl⟩, h, h3⟩
      all_goals
        refine ⟨_, _, w, ?_, Rv_bool _, h, .refl w⟩
        have e := fcmp_den hp hq
        simp only [binOp, ne_eq, not_true, if_false, Op.floatCmp, Sem.run_pure, FloatKind.format, feq, fne, flt, fle, fgt, fge, ← e]
    | _ => cases op <;> exact h.elim
  | _ => cases op <;> exact h.elim

/-! ### Equality -/
theorem partO_sound {ty : TypeId} {d : TypeDesc} (hd : P.underlying ty = some d) {cs : List V} {xs : Array Value} {off : Nat} {v : V} (hr : Rvs n g cs xs.toList) (h : partO P ty cs off = some v) (w : World) :
    ∃ x, (part ty xs off).run P w = .ok x w ∧ Rv n g v x := by
  unfold partO at h
  rw [hd] at h
  have hl := Rvs_length hr
  cases hag : isAggD (some d) with
  | true =>
    simp only [hag] at h
    split at h
    · rename_i hle
      have hle : off + P.cellsOf ty ≤ cs.length := by simpa [lenL_eq] using hle
      simp only [Option.some.injEq] at h
      subst h
      refine ⟨.agg (xs.extract off (off + P.cellsOf ty)), ?_, ?_⟩
      · simp only [part, Sem.run_bind, run_isAgg w hd, hag, Result.andThen_ok, if_true, run_sizeOf' w hd, Sem.run_pure]
      · simp only [Rv]
        refine ⟨_, rfl, ?_⟩
        rw [takeL_eq, dropL_eq]
        simpa using Rvs_take (Rvs_drop hr off) (P.cellsOf ty)
    · exact absurd h (by simp)
  | false =>
    simp only [hag] at h
    split at h
    · rename_i hlt
      have hlt : off < cs.length := by simpa [ltL_eq] using hlt
      simp only [Option.some.injEq] at h
      subst h
      have := Rvs_getD hr off
      rw [getT_eq]
      refine ⟨xs.toList.getD off undef, ?_, this⟩
      have hx : xs[off]? = some (xs.toList.getD off undef) := by
        have : off < xs.size := by rw [← Array.length_toList]; omega
        simp [List.getD_eq_getElem?_getD, this]
      simp only [part, Sem.run_bind, run_isAgg w hd, hag, Result.andThen_ok, Bool.false_eq_true, if_false, hx, Sem.run_pure]
    · exact absurd h (by simp)
theorem run_equalIn_array (d : Nat) (t e : TypeId) (len : Nat) (xs ys : Array Value) (w : World) (ht : P.underlying t = some (.array len e)) {de : TypeDesc} (hde : P.underlying e = some de)
    (f : V → V → Option Bool) (hf : ∀ a b c x y w, f a b = some c → Rv n g a x → Rv n g b y → (Op.equalIn d e x y).run P w = .ok c w)
    {cs ds : List V} (hx : Rvs n g cs xs.toList) (hy : Rvs n g ds ys.toList) {c : Bool} (h : eqArr P f e cs ds len 0 = some c) :
    (Op.equalIn (d + 1) t (.agg xs) (.agg ys)).run P w = .ok c w := by
  simp only [Op.equalIn, Sem.run_bind, run_underlying' w ht, Result.andThen_ok, run_sizeOf' w hde]
  have key : ∀ (len i : Nat) (c : Bool), eqArr P f e cs ds len i = some c →
      ((forIn (List.range' i len) ((none, ()) : Option Bool × Unit) fun i _ => do
        let a ← part e xs (i * P.cellsOf e)
        let b ← part e ys (i * P.cellsOf e)
        let r ← Op.equalIn d e a b
        if (!r) = true then pure (ForInStep.done (some false, ())) else pure (ForInStep.yield (none, ()))).run P w) = .ok (if c then (none, ()) else (some false, ())) w := by
    intro len
    induction len with
    | zero => intro i c h; simp only [eqArr, Option.some.injEq] at h; subst h; simp
    | succ len ih =>
      intro i c h
      simp only [eqArr] at h
      split at h
      · rename_i a b ha hb
        split at h
        · rename_i p q hp hq
          simp only [Option.some.injEq] at h
          subst h
          obtain ⟨x, hx1, hx2⟩ := partO_sound hde hx ha w
          obtain ⟨y, hy1, hy2⟩ := partO_sound hde hy hb w
          have h3 := hf _ _ _ x y w hp hx2 hy2
          simp only [List.range'_succ, List.forIn_cons, Sem.run_bind, hx1, hy1, h3, Result.andThen_ok]
          cases p
          · simp
          · have := ih (i + 1) q hq
            simp only [Bool.not_true, Bool.false_eq_true, if_false, Sem.run_pure, Result.andThen_ok, Bool.true_and]
            exact this
        · exact absurd h (by simp)
      · exact absurd h (by simp)
  have := key len 0 c h
  simp only [Std.Legacy.Range.forIn_eq_forIn_range', Std.Legacy.Range.size]
  rw [show (len - 0 + 1 - 1) / 1 = len by simp, this]
  cases c <;> simp

theorem eqFs_sound (d : Nat) (f : TypeId → V → V → Option Bool) (hu : ∀ t a b c, f t a b = some c → ∃ d, P.underlying t = some d)
    (hf : ∀ t a b c x y w, f t a b = some c → Rv n g a x → Rv n g b y → (Op.equalIn d t x y).run P w = .ok c w)
    {cs ds : List V} {xs ys : Array Value} (hx : Rvs n g cs xs.toList) (hy : Rvs n g ds ys.toList) (w : World) :
    ∀ (fs : List Field) (c : Bool), eqFs P f cs ds fs = some c → (Op.eqFields d xs ys fs).run P w = .ok c w
  | [], c, h => by simp only [eqFs, Option.some.injEq] at h; subst h; simp [Op.eqFields]
  | e :: fs, c, h => by
    simp only [eqFs] at h
    split at h
    · rename_i a b hn ha hb
      split at h
      · rename_i p q hp hq
        simp only [Option.some.injEq] at h
        subst h
        obtain ⟨td, htd⟩ := hu _ _ _ _ hp
        obtain ⟨x, hx1, hx2⟩ := partO_sound htd hx ha w
        obtain ⟨y, hy1, hy2⟩ := partO_sound htd hy hb w
        have h3 := hf _ _ _ _ x y w hp hx2 hy2
        have hn : e.name ≠ "_" := by simpa using hn
        simp only [Op.eqFields, hn, ne_eq, not_false_iff, if_true, Sem.run_bind, hx1, hy1, h3, Result.andThen_ok]
        cases p
        · simp
        · simp only [Bool.not_true, Bool.false_eq_true, if_false, Bool.true_and]
          exact eqFs_sound d f hu hf hx hy w fs q hq
      · exact absurd h (by simp)
    · exact absurd h (by simp)
theorem eqT_under : ∀ (k : Nat) (t : TypeId) (x y : V) (b : Bool), eqT P k t x y = some b → ∃ d, P.underlying t = some d
  | 0, _, _, _, _, h => by simp [eqT] at h
  | k + 1, t, x, y, b, h => by
    unfold eqT at h
    cases hu : P.underlying t with
    | some d => exact ⟨d, rfl⟩
    | none => simp [hu] at h
theorem eqT_sound : ∀ (k : Nat) (d : Nat) (_ : k ≤ d) (t : TypeId) (x y : V) (b : Bool) (xv yv : Value) (w : World), eqT P k t x y = some b → Rv n g x xv → Rv n g y yv →
    (Op.equalIn d t xv yv).run P w = .ok b w
  | 0, _, _, _, _, _, _, _, _, _, h, _, _ => by simp [eqT] at h
  | k + 1, 0, hk, _, _, _, _, _, _, _, _, _, _ => by omega
  | k + 1, d + 1, hk, t, x, y, b, xv, yv, w, h, hx, hy => by
    unfold eqT at h
    split at h
    · rename_i k1 k2 a k3 c ht
      simp only [Rv] at hx hy; subst hx; subst hy
      split at h
      · rename_i hs
        have := sameKind_eq hs; subst this
        simp only [Option.some.injEq] at h; subst h
        simp only [Op.equalIn, Sem.run_bind, run_underlying' w ht, Result.andThen_ok, if_true, Sem.run_pure]
      · exact absurd h (by simp)
    · rename_i a c ht
      simp only [Rv] at hx hy; subst hx; subst hy
      simp only [Option.some.injEq] at h; subst h
      simp only [Op.equalIn, Sem.run_bind, run_underlying' w ht, Result.andThen_ok, Sem.run_pure]
    · rename_i a c ht
      simp only [Rv] at hx hy
      obtain ⟨p, hp, rfl⟩ := hx
      obtain ⟨q, hq, rfl⟩ := hy
      simp only [Option.some.injEq] at h; subst h
      have e := fcmp_den hp hq
      simp only [Op.equalIn, Sem.run_bind, run_underlying' w ht, Result.andThen_ok, if_true, Sem.run_pure, Op.floatEq, FloatKind.format, feq, ← e]
    · rename_i len e cs ds ht
      simp only [Rv] at hx hy
      obtain ⟨xs, rfl, hx⟩ := hx
      obtain ⟨ys, rfl, hy⟩ := hy
      cases hde : P.underlying e with
      | none => simp [hde] at h
      | some de =>
        simp only [hde] at h
        exact run_equalIn_array d t e len xs ys w ht hde (eqT P k e) (fun a b c x y w h1 h2 h3 => eqT_sound k d (by omega) e a b c x y w h1 h2 h3) hx hy h
    · rename_i fs cs ds ht
      simp only [Rv] at hx hy
      obtain ⟨xs, rfl, hx⟩ := hx
      obtain ⟨ys, rfl, hy⟩ := hy
      split at h
      · exact absurd h (by simp)
      · rename_i hs
        have hfo : P.fieldsOf t = fs := by simp [Program.fieldsOf, ht]
        rw [run_equalIn_agg (P := P) w d t xs ys (by rw [hfo]; exact ht) hs, hfo]
        exact eqFs_sound d (eqT P k) (fun t a b c h => eqT_under k t a b c h) (fun t a b c x y w h1 h2 h3 => eqT_sound k d (by omega) t a b c x y w h1 h2 h3) hx hy w _ _ h
    · exact absurd h (by simp)
end
end Go.Eng
/- The engine, part 7: one operation: what the evaluator says of it is what the model does. No condition. -/
namespace Go.Eng
open Go
section
variable {P : Program} {n : Nat} {g : Nat → Pl}

theorem noGuard_agg {op : BinOp} {t : TypeId} {x y : Operand} {xs ys : Array Value} (w : World) (h : P.eqGuardType P.depth t = false) : (eqGuard op t x y (.agg xs) (.agg ys)).run P w = .ok () w :=
  run_eqGuard_agg w op t x y xs ys h
theorem noGuard {op : BinOp} {t : TypeId} {x y : Operand} {a b : Value} (w : World) (h : ∀ xs, a ≠ .agg xs) (h' : a ≠ .nilIface) : (eqGuard op t x y a b).run P w = .ok () w := by
  unfold eqGuard
  cases op <;> simp only [Sem.run_pure, Bool.not_true, Bool.not_false, if_true, Bool.false_eq_true, if_false]
  all_goals
    cases a <;> first
      | exact absurd rfl h'
      | exact absurd rfl (h _)
      | rfl

/-- What is asked of an operation that hands back a value. -/
def Val (P : Program) (n : Nat) (g : Nat → Pl) (w : World) (K : V → Prop) (s : Sem Value) : Prop :=
  ∃ v r w', s.run P w = .ok r w' ∧ Rv n g v r ∧ K v ∧ Drew w w'
theorem Val.same {w : World} {K : V → Prop} {s : Sem Value} {v : V} {r : Value} (hk : K v) (hr : Rv n g v r) (h : s.run P w = .ok r w) : Val P n g w K s := ⟨v, r, w, h, hr, hk, .refl w⟩

theorem equalIn_ptr_nil {t e : TypeId} (d : Nat) (a : Addr) (w : World) (hu : P.underlying t = some (.pointer e)) : (Op.equalIn (d + 1) t (.pointer (some a)) (.pointer none)).run P w = .ok false w := by
  simp only [Op.equalIn, Sem.run_bind, run_underlying' w hu, Result.andThen_ok, Sem.run_pure]
theorem equalIn_nil_ptr {t e : TypeId} (d : Nat) (a : Option Addr) (w : World) (hu : P.underlying t = some (.pointer e)) : (Op.equalIn (d + 1) t (.pointer none) (.pointer a)).run P w = .ok a.isNone w := by
  simp only [Op.equalIn, Sem.run_bind, run_underlying' w hu, Result.andThen_ok, Sem.run_pure]
theorem blt_pos {k : Nat} (h : Nat.blt 0 k = true) : 0 < k := by simpa using h
theorem equalIn_slc_nil {t e : TypeId} (d : Nat) (a : Addr) (l c l' c' : Nat) (w : World) (hu : P.underlying t = some (.slice e)) : (Op.equalIn (d + 1) t (.slice (some a) l c) (.slice none l' c')).run P w = .ok false w := by
  simp only [Op.equalIn, Sem.run_bind, run_underlying' w hu, Result.andThen_ok, Sem.run_pure]
theorem equalIn_nil_slc {t e : TypeId} (d : Nat) (l c : Nat) (a : Option Addr) (l' c' : Nat) (w : World) (hu : P.underlying t = some (.slice e)) : (Op.equalIn (d + 1) t (.slice none l c) (.slice a l' c')).run P w = .ok a.isNone w := by
  simp only [Op.equalIn, Sem.run_bind, run_underlying' w hu, Result.andThen_ok, Sem.run_pure]
theorem equalIn_bools {t : TypeId} (d : Nat) (a b : Bool) (w : World) (hu : P.underlying t = some .bool) : (Op.equalIn (d + 1) t (.bool a) (.bool b)).run P w = .ok (a == b) w := by
  simp only [Op.equalIn, Sem.run_bind, run_underlying' w hu, Result.andThen_ok, Sem.run_pure]
theorem evEq_sound {t : TypeId} {x y : V} {xv yv : Value} {K : Bool → Prop} (xo yo : Operand) (op : BinOp) (hx : Rv n g x xv) (hy : Rv n g y yv) (h : evEq P t x y K) (w : World) :
    ∃ b, (Op.equal t xv yv).run P w = .ok b w ∧ K b ∧ (eqGuard op t xo yo xv yv).run P w = .ok () w := by
  unfold evEq at h
  split at h
  · rename_i cs ds
    have fin : ∀ b, P.eqGuardType P.depth t = false → eqT P 6 t (.agg cs) (.agg ds) = some b → K b → ∃ b, (Op.equal t xv yv).run P w = .ok b w ∧ K b ∧ (eqGuard op t xo yo xv yv).run P w = .ok () w := by
      intro b hg he h
      have h1 := eqT_sound 6 10000 (by decide) t _ _ b xv yv w he hx hy
      simp only [Rv] at hx hy
      obtain ⟨xs, rfl, _⟩ := hx
      obtain ⟨ys, rfl, _⟩ := hy
      exact ⟨b, h1, h, noGuard_agg w hg⟩
    split at h
    · obtain ⟨b, ⟨hg, he⟩, h⟩ := h
      exact fin b hg he h
    · split at h
      · rename_i b hg he
        exact fin b hg he h
      · exact h.elim
  all_goals try exact h.elim
  all_goals
    split at h
    · rename_i hp
      simp only [Rv] at hx hy
      cases hu : P.underlying t with
      | none => simp [hu, isPtrD, isSlcD] at hp
      | some d =>
        cases d <;> simp [hu, isPtrD, isSlcD] at hp
        first
          | (obtain ⟨_, _, rfl⟩ := hx; subst hy; exact ⟨_, equalIn_ptr_nil 9999 _ w hu, h, noGuard w (by simp) (by simp)⟩)
          | (obtain ⟨_, _, rfl⟩ := hy; subst hx; exact ⟨_, equalIn_nil_ptr 9999 _ w hu, h, noGuard w (by simp) (by simp)⟩)
          | (subst hx; subst hy; exact ⟨_, equalIn_nil_ptr 9999 _ w hu, h, noGuard w (by simp) (by simp)⟩)
          | (obtain ⟨h0, h⟩ := br_F h
             have h0 := blt_pos h0
             obtain ⟨_, _, ba, cap, rfl, _, h2⟩ := hx
             rw [h2 h0]
             subst hy
             exact ⟨_, equalIn_slc_nil 9999 _ _ _ _ _ w hu, h, noGuard w (by simp) (by simp)⟩)
          | (obtain ⟨h0, h⟩ := br_F h
             have h0 := blt_pos h0
             obtain ⟨_, _, ba, rfl, hc, h2⟩ := hx
             rw [h2 (by omega)]
             subst hy
             exact ⟨_, equalIn_slc_nil 9999 _ _ _ _ _ w hu, h, noGuard w (by simp) (by simp)⟩)
          | (obtain ⟨_, _, ba, cap, rfl, _, _⟩ := hx
             subst hy
             exact ⟨_, equalIn_slc_nil 9999 _ _ _ _ _ w hu, h, noGuard w (by simp) (by simp)⟩)
          | (subst hx; subst hy; exact ⟨_, equalIn_nil_slc 9999 _ _ _ _ _ w hu, h, noGuard w (by simp) (by simp)⟩)
          | (subst hx; subst hy; exact ⟨_, equalIn_slc_nil 9999 _ _ _ _ _ w hu, h, noGuard w (by simp) (by simp)⟩)
    · exact h.elim

theorem evBinary_sound {op : BinOp} {t : TypeId} {x y : V} {xv yv : Value} {K : V → Prop} (xo yo : Operand) (hx : Rv n g x xv) (hy : Rv n g y yv) (h : evBinary P op t x y K) (w : World) :
    Val P n g w K (do eqGuard op t xo yo xv yv; binOp op t xv yv) := by
  have base : evBin op x y K → (eqGuard op t xo yo xv yv).run P w = .ok () w → Val P n g w K (do eqGuard op t xo yo xv yv; binOp op t xv yv) := by
    intro h hg
    obtain ⟨v, r, w', h1, h2, h3, h4⟩ := evBin_sound (P := P) (ty := t) hx hy h w
    exact ⟨v, r, w', by simp only [Sem.run_bind, hg, Result.andThen_ok, h1], h2, h3, h4⟩
  have plain : (∀ xs, xv ≠ .agg xs) → xv ≠ .nilIface → evBin op x y K → Val P n g w K (do eqGuard op t xo yo xv yv; binOp op t xv yv) :=
    fun h1 h2 h => base h (noGuard w h1 h2)
  have agg : ∀ b : Bool, (Op.equal t xv yv).run P w = .ok b w → (eqGuard op t xo yo xv yv).run P w = .ok () w → (∀ k a, xv ≠ .int k a) → (∀ k a, xv ≠ .float k a) → (∀ k a c, xv ≠ .complex k a c) → (∀ a, xv ≠ .string a) →
      (op = .eql → K (.bool b)) → (op = .neq → K (.bool !b)) → (op = .eql ∨ op = .neq) → Val P n g w K (do eqGuard op t xo yo xv yv; binOp op t xv yv) := by
    intro b h1 h2 i1 i2 i3 i4 k1 k2 ho
    rcases ho with rfl | rfl
    · refine ⟨.bool b, .bool b, w, ?_, rfl, k1 rfl, .refl w⟩
      simp only [Sem.run_bind, h2, Result.andThen_ok]
      cases xv <;> first
        | exact absurd rfl (i1 _ _)
        | exact absurd rfl (i2 _ _)
        | exact absurd rfl (i3 _ _ _)
        | exact absurd rfl (i4 _)
        | (simp only [binOp, Sem.run_bind, h1, Result.andThen_ok, Sem.run_pure]; done)
    · refine ⟨.bool !b, .bool !b, w, ?_, rfl, k2 rfl, .refl w⟩
      simp only [Sem.run_bind, h2, Result.andThen_ok]
      cases xv <;> first
        | exact absurd rfl (i1 _ _)
        | exact absurd rfl (i2 _ _)
        | exact absurd rfl (i3 _ _ _)
        | exact absurd rfl (i4 _)
        | (simp only [binOp, Sem.run_bind, h1, Result.andThen_ok, Sem.run_pure]; done)
  unfold evBinary at h
  split at h
  · -- == on truths
    rename_i a b
    split at h
    · rename_i hu
      simp only [Rv] at hx hy; subst hx; subst hy
      exact agg (a == b) (equalIn_bools 9999 a b w hu) (noGuard w (by simp) (by simp)) (by simp) (by simp) (by simp) (by simp) (fun _ => h) (by simp) (.inl rfl)
    · exact h.elim
  · rename_i a b
    split at h
    · rename_i hu
      simp only [Rv] at hx hy; subst hx; subst hy
      exact agg (a == b) (equalIn_bools 9999 a b w hu) (noGuard w (by simp) (by simp)) (by simp) (by simp) (by simp) (by simp) (by simp) (fun _ => h) (.inr rfl)
    · exact h.elim
  · obtain ⟨b, h1, h2, h3⟩ := evEq_sound xo yo .eql hx hy h w
    simp only [Rv] at hx; obtain ⟨xs, rfl, _⟩ := hx
    exact agg b h1 h3 (by simp) (by simp) (by simp) (by simp) (fun _ => h2) (by simp) (.inl rfl)
  · obtain ⟨b, h1, h2, h3⟩ := evEq_sound xo yo .neq hx hy h w
    simp only [Rv] at hx; obtain ⟨xs, rfl, _⟩ := hx
    exact agg b h1 h3 (by simp) (by simp) (by simp) (by simp) (by simp) (fun _ => h2) (.inr rfl)
  · obtain ⟨b, h1, h2, h3⟩ := evEq_sound xo yo .eql hx hy h w
    simp only [Rv] at hx; obtain ⟨_, _, rfl⟩ := hx
    exact agg b h1 h3 (by simp) (by simp) (by simp) (by simp) (fun _ => h2) (by simp) (.inl rfl)
  · obtain ⟨b, h1, h2, h3⟩ := evEq_sound xo yo .neq hx hy h w
    simp only [Rv] at hx; obtain ⟨_, _, rfl⟩ := hx
    exact agg b h1 h3 (by simp) (by simp) (by simp) (by simp) (by simp) (fun _ => h2) (.inr rfl)
  · obtain ⟨b, h1, h2, h3⟩ := evEq_sound xo yo .eql hx hy h w
    simp only [Rv] at hx; subst hx
    unfold evEq at h
    split at h
    all_goals first
      | exact h.elim
      | (rename_i heq; injection heq with heq; subst heq
         exact agg b h1 h3 (by simp) (by simp) (by simp) (by simp) (fun _ => h2) (by simp) (.inl rfl))
      | (rename_i heq; cases heq; done)
      | (exact agg b h1 h3 (by simp) (by simp) (by simp) (by simp) (fun _ => h2) (by simp) (.inl rfl))
  · obtain ⟨b, h1, h2, h3⟩ := evEq_sound xo yo .neq hx hy h w
    simp only [Rv] at hx; subst hx
    unfold evEq at h
    split at h
    all_goals first
      | exact h.elim
      | (rename_i heq; injection heq with heq; subst heq
         exact agg b h1 h3 (by simp) (by simp) (by simp) (by simp) (by simp) (fun _ => h2) (.inr rfl))
      | (rename_i heq; cases heq; done)
      | (exact agg b h1 h3 (by simp) (by simp) (by simp) (by simp) (by simp) (fun _ => h2) (.inr rfl))
  · obtain ⟨b, h1, h2, h3⟩ := evEq_sound xo yo .eql hx hy h w
    simp only [Rv] at hx; obtain ⟨_, _, _, _, rfl, _⟩ := hx
    exact agg b h1 h3 (by simp) (by simp) (by simp) (by simp) (fun _ => h2) (by simp) (.inl rfl)
  · obtain ⟨b, h1, h2, h3⟩ := evEq_sound xo yo .neq hx hy h w
    simp only [Rv] at hx; obtain ⟨_, _, _, _, rfl, _⟩ := hx
    exact agg b h1 h3 (by simp) (by simp) (by simp) (by simp) (by simp) (fun _ => h2) (.inr rfl)
  · obtain ⟨b, h1, h2, h3⟩ := evEq_sound xo yo .eql hx hy h w
    simp only [Rv] at hx; obtain ⟨_, _, _, rfl, _⟩ := hx
    exact agg b h1 h3 (by simp) (by simp) (by simp) (by simp) (fun _ => h2) (by simp) (.inl rfl)
  · obtain ⟨b, h1, h2, h3⟩ := evEq_sound xo yo .neq hx hy h w
    simp only [Rv] at hx; obtain ⟨_, _, _, rfl, _⟩ := hx
    exact agg b h1 h3 (by simp) (by simp) (by simp) (by simp) (by simp) (fun _ => h2) (.inr rfl)
  · obtain ⟨b, h1, h2, h3⟩ := evEq_sound xo yo .eql hx hy h w
    simp only [Rv] at hx; obtain ⟨_, _, _, _, rfl, _⟩ := hx
    exact agg b h1 h3 (by simp) (by simp) (by simp) (by simp) (fun _ => h2) (by simp) (.inl rfl)
  · obtain ⟨b, h1, h2, h3⟩ := evEq_sound xo yo .neq hx hy h w
    simp only [Rv] at hx; obtain ⟨_, _, _, _, rfl, _⟩ := hx
    exact agg b h1 h3 (by simp) (by simp) (by simp) (by simp) (by simp) (fun _ => h2) (.inr rfl)
  · cases x with
    | int k a => simp only [Rv] at hx; subst hx; exact plain (by simp) (by simp) h
    | fl a => have hx' := hx; simp only [Rv] at hx'; obtain ⟨_, _, rfl⟩ := hx'; exact plain (by simp) (by simp) h
    | _ => cases op <;> exact h.elim

theorem evUn_sound {op : UnOp} {x : V} {xv : Value} {K : V → Prop} (hx : Rv n g x xv) (h : evUn op x K) (w : World) : Val P n g w K (Op.unary op xv) := by
  unfold evUn at h
  split at h
  · simp only [Rv] at hx; subst hx; exact .same h rfl (by simp [Op.unary])
  · simp only [Rv] at hx; subst hx; exact .same h rfl (by simp [Op.unary, Op.intArith])
  · rename_i k a
    simp only [Rv] at hx; subst hx
    refine .same h rfl ?_
    cases hk : k.signed <;> simp [Op.unary, Op.intBits, hk, bitV]
  · rename_i o
    simp only [Rv] at hx
    obtain ⟨b, hb, rfl⟩ := hx
    refine .same h (r := .float .f64 (Op.negFloat .f64 b)) ?_ (by simp [Op.unary])
    simp only [Rv]
    refine ⟨_, ?_, rfl⟩
    cases o with
    | some c => simp only [fden] at hb; subst hb; rfl
    | none =>
      obtain ⟨h1, h2⟩ := hb
      simp only [fneg, fden]
      have e1 : f64.signWeight = 2 ^ 63 := by decide
      have e2 : f64.infRung = 0x7ff0000000000000 := by decide
      rw [e1, e2] at h2
      have hx : Op.negFloat .f64 b = b ^^^ 2 ^ 63 := rfl
      rw [hx]
      refine ⟨Nat.xor_lt_two_pow h1 (by decide), ?_⟩
      rw [e1, e2, Nat.xor_mod_two_pow]
      simpa using h2
  · exact h.elim

theorem evConv_sound {s d : TypeId} {x : V} {xv : Value} {K : V → Prop} (hx : Rv n g x xv) (h : evConv P s d x K) (w : World) : Val P n g w K (convert s d xv) := by
  unfold evConv at h
  split at h
  · rename_i us k k' a hs hd
    simp only [Rv] at hx; subst hx
    refine .same h rfl ?_
    simp only [convert, Sem.run_bind, run_underlying' w hs, run_underlying' w hd, Result.andThen_ok]
    cases us <;> simp [Conv.intToInt]
  · rename_i us k' a hs hd
    simp only [Rv] at hx; subst hx
    refine .same h (r := .float .f64 (FloatKind.nearest .f64 a)) (by simp only [Rv]; exact ⟨_, rfl, rfl⟩) ?_
    simp only [convert, Sem.run_bind, run_underlying' w hs, run_underlying' w hd, Result.andThen_ok]
    cases us <;> simp [Conv.intToFloat]
  · rename_i us k o hs hd
    obtain ⟨a, h1, h2⟩ := h
    simp only [Rv] at hx
    obtain ⟨b, hb, rfl⟩ := hx
    cases o with
    | none => simp [fToI] at h1
    | some c =>
      simp only [fden] at hb; subst hb
      exact .same h2 rfl (run_convert_float_int w s d .f64 k b a (by simp [hs]) hd h1)
  · rename_i us o hs hd
    have hx' := hx
    simp only [Rv] at hx'
    obtain ⟨b, hb, rfl⟩ := hx'
    refine .same h hx ?_
    simp only [convert, Sem.run_bind, run_underlying' w hs, run_underlying' w hd, Result.andThen_ok]
    cases us <;> simp [Conv.floatToFloat]
  · exact h.elim
end
end Go.Eng
/- The engine, part 8: one operation, whatever it is. No condition. -/
namespace Go.Eng
open Go
set_option linter.unusedSimpArgs false
set_option linter.unusedVariables false
section
variable {P : Program} {ng : Nat} {g : Nat → Pl} {t : List V} {m : List Blk} {a : Act} {w : World}

def After (K : V → List Blk → Prop) (g : Nat → Pl) (m : List Blk) (w : World) (x : Value) (w' : World) : Prop :=
  ∃ v m' g', K v m' ∧ Rv m'.length g' v x ∧ Rep g' m' w' ∧ Step g m w g' m' w'
/-- What an operation must come to. -/
def Gets (P : Program) (K : V → List Blk → Prop) (g : Nat → Pl) (m : List Blk) (w : World) : Result Next → Prop
  | .ok (.value x) w' => After K g m w x w'
  | .ok .skip w' => After K g m w undef w'
  | .ok (.enter f xs) w1 => Calls P f xs w1 fun e w' => ∃ x, e = .returned x ∧ After K g m w x w'
  | _ => False

theorem Drew.rep {w w' : World} (h : Drew w w') (r : Rep g m w) : Rep g m w' := by
  obtain ⟨k, rfl⟩ := h; exact r.heap rfl
theorem Drew.step {w w' : World} (h : Drew w w') : Step g m w g m w' := by
  obtain ⟨k, rfl⟩ := h; exact .drawn _ _ _ _
theorem After.of {K : V → List Blk → Prop} {v : V} {x : Value} {w' : World} (S : Sim ng g t m a w) (hk : K v m) (hr : Rv m.length g v x) (hd : Drew w w') : After K g m w x w' :=
  ⟨v, m, g, hk, hr, hd.rep S.rep, hd.step⟩
theorem gets_val (S : Sim ng g t m a w) {K : V → List Blk → Prop} {s : Sem Value} (h : Val P m.length g w (fun v => K v m) s) :
    Gets P K g m w ((do pure (.value (← s)) : Sem Next).run P w) := by
  obtain ⟨v, r, w', h1, h2, h3, h4⟩ := h
  simp only [Sem.run_bind, h1, Result.andThen_ok, Sem.run_pure, Gets]
  exact .of S h3 h2 h4
theorem gets_ok (S : Sim ng g t m a w) {K : V → List Blk → Prop} {s : Sem Value} {v : V} {x : Value} (h : s.run P w = .ok x w) (hr : Rv m.length g v x) (hk : K v m) :
    Gets P K g m w ((do pure (.value (← s)) : Sem Next).run P w) := gets_val S (.same hk hr h)
theorem gets_new (S : Sim ng g t m a w) {K : V → List Blk → Prop} {s : Sem Value} {v : V} {x : Value} {b : B} {c : Array Value} {e : TypeId} (hpl : b.plain = true)
    (h : ∀ (j : Nat) (v : V), b.get j = some v → ∃ x, c[j]? = some x ∧ Rv m.length g v x)
    (hs : s.run P w = .ok x { w with heap := w.heap.push (.cells c e) }) (hr : Rv (m ++ [(⟨true, b⟩ : Blk)]).length (newAt g m.length w.heap.size) v x) (hk : K v (m ++ [⟨true, b⟩])) :
    Gets P K g m w ((do pure (.value (← s)) : Sem Next).run P w) := by
  obtain ⟨h1, h2⟩ := made S b c e hpl h
  simp only [Sem.run_bind, hs, Result.andThen_ok, Sem.run_pure, Gets]
  exact ⟨v, _, _, hk, hr, h1, h2⟩

theorem cells_get {cs : List V} {xs : Array Value} {n : Nat} (h : Rvs n g cs xs.toList) : ∀ (j : Nat) (v : V), (B.cells cs).get j = some v → ∃ x, xs[j]? = some x ∧ Rv n g v x := by
  intro j v hv
  obtain ⟨x, hx, hr⟩ := Rvs_get h hv
  exact ⟨x, by simpa using hx, hr⟩
theorem info_of_pos {e : TypeId} (h : 0 < P.cellsOf e) : ∃ i, P.info? e = some i := by
  unfold Program.cellsOf at h
  cases hi : P.info? e with
  | none => simp [hi] at h
  | some i => exact ⟨i, rfl⟩

theorem pasteL_sound {n : Nat} (off : Nat) : ∀ (vs : List V) (xs : List Value) (k : Nat) (z : List V) (cells : Array Value), Rvs n g z cells.toList → Rvs n g vs xs →
    Rvs n g (pasteL z (off + k) vs) ((xs.zipIdx k).foldl (fun cs (c, j) => cs.setIfInBounds (off + j) c) cells).toList
  | [], xs, k, z, cells, hz, hv => by simp [Rvs] at hv; subst hv; simpa [pasteL] using hz
  | v :: vs, xs, k, z, cells, hz, hv => by
    simp only [Rvs] at hv
    obtain ⟨y, ys, rfl, h1, h2⟩ := hv
    simp only [pasteL, List.zipIdx_cons, List.foldl_cons]
    have := pasteL_sound off vs ys (k + 1) (z.set (off + k) v) (cells.setIfInBounds (off + k) y) (by simpa using Rvs_set hz (off + k) h1) h2
    simpa [Nat.add_assoc] using this
theorem fillV_sound {n : Nat} {place : Nat → Option (Nat × Nat)} : ∀ (ps : List (Nat × V)) (qs : List (Nat × Value)) (z : List V) (cells : Array Value) {K : List V → Prop},
    qs.length = ps.length → (∀ (i : Nat) p q, ps[i]? = some p → qs[i]? = some q → q.1 = p.1 ∧ Rv n g p.2 q.2) → Rvs n g z cells.toList → fillV place z ps K →
    ∃ z' cells', Instr.fill place cells qs = some cells' ∧ Rvs n g z' cells'.toList ∧ K z'
  | [], qs, z, cells, K, hl, _, hz, h => by
    have : qs = [] := List.length_eq_zero_iff.1 (by simpa using hl)
    subst this
    exact ⟨z, cells, rfl, hz, h⟩
  | (i, v) :: ps, [], z, cells, K, hl, _, _, _ => by simp at hl
  | (i, v) :: ps, (i', x) :: qs, z, cells, K, hl, hr, hz, h => by
    obtain ⟨h1, h2⟩ := hr 0 _ _ rfl rfl
    simp only at h1 h2
    subst h1
    simp only [fillV] at h
    split at h
    · rename_i off sz hp
      obtain ⟨h3, h4⟩ := br_F h
      rw [fVs_eq] at h4
      simp only [Bool.and_eq_true, lenL_eq] at h3
      obtain ⟨⟨h5, h6⟩, h7⟩ := h3
      have h5 : v.cellsL.length = sz := by simpa using h5
      have h6 : off + v.cellsL.length ≤ z.length := by simpa using h6
      have hc := Rvs_cells h2 h7
      have hcl := Rvs_length hc
      have hzl := Rvs_length hz
      rw [Array.length_toList] at hcl hzl
      have hpaste := pasteL_sound (g := g) (n := n) off v.cellsL x.cells.toList 0 z cells hz hc
      obtain ⟨z', cells', k1, k2, k3⟩ := fillV_sound ps qs _ _ (by simpa using hl) (fun j p q e1 e2 => hr (j + 1) p q (by simpa using e1) (by simpa using e2)) hpaste h4
      refine ⟨z', cells', ?_, k2, k3⟩
      simp only [Instr.fill, hp]
      rw [if_neg (by simp only [Bool.or_eq_true, decide_eq_true_eq, not_or]; omega)]
      rw [← k1]
      congr 1
      rw [← Array.foldl_toList, Array.toList_zipIdx]
    · exact h.elim

theorem parts_rel (S : Sim ng g t m a w) (ps : Array (Nat × Operand)) : (ps.map fun (i, x) => (i, a.eval x)).toList.length = (ps.toList.map fun p => (p.1, evO ng t p.2)).length ∧
    ∀ (i : Nat) p q, (ps.toList.map fun p => (p.1, evO ng t p.2))[i]? = some p → (ps.map fun (i, x) => (i, a.eval x)).toList[i]? = some q → q.1 = p.1 ∧ Rv m.length g p.2 q.2 := by
  refine ⟨by simp, fun i p q h1 h2 => ?_⟩
  simp only [Array.toList_map, List.getElem?_map, Option.map_eq_some_iff] at h1 h2
  obtain ⟨⟨i1, o1⟩, e1, rfl⟩ := h1
  obtain ⟨⟨i2, o2⟩, e2, rfl⟩ := h2
  rw [e1] at e2; cases e2
  exact ⟨rfl, eval_Rv S o1⟩
theorem args_rel (S : Sim ng g t m a w) : ∀ os : List Operand, Rvs m.length g (os.map (evO ng t)) (os.map a.eval)
  | [] => by simp [Rvs]
  | o :: os => by simp only [List.map_cons, Rvs]; exact ⟨_, _, rfl, eval_Rv S o, args_rel S os⟩

theorem boundV_spec (S : Sim ng g t m a w) {lo hi d : Nat} {o : Option Operand} {K : Nat → Prop} (h : boundV ng t lo hi o d K) :
    (o = none ∧ K d) ∨ ∃ op k i, o = some op ∧ a.eval op = .int k (i : Nat) ∧ lo ≤ i ∧ i ≤ hi ∧ K i := by
  unfold boundV at h
  split at h
  · exact .inl ⟨rfl, h⟩
  · rename_i op
    split at h
    · rename_i k i he
      obtain ⟨h1, h2⟩ := br_F h
      simp only [decide_eq_true_eq] at h1
      have := eval_Rv S op
      rw [he] at this
      simp only [Rv] at this
      refine .inr ⟨op, k, i.toNat, rfl, by rw [this, Int.toNat_of_nonneg (by omega)], by omega, by omega, h2⟩
    · exact h.elim

theorem run_bound {x : Value} {k : IntKind} {i y : Nat} (code : BoundsCode) (hx : x = .int k (i : Nat)) (h : i ≤ y) : (Instr.sliceBound x y code).run P w = .ok i w := by
  subst hx
  simp only [Instr.sliceBound, asIntOf, Sem.run_bind, Sem.run_pure, Result.andThen_ok, Sem.run_ite]
  rw [if_pos (by omega)]
  simp
/-- The three bounds of a slice expression. -/
theorem bounds_sound (S : Sim ng g t m a w) {isSlice : Bool} {n cap d : Nat} {lo hi mx : Option Operand} {K : Nat → Nat → Nat → Prop} (hd : d ≤ n) (hc : n ≤ cap) (hm : ¬ (hi = none ∧ ∃ o, mx = some o))
    (h0 : boundV ng t 0 n mx n fun c => boundV ng t 0 c hi n fun h => boundV ng t 0 h lo 0 fun l => K c h l) :
    ∃ l h c m', (Instr.sliceBounds isSlice n cap (lo.map a.eval) (hi.map a.eval) (mx.map a.eval)).run P w = .ok (l, h, m') w ∧ K c h l ∧ l ≤ h ∧ h ≤ n ∧ h ≤ m' ∧ c ≤ n ∧ ((∃ o, mx = some o) → m' = c) := by
  rcases boundV_spec S h0 with ⟨rfl, h1⟩ | ⟨om, km, im, rfl, e1, _, l1, h1⟩
  · rcases boundV_spec S h1 with ⟨rfl, h2⟩ | ⟨oh, kh, ih, rfl, e2, _, l2, h2⟩
    · rcases boundV_spec S h2 with ⟨rfl, h3⟩ | ⟨ol, kl, il, rfl, e4, _, l4, h3⟩
      · exact ⟨0, n, n, cap, by simp [Instr.sliceBounds], h3, Nat.zero_le _, Nat.le_refl _, hc, Nat.le_refl _, fun ⟨_, h⟩ => nomatch h⟩
      · exact ⟨il, n, n, cap, by simp [Instr.sliceBounds, run_bound (P := P) (w := w) _ e4 l4], h3, l4, Nat.le_refl _, hc, Nat.le_refl _, fun ⟨_, h⟩ => nomatch h⟩
    · rcases boundV_spec S h2 with ⟨rfl, h3⟩ | ⟨ol, kl, il, rfl, e4, _, l4, h3⟩
      · exact ⟨0, ih, n, cap, by simp [Instr.sliceBounds, run_bound (P := P) (w := w) _ e2 (Nat.le_trans l2 hc)], h3, Nat.zero_le _, l2, Nat.le_trans l2 hc, Nat.le_refl _, fun ⟨_, h⟩ => nomatch h⟩
      · exact ⟨il, ih, n, cap, by simp [Instr.sliceBounds, run_bound (P := P) (w := w) _ e2 (Nat.le_trans l2 hc), run_bound (P := P) (w := w) _ e4 l4], h3, l4, l2, Nat.le_trans l2 hc, Nat.le_refl _, fun ⟨_, h⟩ => nomatch h⟩
  · rcases boundV_spec S h1 with ⟨rfl, h2⟩ | ⟨oh, kh, ih, rfl, e2, _, l2, h2⟩
    · exact absurd ⟨rfl, _, rfl⟩ hm
    · rcases boundV_spec S h2 with ⟨rfl, h3⟩ | ⟨ol, kl, il, rfl, e4, _, l4, h3⟩
      · refine ⟨0, ih, im, im, ?_, h3, Nat.zero_le _, Nat.le_trans l2 l1, l2, l1, fun _ => rfl⟩
        simp [Instr.sliceBounds, run_bound (P := P) (w := w) _ e1 (Nat.le_trans l1 hc), run_bound (P := P) (w := w) _ e2 l2]
      · refine ⟨il, ih, im, im, ?_, h3, l4, Nat.le_trans l2 l1, l2, l1, fun _ => rfl⟩
        simp [Instr.sliceBounds, run_bound (P := P) (w := w) _ e1 (Nat.le_trans l1 hc), run_bound (P := P) (w := w) _ e2 l2, run_bound (P := P) (w := w) _ e4 l4]
/-- The bounds, where the room is known. -/
theorem bounds_soundK (S : Sim ng g t m a w) {isSlice : Bool} {n cap : Nat} {lo hi mx : Option Operand} {K : Nat → Nat → Nat → Prop} (hc : n ≤ cap) (hm : ¬ (hi = none ∧ ∃ o, mx = some o))
    (h0 : boundV ng t 0 cap mx cap fun c => boundV ng t 0 c hi n fun h => boundV ng t 0 h lo 0 fun l => K c h l) :
    ∃ l h c, (Instr.sliceBounds isSlice n cap (lo.map a.eval) (hi.map a.eval) (mx.map a.eval)).run P w = .ok (l, h, c) w ∧ K c h l ∧ l ≤ h ∧ h ≤ c ∧ c ≤ cap := by
  rcases boundV_spec S h0 with ⟨rfl, h1⟩ | ⟨om, km, im, rfl, e1, _, l1, h1⟩
  · rcases boundV_spec S h1 with ⟨rfl, h2⟩ | ⟨oh, kh, ih, rfl, e2, _, l2, h2⟩
    · rcases boundV_spec S h2 with ⟨rfl, h3⟩ | ⟨ol, kl, il, rfl, e4, _, l4, h3⟩
      · exact ⟨0, n, cap, by simp [Instr.sliceBounds], h3, Nat.zero_le _, hc, Nat.le_refl _⟩
      · exact ⟨il, n, cap, by simp [Instr.sliceBounds, run_bound (P := P) (w := w) _ e4 l4], h3, l4, hc, Nat.le_refl _⟩
    · rcases boundV_spec S h2 with ⟨rfl, h3⟩ | ⟨ol, kl, il, rfl, e4, _, l4, h3⟩
      · exact ⟨0, ih, cap, by simp [Instr.sliceBounds, run_bound (P := P) (w := w) _ e2 l2], h3, Nat.zero_le _, l2, Nat.le_refl _⟩
      · exact ⟨il, ih, cap, by simp [Instr.sliceBounds, run_bound (P := P) (w := w) _ e2 l2, run_bound (P := P) (w := w) _ e4 l4], h3, l4, l2, Nat.le_refl _⟩
  · rcases boundV_spec S h1 with ⟨rfl, h2⟩ | ⟨oh, kh, ih, rfl, e2, _, l2, h2⟩
    · exact absurd ⟨rfl, _, rfl⟩ hm
    · rcases boundV_spec S h2 with ⟨rfl, h3⟩ | ⟨ol, kl, il, rfl, e4, _, l4, h3⟩
      · refine ⟨0, ih, im, ?_, h3, Nat.zero_le _, l2, l1⟩
        simp [Instr.sliceBounds, run_bound (P := P) (w := w) _ e1 l1, run_bound (P := P) (w := w) _ e2 l2]
      · refine ⟨il, ih, im, ?_, h3, l4, l2, l1⟩
        simp [Instr.sliceBounds, run_bound (P := P) (w := w) _ e1 l1, run_bound (P := P) (w := w) _ e2 l2, run_bound (P := P) (w := w) _ e4 l4]
end
end Go.Eng
/- The engine, part 9: one operation, whatever it is. No condition. -/
namespace Go.Eng
open Go
section
variable {P : Program} {ng : Nat} {g : Nat → Pl} {t : List V} {m : List Blk} {a : Act} {w : World} {K : V → List Blk → Prop}

theorem zeros_get {k : IntKind} {n j : Nat} : (B.ints k (List.replicate n 0)).get j = if j < n then some (.int k 0) else none := by
  simp only [B.get, List.getElem?_replicate]
  split <;> simp
theorem zerosf_get {n j : Nat} : (B.flts (List.replicate n 0)).get j = if j < n then some (.fl (some 0)) else none := by
  simp only [B.get, List.getElem?_replicate]
  split <;> simp
theorem zerosb_get {n j : Nat} : (B.bools (List.replicate n false)).get j = if j < n then some (.bool false) else none := by
  simp only [B.get, List.getElem?_replicate]
  split <;> simp
theorem zkind_int : ∀ (l : List V) (k : IntKind), zkind l = .int k → allZero l = true → ∀ v ∈ l, v = .int k 0
  | [], k, h, _ => by simp [zkind] at h
  | [.int k' a], k, h, hz => by
    simp only [zkind, Zero.int.injEq] at h; subst h
    unfold allZero at hz
    split at hz <;> simp_all
  | .int k' a :: b :: l, k, h, hz => by
    simp only [zkind] at h
    split at h
    · rename_i k'' hk
      split at h
      · rename_i hs
        simp only [Zero.int.injEq] at h; subst h
        have := sameKind_eq hs; subst this
        have hz2 : allZero (b :: l) = true ∧ a = 0 := by
          rw [allZero.eq_def] at hz
          split at hz <;> simp_all
        intro v hv
        cases hv with
        | head => rw [hz2.2]
        | tail _ hv => exact zkind_int (b :: l) _ hk hz2.1 v hv
      · exact absurd h (by simp)
    · exact absurd h (by simp)
  | .bool _ :: l, k, h, _ => by cases l <;> simp [zkind] at h
  | .fl _ :: l, k, h, _ => by
    cases l with
    | nil => simp [zkind] at h
    | cons b l => simp only [zkind] at h; split at h <;> simp at h
  | .raw _ :: l, k, h, _ => by cases l <;> simp [zkind] at h
  | .ptr _ _ :: l, k, h, _ => by cases l <;> simp [zkind] at h
  | .sl _ _ _ :: l, k, h, _ => by cases l <;> simp [zkind] at h
  | .agg _ :: l, k, h, _ => by cases l <;> simp [zkind] at h
  | .tup _ :: l, k, h, _ => by cases l <;> simp [zkind] at h
  | .clo _ _ _ :: l, k, h, _ => by cases l <;> simp [zkind] at h
  | .gp _ _ _ :: l, k, h, _ => by cases l <;> simp [zkind] at h
  | .gs _ _ _ _ :: l, k, h, _ => by cases l <;> simp [zkind] at h
  | .mp _ :: l, k, h, _ => by cases l <;> simp [zkind] at h
  | .any :: l, k, h, _ => by cases l <;> simp [zkind] at h
  | .sk _ _ _ _ :: l, k, h, _ => by cases l <;> simp [zkind] at h
theorem zkind_fl : ∀ (l : List V), zkind l = .fl → allZero l = true → ∀ v ∈ l, v = .fl (some 0)
  | [], h, _ => by simp [zkind] at h
  | [.fl a], h, hz => by
    unfold allZero at hz
    split at hz <;> simp_all
  | .fl a :: b :: l, h, hz => by
    simp only [zkind] at h
    split at h
    · rename_i hk
      have hz2 : allZero (b :: l) = true ∧ a = some 0 := by
        rw [allZero.eq_def] at hz
        split at hz <;> simp_all
      intro v hv
      cases hv with
      | head => rw [hz2.2]
      | tail _ hv => exact zkind_fl (b :: l) hk hz2.1 v hv
    · exact absurd h (by simp)
  | .int _ _ :: l, h, _ => by
    cases l with
    | nil => simp [zkind] at h
    | cons b l => simp only [zkind] at h; split at h <;> (try split at h) <;> simp at h
  | .bool _ :: l, h, _ => by cases l <;> simp [zkind] at h
  | .raw _ :: l, h, _ => by cases l <;> simp [zkind] at h
  | .ptr _ _ :: l, h, _ => by cases l <;> simp [zkind] at h
  | .sl _ _ _ :: l, h, _ => by cases l <;> simp [zkind] at h
  | .agg _ :: l, h, _ => by cases l <;> simp [zkind] at h
  | .tup _ :: l, h, _ => by cases l <;> simp [zkind] at h
  | .clo _ _ _ :: l, h, _ => by cases l <;> simp [zkind] at h
  | .gp _ _ _ :: l, h, _ => by cases l <;> simp [zkind] at h
  | .gs _ _ _ _ :: l, h, _ => by cases l <;> simp [zkind] at h
  | .mp _ :: l, h, _ => by cases l <;> simp [zkind] at h
  | .any :: l, h, _ => by cases l <;> simp [zkind] at h
  | .sk _ _ _ _ :: l, h, _ => by cases l <;> simp [zkind] at h
theorem zkind_bool : ∀ (l : List V), zkind l = .bool → allZero l = true → l = [.bool false]
  | [], h, _ => by simp [zkind] at h
  | [.bool b], h, hz => by cases b <;> simp_all [allZero]
  | .bool _ :: b :: l, h, _ => by simp [zkind] at h
  | .fl _ :: l, h, _ => by
    cases l with
    | nil => simp [zkind] at h
    | cons b l => simp only [zkind] at h; split at h <;> simp at h
  | .int _ _ :: l, h, _ => by
    cases l with
    | nil => simp [zkind] at h
    | cons b l => simp only [zkind] at h; split at h <;> (try split at h) <;> simp at h
  | .raw _ :: l, h, _ => by cases l <;> simp [zkind] at h
  | .ptr _ _ :: l, h, _ => by cases l <;> simp [zkind] at h
  | .sl _ _ _ :: l, h, _ => by cases l <;> simp [zkind] at h
  | .agg _ :: l, h, _ => by cases l <;> simp [zkind] at h
  | .tup _ :: l, h, _ => by cases l <;> simp [zkind] at h
  | .clo _ _ _ :: l, h, _ => by cases l <;> simp [zkind] at h
  | .gp _ _ _ :: l, h, _ => by cases l <;> simp [zkind] at h
  | .gs _ _ _ _ :: l, h, _ => by cases l <;> simp [zkind] at h
  | .mp _ :: l, h, _ => by cases l <;> simp [zkind] at h
  | .any :: l, h, _ => by cases l <;> simp [zkind] at h
  | .sk _ _ _ _ :: l, h, _ => by cases l <;> simp [zkind] at h

theorem zrow_sound {n : Nat} {e : TypeId} {c : Nat} {K : B → Prop} (h : zrow P e c K) (w : World) :
    ∃ b z, (zeroValue e).run P w = .ok z w ∧ K b ∧ b.plain = true ∧ ∀ (j : Nat) (v : V), b.get j = some v → ∃ x, ((Array.range (c * P.cellsOf e)).map (z.cells[· % z.cells.size]!))[j]? = some x ∧ Rv n g v x := by
  unfold zrow at h
  cases hz : zeroL P e with
  | none => simp [hz] at h
  | some zl =>
    simp only [hz] at h
    obtain ⟨z, h1, h2⟩ := run_zeroValue w hz
    have hr := h2 n g
    have hlen := Rvs_length hr
    rw [Array.length_toList] at hlen
    have key : ∀ (j : Nat) (v : V), j < c * P.cellsOf e → zl ≠ [] → (∀ u ∈ zl, u = v) → ∃ x, ((Array.range (c * P.cellsOf e)).map (z.cells[· % z.cells.size]!))[j]? = some x ∧ Rv n g v x := by
      intro j v hj hne hall
      have hpos : 0 < zl.length := by cases zl <;> simp_all
      have hjm : j % z.cells.size < z.cells.size := Nat.mod_lt _ (by omega)
      obtain ⟨x, hx, hrx⟩ := Rvs_get hr (i := j % z.cells.size) (v := zl[j % z.cells.size]'(by omega)) (by simp)
      have hv : zl[j % z.cells.size]'(by omega) = v := hall _ (List.getElem_mem _)
      rw [hv] at hrx
      refine ⟨x, ?_, hrx⟩
      rw [Array.getElem?_map, Array.getElem?_range, if_pos hj]
      simp only [Option.map_some, Option.some.injEq]
      rw [getElem!_pos z.cells _ hjm]
      have : z.cells[j % z.cells.size]? = some x := by simpa using hx
      rw [Array.getElem?_eq_getElem hjm] at this
      exact Option.some.inj this
    split at h
    · rename_i k ha hk
      refine ⟨_, z, h1, h, rfl, fun j v hv => ?_⟩
      rw [zeros_get] at hv
      split at hv
      · rename_i hj
        simp only [Option.some.injEq] at hv; subst hv
        exact key j _ hj (by rintro rfl; simp [zkind] at hk) (zkind_int zl k hk ha)
      · exact absurd hv (by simp)
    · rename_i ha hk
      refine ⟨_, z, h1, h, rfl, fun j v hv => ?_⟩
      rw [zerosf_get] at hv
      split at hv
      · rename_i hj
        simp only [Option.some.injEq] at hv; subst hv
        exact key j _ hj (by rintro rfl; simp [zkind] at hk) (zkind_fl zl hk ha)
      · exact absurd hv (by simp)
    · rename_i ha hk
      refine ⟨_, z, h1, h, rfl, fun j v hv => ?_⟩
      rw [zerosb_get] at hv
      split at hv
      · rename_i hj
        simp only [Option.some.injEq] at hv; subst hv
        have := zkind_bool zl hk ha
        exact key j _ hj (by rw [this]; simp) (by rw [this]; simp)
      · exact absurd hv (by simp)
    · exact h.elim

theorem maxV_sound {n : Nat} (gt : Bool) : ∀ (l : List V) (x : V) {K : V → Prop} (xs : List Value) (xv : Value), Rvs n g l xs → Rv n g x xv → (∃ k a, x = .int k a) → maxV gt l x K → ∀ w, 
    ∃ v r, ((xs.foldlM (if gt then Builtin.max2 else Builtin.min2) xv).run P w) = .ok r w ∧ Rv n g v r ∧ K v
  | [], x, K, xs, xv, hr, hx, _, h, w => by
    simp [Rvs] at hr; subst hr
    have h : K x := h
    exact ⟨x, xv, by simp, hx, h⟩
  | .int k' b :: l, x, K, xs, xv, hr, hx, ⟨k, a, e⟩, h, w => by
    subst e
    obtain ⟨h1, h2⟩ := br_F h
    have := sameKind_eq h1; subst this
    simp only [Rvs] at hr
    obtain ⟨y, ys, rfl, e1, e2⟩ := hr
    simp only [Rv] at e1 hx
    subst e1; subst hx
    cases gt with
    | true =>
      obtain ⟨v, r, q1, q2, q3⟩ := maxV_sound true l _ ys _ e2 (Rv_int k' _) ⟨_, _, rfl⟩ h2 w
      refine ⟨v, r, ?_, q2, q3⟩
      simp only [if_true] at q1
      simp only [List.foldlM_cons, if_true, Sem.run_bind, Builtin.max2, Sem.run_pure, Result.andThen_ok]
      exact q1
    | false =>
      obtain ⟨v, r, q1, q2, q3⟩ := maxV_sound false l _ ys _ e2 (Rv_int k' _) ⟨_, _, rfl⟩ h2 w
      refine ⟨v, r, ?_, q2, q3⟩
      simp only [Bool.false_eq_true, if_false] at q1
      simp only [List.foldlM_cons, Bool.false_eq_true, if_false, Sem.run_bind, Builtin.min2, Sem.run_pure, Result.andThen_ok]
      exact q1
  | .bool _ :: _, x, _, _, _, _, _, ⟨_, _, e⟩, h, _ => by subst e; exact h.elim
  | .fl _ :: _, x, _, _, _, _, _, ⟨_, _, e⟩, h, _ => by subst e; exact h.elim
  | .raw _ :: _, x, _, _, _, _, _, ⟨_, _, e⟩, h, _ => by subst e; exact h.elim
  | .ptr _ _ :: _, x, _, _, _, _, _, ⟨_, _, e⟩, h, _ => by subst e; exact h.elim
  | .sl _ _ _ :: _, x, _, _, _, _, _, ⟨_, _, e⟩, h, _ => by subst e; exact h.elim
  | .agg _ :: _, x, _, _, _, _, _, ⟨_, _, e⟩, h, _ => by subst e; exact h.elim
  | .tup _ :: _, x, _, _, _, _, _, ⟨_, _, e⟩, h, _ => by subst e; exact h.elim
  | .clo _ _ _ :: _, x, _, _, _, _, _, ⟨_, _, e⟩, h, _ => by subst e; exact h.elim
  | .gp _ _ _ :: _, x, _, _, _, _, _, ⟨_, _, e⟩, h, _ => by subst e; exact h.elim
  | .gs _ _ _ _ :: _, x, _, _, _, _, _, ⟨_, _, e⟩, h, _ => by subst e; exact h.elim
  | .mp _ :: _, x, _, _, _, _, _, ⟨_, _, e⟩, h, _ => by subst e; exact h.elim
  | .any :: _, x, _, _, _, _, _, ⟨_, _, e⟩, h, _ => by subst e; exact h.elim
  | .sk _ _ _ _ :: _, x, _, _, _, _, _, ⟨_, _, e⟩, h, _ => by subst e; exact h.elim
end
end Go.Eng
