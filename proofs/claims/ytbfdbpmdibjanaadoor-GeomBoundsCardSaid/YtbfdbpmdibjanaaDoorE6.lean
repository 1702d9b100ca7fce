/- The engine, part 6: operations on values: floats, whole numbers, equality. No condition. -/
import Derived.Test.YtbfdbpmdibjanaaDoorE5
namespace Go.Eng
open Go

/-! ### Floats -/
theorem read_nan {b : Nat} (h : nanB b) : ∃ s f, f64.read b = .nan s f := by
  obtain ⟨_, h2⟩ := h
  have h3 : f64.binade ≤ f64.infRung := by decide
  refine ⟨b / f64.signWeight % 2 == 1, b % f64.signWeight - f64.infRung, ?_⟩
  unfold Ieee.Format.read
  simp only
  rw [if_neg (by omega), if_neg (by omega), if_neg (by omega)]
theorem fop_nan_l {f : Nat → Nat → Option Nat} (hf : ∀ x y, nanB x → f x y = none) (hg : ∀ x y, nanB y → f x y = none) {a b : Option Nat} {x y : Nat} (ha : fden a x) (hb : fden b y) : f x y = fop2 f a b := by
  cases a with
  | none => simp only [fop2]; exact hf _ _ ha
  | some a =>
    cases b with
    | none => simp only [fop2]; exact hg _ _ hb
    | some b => simp only [fden] at ha hb; subst ha; subst hb; rfl
theorem add_nan_l (x y : Nat) (h : nanB x) : f64.add x y = none := by
  obtain ⟨s, f, e⟩ := read_nan h; simp [Ieee.Format.add, e, Ieee.Datum.sum]
theorem add_nan_r (x y : Nat) (h : nanB y) : f64.add x y = none := by
  obtain ⟨s, f, e⟩ := read_nan h; simp only [Ieee.Format.add, e]; cases f64.read x <;> simp [Ieee.Datum.sum]
theorem sub_nan_l (x y : Nat) (h : nanB x) : f64.sub x y = none := by
  obtain ⟨s, f, e⟩ := read_nan h; simp [Ieee.Format.sub, e, Ieee.Datum.sum]
theorem sub_nan_r (x y : Nat) (h : nanB y) : f64.sub x y = none := by
  obtain ⟨s, f, e⟩ := read_nan h; simp only [Ieee.Format.sub, e]; cases f64.read x <;> simp [Ieee.Datum.sum, Ieee.Datum.opposite]
theorem mul_nan_l (x y : Nat) (h : nanB x) : f64.mul x y = none := by
  obtain ⟨s, f, e⟩ := read_nan h; simp [Ieee.Format.mul, e, Ieee.Datum.product]
theorem mul_nan_r (x y : Nat) (h : nanB y) : f64.mul x y = none := by
  obtain ⟨s, f, e⟩ := read_nan h; simp only [Ieee.Format.mul, e]; cases f64.read x <;> simp [Ieee.Datum.product]
theorem div_nan_l (x y : Nat) (h : nanB x) : f64.div x y = none := by
  obtain ⟨s, f, e⟩ := read_nan h; simp [Ieee.Format.div, e, Ieee.Datum.quotient]
theorem div_nan_r (x y : Nat) (h : nanB y) : f64.div x y = none := by
  obtain ⟨s, f, e⟩ := read_nan h; simp only [Ieee.Format.div, e]; cases f64.read x <;> simp [Ieee.Datum.quotient]
theorem order_nan_l (x y : Nat) (h : nanB x) : f64.order x y = none := by
  obtain ⟨s, f, e⟩ := read_nan h; simp [Ieee.Format.order, e, Ieee.Datum.order]
theorem order_nan_r (x y : Nat) (h : nanB y) : f64.order x y = none := by
  obtain ⟨s, f, e⟩ := read_nan h; simp only [Ieee.Format.order, e]; cases f64.read x <;> simp [Ieee.Datum.order]
theorem fcmp_den {a b : Option Nat} {x y : Nat} (ha : fden a x) (hb : fden b y) : f64.order x y = fcmp a b := by
  cases a with
  | none => simp only [fcmp]; exact order_nan_l _ _ ha
  | some a =>
    cases b with
    | none => simp only [fcmp]; exact order_nan_r _ _ hb
    | some b => simp only [fden] at ha hb; subst ha; subst hb; rfl
theorem nan_cut (x y t : Nat) : nanB (Question.cut (.nanBits .f64 x y) t) := by
  simp only [Question.cut, nanB]
  have h1 : f64.infRung = 0x7ff0000000000000 := by decide
  have h2 : f64.signWeight = 2 ^ 63 := by decide
  rw [h1, h2]
  have h3 := Nat.mod_lt (t / 2) (show 0 < 2 ^ 52 - 1 by decide)
  have h4 := Nat.mod_lt t (show 0 < 2 by decide)
  generalize (t / 2) % (2 ^ 52 - 1) = r at *
  generalize t % 2 = s at *
  refine ⟨by omega, ?_⟩
  have : (s * 2 ^ 63 + 9218868437227405312 + 1 + r) % 2 ^ 63 = 9218868437227405312 + 1 + r := by
    rw [show s * 2 ^ 63 + 9218868437227405312 + 1 + r = (9218868437227405312 + 1 + r) + 2 ^ 63 * s by omega, Nat.add_mul_mod_self_left]
    exact Nat.mod_eq_of_lt (by omega)
  rw [this]; omega

/-- 'w' but for draws. -/
def Drew (w w' : World) : Prop := ∃ k, w' = { w with drawn := k }
theorem Drew.refl (w : World) : Drew w w := ⟨w.drawn, rfl⟩

section
variable {P : Program} {n : Nat} {g : Nat → Pl}
theorem run_fadd {a b : Option Nat} {x y : Nat} (ha : fden a x) (hb : fden b y) (w : World) :
    ∃ r w', (Op.floatArith .add .f64 x y).run P w = .ok (.float .f64 r) w' ∧ fden (fadd a b) r ∧ Drew w w' := by
  have e : f64.add x y = fadd a b := fop_nan_l add_nan_l add_nan_r ha hb
  rw [← e]
  unfold Op.floatArith
  cases hc : f64.add x y with
  | some r => exact ⟨r, w, by simp [FloatKind.format, hc], rfl, .refl w⟩
  | none => exact ⟨_, _, by simp [FloatKind.format, hc, Question.forced]; rfl, nan_cut x y (w.tape w.drawn (.nanBits .f64 x y)), ⟨_, rfl⟩⟩
theorem run_fsub {a b : Option Nat} {x y : Nat} (ha : fden a x) (hb : fden b y) (w : World) :
    ∃ r w', (Op.floatArith .sub .f64 x y).run P w = .ok (.float .f64 r) w' ∧ fden (fsub a b) r ∧ Drew w w' := by
  have e : f64.sub x y = fsub a b := fop_nan_l sub_nan_l sub_nan_r ha hb
  rw [← e]
  unfold Op.floatArith
  cases hc : f64.sub x y with
  | some r => exact ⟨r, w, by simp [FloatKind.format, hc], rfl, .refl w⟩
  | none => exact ⟨_, _, by simp [FloatKind.format, hc, Question.forced]; rfl, nan_cut x y (w.tape w.drawn (.nanBits .f64 x y)), ⟨_, rfl⟩⟩
theorem run_fmul {a b : Option Nat} {x y : Nat} (ha : fden a x) (hb : fden b y) (w : World) :
    ∃ r w', (Op.floatArith .mul .f64 x y).run P w = .ok (.float .f64 r) w' ∧ fden (fmul a b) r ∧ Drew w w' := by
  have e : f64.mul x y = fmul a b := fop_nan_l mul_nan_l mul_nan_r ha hb
  rw [← e]
  unfold Op.floatArith
  cases hc : f64.mul x y with
  | some r => exact ⟨r, w, by simp [FloatKind.format, hc], rfl, .refl w⟩
  | none => exact ⟨_, _, by simp [FloatKind.format, hc, Question.forced]; rfl, nan_cut x y (w.tape w.drawn (.nanBits .f64 x y)), ⟨_, rfl⟩⟩
theorem run_fdiv {a b : Option Nat} {x y : Nat} (ha : fden a x) (hb : fden b y) (w : World) :
    ∃ r w', (Op.floatArith .quo .f64 x y).run P w = .ok (.float .f64 r) w' ∧ fden (fdiv a b) r ∧ Drew w w' := by
  have e : f64.div x y = fdiv a b := fop_nan_l div_nan_l div_nan_r ha hb
  rw [← e]
  unfold Op.floatArith
  cases hc : f64.div x y with
  | some r => exact ⟨r, w, by simp [FloatKind.format, hc], rfl, .refl w⟩
  | none => exact ⟨_, _, by simp [FloatKind.format, hc, Question.forced]; rfl, nan_cut x y (w.tape w.drawn (.nanBits .f64 x y)), ⟨_, rfl⟩⟩
theorem Rv_int (k : IntKind) (a : Int) : Rv n g (.int k a) (.int k a) := rfl
theorem Rv_bool (b : Bool) : Rv n g (.bool b) (.bool b) := rfl
theorem evBin_sound {op : BinOp} {ty : TypeId} {x y : V} {xv yv : Value} {K : V → Prop} (hx : Rv n g x xv) (hy : Rv n g y yv) (h : evBin op x y K) (w : World) :
    ∃ v r w', (binOp op ty xv yv).run P w = .ok r w' ∧ Rv n g v r ∧ K v ∧ Drew w w' := by
  cases x with
  | int k a =>
    cases y with
    | int k' b =>
      simp only [Rv] at hx hy
      subst hx; subst hy
      cases op <;> simp only [evBin] at h <;> try exact h.elim
      case shl =>
        obtain ⟨h1, h2⟩ := br_F h
        have h1 : ¬ b < 0 := by simpa using h1
        refine ⟨_, _, w, ?_, Rv_int _ _, h2, .refl w⟩
        simp only [binOp, Op.shift, if_neg h1, Sem.run_pure]
        try rfl
      case shr =>
        obtain ⟨h1, h2⟩ := br_F h
        have h1 : ¬ b < 0 := by simpa using h1
        refine ⟨_, _, w, ?_, Rv_int _ _, h2, .refl w⟩
        simp only [binOp, Op.shift, if_neg h1, Sem.run_pure]
        try rfl
      case quo =>
        obtain ⟨h1, h2⟩ := br_F h
        obtain ⟨h3, h4⟩ := br_F h2
        have h3 : ¬ b = 0 := by simpa using h3
        have hk := sameKind_eq h1; subst hk
        refine ⟨_, _, w, ?_, Rv_int _ _, h4, .refl w⟩
        simp only [binOp, ne_eq, not_true, if_false, Op.intDiv, if_neg h3, Sem.run_pure]
        try rfl
      case rem =>
        obtain ⟨h1, h2⟩ := br_F h
        obtain ⟨h3, h4⟩ := br_F h2
        have h3 : ¬ b = 0 := by simpa using h3
        have hk := sameKind_eq h1; subst hk
        refine ⟨_, _, w, ?_, Rv_int _ _, h4, .refl w⟩
        simp only [binOp, ne_eq, not_true, if_false, Op.intDiv, if_neg h3, Sem.run_pure]
        try rfl
      all_goals
        obtain ⟨h1, h2⟩ := br_F h
        have hk := sameKind_eq h1; subst hk
        first
          | refine ⟨_, _, w, ?_, Rv_int _ _, h2, .refl w⟩
          | refine ⟨_, _, w, ?_, Rv_bool _, h2, .refl w⟩
        simp only [binOp, ne_eq, not_true, if_false, Op.intArith, Op.intBits, Op.intCmp, Sem.run_pure]
        try rfl
    | _ => cases op <;> exact h.elim
  | fl a =>
    cases y with
    | fl b =>
      simp only [Rv] at hx hy
      obtain ⟨p, hp, rfl⟩ := hx
      obtain ⟨q, hq, rfl⟩ := hy
      cases op <;> simp only [evBin] at h <;> first
        | exact h.elim
        | skip
      case add =>
        obtain ⟨r, w', h1, h2, h3⟩ := run_fadd (P := P) hp hq w
        exact ⟨_, _, w', by simpa only [binOp, ne_eq, not_true, if_false] using h1, by simp only [Rv]; exact ⟨r, h2, rfl⟩, h, h3⟩
      case sub =>
        obtain ⟨r, w', h1, h2, h3⟩ := run_fsub (P := P) hp hq w
        exact ⟨_, _, w', by simpa only [binOp, ne_eq, not_true, if_false] using h1, by simp only [Rv]; exact ⟨r, h2, rfl⟩, h, h3⟩
      case mul =>
        obtain ⟨r, w', h1, h2, h3⟩ := run_fmul (P := P) hp hq w
        exact ⟨_, _, w', by simpa only [binOp, ne_eq, not_true, if_false] using h1, by simp only [Rv]; exact ⟨r, h2, rfl⟩, h, h3⟩
      case quo =>
        obtain ⟨r, w', h1, h2, h3⟩ := run_fdiv (P := P) hp hq w
        exact ⟨_, _, w', by simpa only [binOp, ne_eq, not_true, if_false] using h1, by simp only [Rv]; exact ⟨r, h2, rfl⟩, h, h3⟩
      all_goals
        refine ⟨_, _, w, ?_, Rv_bool _, h, .refl w⟩
        have e := fcmp_den hp hq
        simp only [binOp, ne_eq, not_true, if_false, Op.floatCmp, Sem.run_pure, FloatKind.format, feq, fne, flt, fle, fgt, fge, ← e]
    | _ => cases op <;> exact h.elim
  | _ => cases op <;> exact h.elim

/-! ### Equality -/
theorem partO_sound {ty : TypeId} {d : TypeDesc} (hd : P.underlying ty = some d) {cs : List V} {xs : Array Value} {off : Nat} {v : V} (hr : Rvs n g cs xs.toList) (h : partO P ty cs off = some v) (w : World) :
    ∃ x, (part ty xs off).run P w = .ok x w ∧ Rv n g v x := by
  unfold partO at h
  rw [hd] at h
  have hl := Rvs_length hr
  cases hag : isAggD (some d) with
  | true =>
    simp only [hag] at h
    split at h
    · rename_i hle
      have hle : off + P.cellsOf ty ≤ cs.length := by simpa [lenL_eq] using hle
      simp only [Option.some.injEq] at h
      subst h
      refine ⟨.agg (xs.extract off (off + P.cellsOf ty)), ?_, ?_⟩
      · simp only [part, Sem.run_bind, run_isAgg w hd, hag, Result.andThen_ok, if_true, run_sizeOf' w hd, Sem.run_pure]
      · simp only [Rv]
        refine ⟨_, rfl, ?_⟩
        rw [takeL_eq, dropL_eq]
        simpa using Rvs_take (Rvs_drop hr off) (P.cellsOf ty)
    · exact absurd h (by simp)
  | false =>
    simp only [hag] at h
    split at h
    · rename_i hlt
      have hlt : off < cs.length := by simpa [ltL_eq] using hlt
      simp only [Option.some.injEq] at h
      subst h
      have := Rvs_getD hr off
      rw [getT_eq]
      refine ⟨xs.toList.getD off undef, ?_, this⟩
      have hx : xs[off]? = some (xs.toList.getD off undef) := by
        have : off < xs.size := by rw [← Array.length_toList]; omega
        simp [List.getD_eq_getElem?_getD, this]
      simp only [part, Sem.run_bind, run_isAgg w hd, hag, Result.andThen_ok, Bool.false_eq_true, if_false, hx, Sem.run_pure]
    · exact absurd h (by simp)
theorem partO_under {ty : TypeId} {cs : List V} {off : Nat} {f : V → V → Option Bool} {v u : V} {b : Bool} (hf : ∀ v u b, f v u = some b → ∃ d, P.underlying ty = some d) (h' : f v u = some b) (_ : partO P ty cs off = some v) : ∃ d, P.underlying ty = some d := hf _ _ _ h'

theorem run_equalIn_array (d : Nat) (t e : TypeId) (len : Nat) (xs ys : Array Value) (w : World) (ht : P.underlying t = some (.array len e)) {de : TypeDesc} (hde : P.underlying e = some de)
    (f : V → V → Option Bool) (hf : ∀ a b c x y w, f a b = some c → Rv n g a x → Rv n g b y → (Op.equalIn d e x y).run P w = .ok c w)
    {cs ds : List V} (hx : Rvs n g cs xs.toList) (hy : Rvs n g ds ys.toList) {c : Bool} (h : eqArr P f e cs ds len 0 = some c) :
    (Op.equalIn (d + 1) t (.agg xs) (.agg ys)).run P w = .ok c w := by
  simp only [Op.equalIn, Sem.run_bind, run_underlying' w ht, Result.andThen_ok, run_sizeOf' w hde]
  have key : ∀ (len i : Nat) (c : Bool), eqArr P f e cs ds len i = some c →
      ((forIn (List.range' i len) ((none, ()) : Option Bool × Unit) fun i _ => do
        let a ← part e xs (i * P.cellsOf e)
        let b ← part e ys (i * P.cellsOf e)
        let r ← Op.equalIn d e a b
        if (!r) = true then pure (ForInStep.done (some false, ())) else pure (ForInStep.yield (none, ()))).run P w) = .ok (if c then (none, ()) else (some false, ())) w := by
    intro len
    induction len with
    | zero => intro i c h; simp only [eqArr, Option.some.injEq] at h; subst h; simp
    | succ len ih =>
      intro i c h
      simp only [eqArr] at h
      split at h
      · rename_i a b ha hb
        split at h
        · rename_i p q hp hq
          simp only [Option.some.injEq] at h
          subst h
          obtain ⟨x, hx1, hx2⟩ := partO_sound hde hx ha w
          obtain ⟨y, hy1, hy2⟩ := partO_sound hde hy hb w
          have h3 := hf _ _ _ x y w hp hx2 hy2
          simp only [List.range'_succ, List.forIn_cons, Sem.run_bind, hx1, hy1, h3, Result.andThen_ok]
          cases p
          · simp
          · have := ih (i + 1) q hq
            simp only [Bool.not_true, Bool.false_eq_true, if_false, Sem.run_pure, Result.andThen_ok, Bool.true_and]
            exact this
        · exact absurd h (by simp)
      · exact absurd h (by simp)
  have := key len 0 c h
  simp only [Std.Legacy.Range.forIn_eq_forIn_range', Std.Legacy.Range.size]
  rw [show (len - 0 + 1 - 1) / 1 = len by simp, this]
  cases c <;> simp

theorem eqFs_sound (d : Nat) (f : TypeId → V → V → Option Bool) (hu : ∀ t a b c, f t a b = some c → ∃ d, P.underlying t = some d)
    (hf : ∀ t a b c x y w, f t a b = some c → Rv n g a x → Rv n g b y → (Op.equalIn d t x y).run P w = .ok c w)
    {cs ds : List V} {xs ys : Array Value} (hx : Rvs n g cs xs.toList) (hy : Rvs n g ds ys.toList) (w : World) :
    ∀ (fs : List Field) (c : Bool), eqFs P f cs ds fs = some c → (Op.eqFields d xs ys fs).run P w = .ok c w
  | [], c, h => by simp only [eqFs, Option.some.injEq] at h; subst h; simp [Op.eqFields]
  | e :: fs, c, h => by
    simp only [eqFs] at h
    split at h
    · rename_i a b hn ha hb
      split at h
      · rename_i p q hp hq
        simp only [Option.some.injEq] at h
        subst h
        obtain ⟨td, htd⟩ := hu _ _ _ _ hp
        obtain ⟨x, hx1, hx2⟩ := partO_sound htd hx ha w
        obtain ⟨y, hy1, hy2⟩ := partO_sound htd hy hb w
        have h3 := hf _ _ _ _ x y w hp hx2 hy2
        have hn : e.name ≠ "_" := by simpa using hn
        simp only [Op.eqFields, hn, ne_eq, not_false_iff, if_true, Sem.run_bind, hx1, hy1, h3, Result.andThen_ok]
        cases p
        · simp
        · simp only [Bool.not_true, Bool.false_eq_true, if_false, Bool.true_and]
          exact eqFs_sound d f hu hf hx hy w fs q hq
      · exact absurd h (by simp)
    · exact absurd h (by simp)
theorem eqT_under : ∀ (k : Nat) (t : TypeId) (x y : V) (b : Bool), eqT P k t x y = some b → ∃ d, P.underlying t = some d
  | 0, _, _, _, _, h => by simp [eqT] at h
  | k + 1, t, x, y, b, h => by
    unfold eqT at h
    cases hu : P.underlying t with
    | some d => exact ⟨d, rfl⟩
    | none => simp [hu] at h
theorem eqT_sound : ∀ (k : Nat) (d : Nat) (_ : k ≤ d) (t : TypeId) (x y : V) (b : Bool) (xv yv : Value) (w : World), eqT P k t x y = some b → Rv n g x xv → Rv n g y yv →
    (Op.equalIn d t xv yv).run P w = .ok b w
  | 0, _, _, _, _, _, _, _, _, _, h, _, _ => by simp [eqT] at h
  | k + 1, 0, hk, _, _, _, _, _, _, _, _, _, _ => by omega
  | k + 1, d + 1, hk, t, x, y, b, xv, yv, w, h, hx, hy => by
    unfold eqT at h
    split at h
    · rename_i k1 k2 a k3 c ht
      simp only [Rv] at hx hy; subst hx; subst hy
      split at h
      · rename_i hs
        have := sameKind_eq hs; subst this
        simp only [Option.some.injEq] at h; subst h
        simp only [Op.equalIn, Sem.run_bind, run_underlying' w ht, Result.andThen_ok, if_true, Sem.run_pure]
      · exact absurd h (by simp)
    · rename_i a c ht
      simp only [Rv] at hx hy; subst hx; subst hy
      simp only [Option.some.injEq] at h; subst h
      simp only [Op.equalIn, Sem.run_bind, run_underlying' w ht, Result.andThen_ok, Sem.run_pure]
    · rename_i a c ht
      simp only [Rv] at hx hy
      obtain ⟨p, hp, rfl⟩ := hx
      obtain ⟨q, hq, rfl⟩ := hy
      simp only [Option.some.injEq] at h; subst h
      have e := fcmp_den hp hq
      simp only [Op.equalIn, Sem.run_bind, run_underlying' w ht, Result.andThen_ok, if_true, Sem.run_pure, Op.floatEq, FloatKind.format, feq, ← e]
    · rename_i len e cs ds ht
      simp only [Rv] at hx hy
      obtain ⟨xs, rfl, hx⟩ := hx
      obtain ⟨ys, rfl, hy⟩ := hy
      cases hde : P.underlying e with
      | none => simp [hde] at h
      | some de =>
        simp only [hde] at h
        exact run_equalIn_array d t e len xs ys w ht hde (eqT P k e) (fun a b c x y w h1 h2 h3 => eqT_sound k d (by omega) e a b c x y w h1 h2 h3) hx hy h
    · rename_i fs cs ds ht
      simp only [Rv] at hx hy
      obtain ⟨xs, rfl, hx⟩ := hx
      obtain ⟨ys, rfl, hy⟩ := hy
      split at h
      · exact absurd h (by simp)
      · rename_i hs
        have hfo : P.fieldsOf t = fs := by simp [Program.fieldsOf, ht]
        rw [run_equalIn_agg (P := P) w d t xs ys (by rw [hfo]; exact ht) hs, hfo]
        exact eqFs_sound d (eqT P k) (fun t a b c h => eqT_under k t a b c h) (fun t a b c x y w h1 h2 h3 => eqT_sound k d (by omega) t a b c x y w h1 h2 h3) hx hy w _ _ h
    · exact absurd h (by simp)
end
end Go.Eng
