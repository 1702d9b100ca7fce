/- The engine, part 7: one operation: what the evaluator says of it is what the model does. No condition. -/
import Derived.Test.YtbfdbpmdibjanaaDoorE6
namespace Go.Eng
open Go
section
variable {P : Program} {n : Nat} {g : Nat → Pl}

theorem noGuard_agg {op : BinOp} {t : TypeId} {x y : Operand} {xs ys : Array Value} (w : World) (h : P.eqGuardType P.depth t = false) : (eqGuard op t x y (.agg xs) (.agg ys)).run P w = .ok () w :=
  run_eqGuard_agg w op t x y xs ys h
theorem noGuard {op : BinOp} {t : TypeId} {x y : Operand} {a b : Value} (w : World) (h : ∀ xs, a ≠ .agg xs) (h' : a ≠ .nilIface) : (eqGuard op t x y a b).run P w = .ok () w := by
  unfold eqGuard
  cases op <;> simp only [Sem.run_pure, Bool.not_true, Bool.not_false, if_true, Bool.false_eq_true, if_false]
  all_goals
    cases a <;> first
      | exact absurd rfl h'
      | exact absurd rfl (h _)
      | rfl

/-- What is asked of an operation that hands back a value. -/
def Val (P : Program) (n : Nat) (g : Nat → Pl) (w : World) (K : V → Prop) (s : Sem Value) : Prop :=
  ∃ v r w', s.run P w = .ok r w' ∧ Rv n g v r ∧ K v ∧ Drew w w'
theorem Val.same {w : World} {K : V → Prop} {s : Sem Value} {v : V} {r : Value} (hk : K v) (hr : Rv n g v r) (h : s.run P w = .ok r w) : Val P n g w K s := ⟨v, r, w, h, hr, hk, .refl w⟩

theorem equalIn_ptr_nil {t e : TypeId} (d : Nat) (a : Addr) (w : World) (hu : P.underlying t = some (.pointer e)) : (Op.equalIn (d + 1) t (.pointer (some a)) (.pointer none)).run P w = .ok false w := by
  simp only [Op.equalIn, Sem.run_bind, run_underlying' w hu, Result.andThen_ok, Sem.run_pure]
theorem equalIn_nil_ptr {t e : TypeId} (d : Nat) (a : Option Addr) (w : World) (hu : P.underlying t = some (.pointer e)) : (Op.equalIn (d + 1) t (.pointer none) (.pointer a)).run P w = .ok a.isNone w := by
  simp only [Op.equalIn, Sem.run_bind, run_underlying' w hu, Result.andThen_ok, Sem.run_pure]
theorem equalIn_bools {t : TypeId} (d : Nat) (a b : Bool) (w : World) (hu : P.underlying t = some .bool) : (Op.equalIn (d + 1) t (.bool a) (.bool b)).run P w = .ok (a == b) w := by
  simp only [Op.equalIn, Sem.run_bind, run_underlying' w hu, Result.andThen_ok, Sem.run_pure]
theorem equal_is (t : TypeId) (x y : Value) : Op.equal t x y = Op.equalIn (9999 + 1) t x y := rfl

theorem evEq_sound {t : TypeId} {x y : V} {xv yv : Value} {K : Bool → Prop} (xo yo : Operand) (op : BinOp) (hx : Rv n g x xv) (hy : Rv n g y yv) (h : evEq P t x y K) (w : World) :
    ∃ b, (Op.equal t xv yv).run P w = .ok b w ∧ K b ∧ (eqGuard op t xo yo xv yv).run P w = .ok () w := by
  unfold evEq at h
  split at h
  · rename_i cs ds
    have fin : ∀ b, P.eqGuardType P.depth t = false → eqT P 6 t (.agg cs) (.agg ds) = some b → K b → ∃ b, (Op.equal t xv yv).run P w = .ok b w ∧ K b ∧ (eqGuard op t xo yo xv yv).run P w = .ok () w := by
      intro b hg he h
      have h1 := eqT_sound 6 10000 (by decide) t _ _ b xv yv w he hx hy
      simp only [Rv] at hx hy
      obtain ⟨xs, rfl, _⟩ := hx
      obtain ⟨ys, rfl, _⟩ := hy
      exact ⟨b, h1, h, noGuard_agg w hg⟩
    split at h
    · obtain ⟨b, ⟨hg, he⟩, h⟩ := h
      exact fin b hg he h
    · split at h
      · rename_i b hg he
        exact fin b hg he h
      · exact h.elim
  all_goals try exact h.elim
  all_goals
    split at h
    · rename_i hp
      simp only [Rv] at hx hy
      cases hu : P.underlying t with
      | none => simp [hu, isPtrD] at hp
      | some d =>
        cases d <;> simp [hu, isPtrD] at hp
        first
          | (obtain ⟨_, _, rfl⟩ := hx; subst hy; exact ⟨_, equalIn_ptr_nil 9999 _ w hu, h, noGuard w (by simp) (by simp)⟩)
          | (obtain ⟨_, _, rfl⟩ := hy; subst hx; exact ⟨_, equalIn_nil_ptr 9999 _ w hu, h, noGuard w (by simp) (by simp)⟩)
          | (subst hx; subst hy; exact ⟨_, equalIn_nil_ptr 9999 _ w hu, h, noGuard w (by simp) (by simp)⟩)
    · exact h.elim

theorem evBinary_sound {op : BinOp} {t : TypeId} {x y : V} {xv yv : Value} {K : V → Prop} (xo yo : Operand) (hx : Rv n g x xv) (hy : Rv n g y yv) (h : evBinary P op t x y K) (w : World) :
    Val P n g w K (do eqGuard op t xo yo xv yv; binOp op t xv yv) := by
  have base : evBin op x y K → (eqGuard op t xo yo xv yv).run P w = .ok () w → Val P n g w K (do eqGuard op t xo yo xv yv; binOp op t xv yv) := by
    intro h hg
    obtain ⟨v, r, w', h1, h2, h3, h4⟩ := evBin_sound (P := P) (ty := t) hx hy h w
    exact ⟨v, r, w', by simp only [Sem.run_bind, hg, Result.andThen_ok, h1], h2, h3, h4⟩
  have plain : (∀ xs, xv ≠ .agg xs) → xv ≠ .nilIface → evBin op x y K → Val P n g w K (do eqGuard op t xo yo xv yv; binOp op t xv yv) :=
    fun h1 h2 h => base h (noGuard w h1 h2)
  have agg : ∀ b : Bool, (Op.equal t xv yv).run P w = .ok b w → (eqGuard op t xo yo xv yv).run P w = .ok () w → (∀ k a, xv ≠ .int k a) → (∀ k a, xv ≠ .float k a) → (∀ k a c, xv ≠ .complex k a c) → (∀ a, xv ≠ .string a) →
      (op = .eql → K (.bool b)) → (op = .neq → K (.bool !b)) → (op = .eql ∨ op = .neq) → Val P n g w K (do eqGuard op t xo yo xv yv; binOp op t xv yv) := by
    intro b h1 h2 i1 i2 i3 i4 k1 k2 ho
    rcases ho with rfl | rfl
    · refine ⟨.bool b, .bool b, w, ?_, rfl, k1 rfl, .refl w⟩
      simp only [Sem.run_bind, h2, Result.andThen_ok]
      cases xv <;> first
        | exact absurd rfl (i1 _ _)
        | exact absurd rfl (i2 _ _)
        | exact absurd rfl (i3 _ _ _)
        | exact absurd rfl (i4 _)
        | (simp only [binOp, Sem.run_bind, h1, Result.andThen_ok, Sem.run_pure]; done)
    · refine ⟨.bool !b, .bool !b, w, ?_, rfl, k2 rfl, .refl w⟩
      simp only [Sem.run_bind, h2, Result.andThen_ok]
      cases xv <;> first
        | exact absurd rfl (i1 _ _)
        | exact absurd rfl (i2 _ _)
        | exact absurd rfl (i3 _ _ _)
        | exact absurd rfl (i4 _)
        | (simp only [binOp, Sem.run_bind, h1, Result.andThen_ok, Sem.run_pure]; done)
  unfold evBinary at h
  split at h
  · -- == on truths
    rename_i a b
    split at h
    · rename_i hu
      simp only [Rv] at hx hy; subst hx; subst hy
      exact agg (a == b) (equalIn_bools 9999 a b w hu) (noGuard w (by simp) (by simp)) (by simp) (by simp) (by simp) (by simp) (fun _ => h) (by simp) (.inl rfl)
    · exact h.elim
  · rename_i a b
    split at h
    · rename_i hu
      simp only [Rv] at hx hy; subst hx; subst hy
      exact agg (a == b) (equalIn_bools 9999 a b w hu) (noGuard w (by simp) (by simp)) (by simp) (by simp) (by simp) (by simp) (by simp) (fun _ => h) (.inr rfl)
    · exact h.elim
  · obtain ⟨b, h1, h2, h3⟩ := evEq_sound xo yo .eql hx hy h w
    simp only [Rv] at hx; obtain ⟨xs, rfl, _⟩ := hx
    exact agg b h1 h3 (by simp) (by simp) (by simp) (by simp) (fun _ => h2) (by simp) (.inl rfl)
  · obtain ⟨b, h1, h2, h3⟩ := evEq_sound xo yo .neq hx hy h w
    simp only [Rv] at hx; obtain ⟨xs, rfl, _⟩ := hx
    exact agg b h1 h3 (by simp) (by simp) (by simp) (by simp) (by simp) (fun _ => h2) (.inr rfl)
  · obtain ⟨b, h1, h2, h3⟩ := evEq_sound xo yo .eql hx hy h w
    simp only [Rv] at hx; obtain ⟨_, _, rfl⟩ := hx
    exact agg b h1 h3 (by simp) (by simp) (by simp) (by simp) (fun _ => h2) (by simp) (.inl rfl)
  · obtain ⟨b, h1, h2, h3⟩ := evEq_sound xo yo .neq hx hy h w
    simp only [Rv] at hx; obtain ⟨_, _, rfl⟩ := hx
    exact agg b h1 h3 (by simp) (by simp) (by simp) (by simp) (by simp) (fun _ => h2) (.inr rfl)
  · obtain ⟨b, h1, h2, h3⟩ := evEq_sound xo yo .eql hx hy h w
    simp only [Rv] at hx; subst hx
    unfold evEq at h
    split at h
    all_goals first
      | exact h.elim
      | (rename_i heq; injection heq with heq; subst heq
         exact agg b h1 h3 (by simp) (by simp) (by simp) (by simp) (fun _ => h2) (by simp) (.inl rfl))
      | (rename_i heq; cases heq; done)
      | (exact agg b h1 h3 (by simp) (by simp) (by simp) (by simp) (fun _ => h2) (by simp) (.inl rfl))
  · obtain ⟨b, h1, h2, h3⟩ := evEq_sound xo yo .neq hx hy h w
    simp only [Rv] at hx; subst hx
    unfold evEq at h
    split at h
    all_goals first
      | exact h.elim
      | (rename_i heq; injection heq with heq; subst heq
         exact agg b h1 h3 (by simp) (by simp) (by simp) (by simp) (by simp) (fun _ => h2) (.inr rfl))
      | (rename_i heq; cases heq; done)
      | (exact agg b h1 h3 (by simp) (by simp) (by simp) (by simp) (by simp) (fun _ => h2) (.inr rfl))
  · cases x with
    | int k a => simp only [Rv] at hx; subst hx; exact plain (by simp) (by simp) h
    | fl a => have hx' := hx; simp only [Rv] at hx'; obtain ⟨_, _, rfl⟩ := hx'; exact plain (by simp) (by simp) h
    | _ => cases op <;> exact h.elim

theorem evUn_sound {op : UnOp} {x : V} {xv : Value} {K : V → Prop} (hx : Rv n g x xv) (h : evUn op x K) (w : World) : Val P n g w K (Op.unary op xv) := by
  unfold evUn at h
  split at h
  · simp only [Rv] at hx; subst hx; exact .same h rfl (by simp [Op.unary])
  · simp only [Rv] at hx; subst hx; exact .same h rfl (by simp [Op.unary, Op.intArith])
  · rename_i k a
    simp only [Rv] at hx; subst hx
    refine .same h rfl ?_
    cases hk : k.signed <;> simp [Op.unary, Op.intBits, hk, bitV]
  · rename_i o
    simp only [Rv] at hx
    obtain ⟨b, hb, rfl⟩ := hx
    refine .same h (r := .float .f64 (Op.negFloat .f64 b)) ?_ (by simp [Op.unary])
    simp only [Rv]
    refine ⟨_, ?_, rfl⟩
    cases o with
    | some c => simp only [fden] at hb; subst hb; rfl
    | none =>
      obtain ⟨h1, h2⟩ := hb
      simp only [fneg, fden]
      have e1 : f64.signWeight = 2 ^ 63 := by decide
      have e2 : f64.infRung = 0x7ff0000000000000 := by decide
      rw [e1, e2] at h2
      have hx : Op.negFloat .f64 b = b ^^^ 2 ^ 63 := rfl
      rw [hx]
      refine ⟨Nat.xor_lt_two_pow h1 (by decide), ?_⟩
      rw [e1, e2, Nat.xor_mod_two_pow]
      simpa using h2
  · exact h.elim

theorem evConv_sound {s d : TypeId} {x : V} {xv : Value} {K : V → Prop} (hx : Rv n g x xv) (h : evConv P s d x K) (w : World) : Val P n g w K (convert s d xv) := by
  unfold evConv at h
  split at h
  · rename_i us k k' a hs hd
    simp only [Rv] at hx; subst hx
    refine .same h rfl ?_
    simp only [convert, Sem.run_bind, run_underlying' w hs, run_underlying' w hd, Result.andThen_ok]
    cases us <;> simp [Conv.intToInt]
  · rename_i us k' a hs hd
    simp only [Rv] at hx; subst hx
    refine .same h (r := .float .f64 (FloatKind.nearest .f64 a)) (by simp only [Rv]; exact ⟨_, rfl, rfl⟩) ?_
    simp only [convert, Sem.run_bind, run_underlying' w hs, run_underlying' w hd, Result.andThen_ok]
    cases us <;> simp [Conv.intToFloat]
  · rename_i us k o hs hd
    obtain ⟨a, h1, h2⟩ := h
    simp only [Rv] at hx
    obtain ⟨b, hb, rfl⟩ := hx
    cases o with
    | none => simp [fToI] at h1
    | some c =>
      simp only [fden] at hb; subst hb
      exact .same h2 rfl (run_convert_float_int w s d .f64 k b a (by simp [hs]) hd h1)
  · rename_i us o hs hd
    have hx' := hx
    simp only [Rv] at hx'
    obtain ⟨b, hb, rfl⟩ := hx'
    refine .same h hx ?_
    simp only [convert, Sem.run_bind, run_underlying' w hs, run_underlying' w hd, Result.andThen_ok]
    cases us <;> simp [Conv.floatToFloat]
  · exact h.elim
end
end Go.Eng
