/- Package bits, sum and vec on the bits of floats. No condition. -/
import Derived.Test.YtgoljofmbidkfaaGreatDoorB
namespace Go.Proofs.YtgoljofmbidkfaaGreatDoor
open Go Go.Eng
set_option maxRecDepth 100000
set_option linter.unusedSimpArgs false
set_option linter.unusedVariables false

abbrev F (b : Nat) : V := .fl (some b)
abbrev U (n : Int) : V := .int .u64 n
theorem f64bits_ok (b : Nat) (m : List Blk) : COk Tryz.prog 3 81 [F b] m (U b) m := by
  refine COk_ext fun n g w xs h => ?_
  obtain ⟨y, ys, rfl, ⟨c, rfl, rfl⟩, rfl⟩ := h
  refine ⟨.int .u64 c, w, by kernel_rfl, rfl, Drew.refl w⟩
theorem frombits_ok (b : Nat) (m : List Blk) : COk Tryz.prog 3 132 [U b] m (F b) m := by
  refine COk_ext fun n g w xs h => ?_
  obtain ⟨y, ys, rfl, rfl, rfl⟩ := h
  refine ⟨.float .f64 b, w, by kernel_rfl, ⟨b, rfl, rfl⟩, Drew.refl w⟩
def qn : Nat := 9221120237041090561
theorem quiet_ok (m : List Blk) : COk Tryz.prog 3 133 [] m (F qn) m := by
  refine COk_quiet Tryz.f133 Tryz.func133 (by kernel_rfl) rfl ?_
  conv => whnf
  refine ⟨_, _, frombits_ok _ _, ?_⟩
  conv => whnf
  exact ⟨rfl, [], by simp⟩
def canonF (o : Option Nat) : Nat := if fne o o = true then qn else if feq o (some 0) = true then 0 else o.getD 0
theorem canonF_none : canonF none = qn := rfl
theorem canon_ok (o : Option Nat) (m : List Blk) : COk Tryz.prog 3 88 [.fl o] m (F (canonF o)) m := by
  refine COk_quiet Tryz.f88 Tryz.func88 (by kernel_rfl) rfl ?_
  conv => whnf
  refine br_intro (fun h => ?_) (fun h => ?_) <;> conv => whnf
  · refine ⟨_, _, quiet_ok _, ?_⟩
    conv => whnf
    exact ⟨by rw [canonF, if_pos h], [], by simp⟩
  refine br_intro (fun h' => ?_) (fun h' => ?_) <;> conv => whnf
  · exact ⟨by rw [canonF, if_neg (by rw [h]; decide), if_pos h'], [], by simp⟩
  · refine ⟨?_, [], by simp⟩
    rw [canonF, if_neg (by rw [h]; decide), if_neg (by rw [h']; decide)]
    cases o with
    | none => exact nomatch h
    | some b => rfl
theorem vcanon_ok (a b c : Option Nat) (x : List Blk) : COk Tryz.prog 3 167 [.fl a, .fl b, .fl c] (GG x) (.agg [F (canonF a), F (canonF b), F (canonF c)]) (GG x) := by
  refine lift ?_ rfl x
  refine COk_quiet Tryz.f167 Tryz.func167 (by kernel_rfl) rfl ?_
  conv => whnf
  refine ⟨_, _, canon_ok _ _, ?_⟩
  conv => whnf
  refine ⟨_, _, canon_ok _ _, ?_⟩
  conv => whnf
  refine ⟨_, _, canon_ok _ _, ?_⟩
  conv => whnf
  exact ⟨rfl, _, rfl⟩
/-- A vector of floats. -/
abbrev V3f (a b c : Nat) : V := .agg [F a, F b, F c]
structure W where
  x : Nat
  y : Nat
  z : Nat
deriving DecidableEq
abbrev W.v (a : W) : V := V3f a.x a.y a.z
def minusF (a b : W) : W := ⟨canonF (fsub (some a.x) (some b.x)), canonF (fsub (some a.y) (some b.y)), canonF (fsub (some a.z) (some b.z))⟩
theorem minus_ok (a b : W) (x : List Blk) : COk Tryz.prog 3 148 [a.v, b.v] (GG x) (minusF a b).v (GG x) := by
  refine lift ?_ rfl x
  refine COk_quiet Tryz.f148 Tryz.func148 (by kernel_rfl) rfl ?_
  conv => whnf
  refine ⟨_, _, vcanon_ok _ _ _ _, ?_⟩
  conv => whnf
  exact ⟨rfl, _, rfl⟩
def crossF (a b : W) : W :=
  ⟨canonF (fsub (fmul (some a.y) (some b.z)) (fmul (some a.z) (some b.y))), canonF (fsub (fmul (some a.z) (some b.x)) (fmul (some a.x) (some b.z))), canonF (fsub (fmul (some a.x) (some b.y)) (fmul (some a.y) (some b.x)))⟩
theorem vcross_ok (a b : W) (x : List Blk) : COk Tryz.prog 3 147 [a.v, b.v] (GG x) (crossF a b).v (GG x) := by
  refine lift ?_ rfl x
  refine COk_quiet Tryz.f147 Tryz.func147 (by kernel_rfl) rfl ?_
  conv => whnf
  refine ⟨_, _, vcanon_ok _ _ _ _, ?_⟩
  conv => whnf
  exact ⟨rfl, _, rfl⟩
/-! ### The order in which three numbers are added -/
def magW (b : Nat) : Int := IntKind.u64.wrap ((b : Int) * 2)
theorem magnitude_ok (b : Nat) (m : List Blk) : COk Tryz.prog 3 186 [F b] m (U (magW b)) m := by
  refine COk_quiet Tryz.f186 Tryz.func186 (by kernel_rfl) rfl ?_
  conv => whnf
  refine ⟨_, _, f64bits_ok _ _, ?_⟩
  conv => whnf
  exact ⟨rfl, [], by simp⟩
def cmpI (a b : Int) : Int := if a < b then -1 else if a > b then 1 else 0
theorem isnan64_ok (a : Int) (m : List Blk) : COk Tryz.prog 3 197 [U a] m (Bo false) m := by
  refine COk_quiet Tryz.f197 Tryz.func197 (by kernel_rfl) rfl ?_
  conv => whnf
  exact ⟨by congr 1; simp, [], by simp⟩
theorem cmp_ok (a b : Int) (m : List Blk) : COk Tryz.prog 3 185 [U a, U b] m (I (cmpI a b)) m := by
  refine COk_quiet Tryz.f185 Tryz.func185 (by kernel_rfl) rfl ?_
  conv => whnf
  refine ⟨_, _, isnan64_ok _ _, ?_⟩
  conv => whnf
  refine ⟨_, _, isnan64_ok _ _, ?_⟩
  conv => whnf
  refine br_di (fun h => ?_) (fun h => ?_) <;> conv => whnf
  · exact ⟨by rw [cmpI, if_pos h], [], by simp⟩
  refine br_di (fun h' => ?_) (fun h' => ?_) <;> conv => whnf
  · exact ⟨by rw [cmpI, if_neg h, if_pos h'], [], by simp⟩
  · exact ⟨by rw [cmpI, if_neg h, if_neg h'], [], by simp⟩
def placeW (b : Nat) : Int := if (b : Int) ≥ 9223372036854775808 then bitV .xor .u64 IntKind.u64.max b else bitV .or .u64 b 9223372036854775808
theorem place_ok (b : Nat) (m : List Blk) : COk Tryz.prog 3 198 [F b] m (U (placeW b)) m := by
  refine COk_quiet Tryz.f198 Tryz.func198 (by kernel_rfl) rfl ?_
  conv => whnf
  refine ⟨_, _, f64bits_ok _ _, ?_⟩
  conv => whnf
  refine br_di (fun h => ?_) (fun h => ?_) <;> conv => whnf
  · exact ⟨by rw [placeW, if_pos h]; rfl, [], by simp⟩
  · exact ⟨by rw [placeW, if_neg h], [], by simp⟩
def orderW (a b : Nat) : Int := cmpI (placeW a) (placeW b)
theorem order_ok (a b : Nat) (m : List Blk) : COk Tryz.prog 3 187 [F a, F b] m (I (orderW a b)) m := by
  refine COk_quiet Tryz.f187 Tryz.func187 (by kernel_rfl) rfl ?_
  conv => whnf
  refine ⟨_, _, place_ok _ _, ?_⟩
  conv => whnf
  refine ⟨_, _, place_ok _ _, ?_⟩
  conv => whnf
  refine ⟨_, _, cmp_ok _ _ _, ?_⟩
  conv => whnf
  exact ⟨rfl, [], by simp⟩
def or2 (a b : Int) : Int := if a ≠ 0 then a else b
theorem or_ok (a b : Int) : COk Tryz.prog 3 184 [.sl 3 0 2] (GG [⟨true, .cells [I a, I b]⟩]) (I (or2 a b)) (GG [⟨true, .cells [I a, I b]⟩]) := by
  refine COk_quiet Tryz.f184 Tryz.func184 (by kernel_rfl) rfl ?_
  conv => whnf
  refine lr ?_
  conv => whnf
  refine br_intro (fun h => ?_) (fun h => ?_) <;> conv => whnf
  · exact ⟨by rw [or2, if_pos (by simpa using h)], [], by simp⟩
  have ha : ¬ a ≠ 0 := by simpa using h
  refine lr ?_
  conv => whnf
  refine br_intro (fun h => ?_) (fun h => ?_) <;> conv => whnf
  · exact ⟨by rw [or2, if_neg ha], [], by simp⟩
  refine lr ?_
  conv => whnf
  have hb : b = 0 := by simpa using h
  exact ⟨by rw [or2, if_neg ha, hb], [], by simp⟩
/-- How two numbers stand: by their magnitudes, then by their places. -/
def cmpW (x y : Nat) : Int := or2 (cmpI (magW x) (magW y)) (orderW x y)
theorem three1_ok (a b : Nat) (x : List Blk) : COk Tryz.prog 3 183 [F a, F b] (GG x) (I (cmpW a b)) (GG x) := by
  refine lift ?_ rfl x
  refine COk_quiet Tryz.f183 Tryz.func183 (by kernel_rfl) rfl ?_
  conv => whnf
  refine ⟨_, _, magnitude_ok _ _, ?_⟩
  conv => whnf
  refine ⟨_, _, magnitude_ok _ _, ?_⟩
  conv => whnf
  refine ⟨_, _, cmp_ok _ _ _, ?_⟩
  conv => whnf
  refine ⟨_, _, order_ok _ _ _, ?_⟩
  conv => whnf
  refine ⟨_, _, or_ok _ _, ?_⟩
  conv => whnf
  exact ⟨rfl, _, rfl⟩
/-- Three numbers in their order. -/
def sort3 (a b c : Nat) : List Nat :=
  if cmpW b a < 0 then (if cmpW c a < 0 then (if cmpW c b < 0 then [c, b, a] else [b, c, a]) else [b, a, c])
  else (if cmpW c b < 0 then (if cmpW c a < 0 then [c, a, b] else [a, c, b]) else [a, b, c])
/-- A row of floats. -/
def rowF (l : List Nat) : List V := l.map F
abbrev Fl3 (l : List Nat) : Blk := ⟨true, .cells (rowF l)⟩
theorem sc_sort3 (a b c : Nat) : scM 4 (GG [Fl3 (sort3 a b c)]) = true := by
  unfold sort3
  repeat' split
  all_goals rfl
theorem insert_ok (a b c : Nat) : COk Tryz.prog 3 206 [.sl 3 0 3, I 0, I 3, .clo (.func 183) [] []] (GG [Fl3 [a, b, c]]) (.tup []) (GG [Fl3 (sort3 a b c)]) := by
  refine COk_of_ev Tryz.f206 Tryz.func206 (by kernel_rfl) (Nat.le_refl 4) ?_ ?_ ?_
  · rfl
  · exact .inr (sc_sort3 a b c)
  conv => whnf
  refine lr ?_
  conv => whnf
  refine lr ?_
  conv => whnf
  refine ⟨_, three1_ok _ _ _, ?_⟩
  conv => whnf
  refine br_di (fun h1 => ?_) (fun h1 => ?_) <;> conv => whnf
  · have h1' : cmpW b a < 0 := h1
    refine lr ?_
    conv => whnf
    refine lr ?_
    conv => whnf
    refine lr ?_
    conv => whnf
    refine ⟨_, three1_ok _ _ _, ?_⟩
    conv => whnf
    refine br_di (fun h2 => ?_) (fun h2 => ?_) <;> conv => whnf
    · have h2' : cmpW c a < 0 := h2
      refine lr ?_
      conv => whnf
      refine ⟨_, three1_ok _ _ _, ?_⟩
      conv => whnf
      refine br_di (fun h3 => ?_) (fun h3 => ?_) <;> conv => whnf
      · have h3' : cmpW c b < 0 := h3
        refine lr ?_
        conv => whnf
        refine lr ?_
        conv => whnf
        refine ⟨rfl, [], ?_⟩
        rw [sort3, if_pos h1', if_pos h2', if_pos h3']
        rfl
      · have h3' : ¬ cmpW c b < 0 := h3
        refine lr ?_
        conv => whnf
        refine ⟨rfl, [], ?_⟩
        rw [sort3, if_pos h1', if_pos h2', if_neg h3']
        rfl
    · have h2' : ¬ cmpW c a < 0 := h2
      refine lr ?_
      conv => whnf
      refine ⟨rfl, [], ?_⟩
      rw [sort3, if_pos h1', if_neg h2']
      rfl
  · have h1' : ¬ cmpW b a < 0 := h1
    refine lr ?_
    conv => whnf
    refine lr ?_
    conv => whnf
    refine ⟨_, three1_ok _ _ _, ?_⟩
    conv => whnf
    refine br_di (fun h2 => ?_) (fun h2 => ?_) <;> conv => whnf
    · have h2' : cmpW c b < 0 := h2
      refine lr ?_
      conv => whnf
      refine ⟨_, three1_ok _ _ _, ?_⟩
      conv => whnf
      refine br_di (fun h3 => ?_) (fun h3 => ?_) <;> conv => whnf
      · have h3' : cmpW c a < 0 := h3
        refine lr ?_
        conv => whnf
        refine lr ?_
        conv => whnf
        refine ⟨rfl, [], ?_⟩
        rw [sort3, if_neg h1', if_pos h2', if_pos h3']
        rfl
      · have h3' : ¬ cmpW c a < 0 := h3
        refine lr ?_
        conv => whnf
        refine ⟨rfl, [], ?_⟩
        rw [sort3, if_neg h1', if_pos h2', if_neg h3']
        rfl
    · have h2' : ¬ cmpW c b < 0 := h2
      refine lr ?_
      conv => whnf
      refine ⟨rfl, [], ?_⟩
      rw [sort3, if_neg h1', if_neg h2']
      rfl
theorem pdq_ok (a b c : Nat) (l : V) (hl : V.sc 4 l = true): COk Tryz.prog 3 195 [.sl 3 0 3, I 0, I 3, l, .clo (.func 183) [] []] (GG [Fl3 [a, b, c]]) (.tup []) (GG [Fl3 (sort3 a b c)]) := by
  refine COk_of_ev Tryz.f195 Tryz.func195 (by kernel_rfl) (Nat.le_refl 4) ?_ ?_ ?_
  · rfl
  · exact .inr (sc_sort3 a b c)
  conv => whnf
  refine lr ?_
  conv => whnf
  refine ⟨_, _, insert_ok a b c, ?_⟩
  conv => whnf
  exact ⟨rfl, [], rfl⟩
theorem len64_ok (m : List Blk) : COk Tryz.prog 3 215 [U 3] m (I 2) m := by
  refine COk_quiet Tryz.f215 Tryz.func215 (by kernel_rfl) rfl ?_
  conv => whnf
  exact ⟨rfl, [], by simp⟩
theorem len_ok (m : List Blk) : COk Tryz.prog 3 196 [U 3] m (I 2) m := by
  refine COk_quiet Tryz.f196 Tryz.func196 (by kernel_rfl) rfl ?_
  conv => whnf
  refine ⟨_, _, len64_ok _, ?_⟩
  conv => whnf
  exact ⟨rfl, [], by simp⟩
theorem sortfunc_ok (a b c : Nat) : COk Tryz.prog 3 182 [.sl 3 0 3, .clo (.func 183) [] []] (GG [Fl3 [a, b, c]]) (.tup []) (GG [Fl3 (sort3 a b c)]) := by
  refine COk_of_ev Tryz.f182 Tryz.func182 (by kernel_rfl) (Nat.le_refl 4) ?_ ?_ ?_
  · rfl
  · exact .inr (sc_sort3 a b c)
  conv => whnf
  refine ⟨_, _, len_ok _, ?_⟩
  conv => whnf
  refine ⟨_, _, pdq_ok a b c _ rfl, ?_⟩
  conv => whnf
  exact ⟨rfl, [], rfl⟩
theorem isnan_ok (o : Option Nat) (m : List Blk) : COk Tryz.prog 3 143 [.fl o] m (Bo (fne o o)) m := by
  refine COk_quiet Tryz.f143 Tryz.func143 (by kernel_rfl) rfl ?_
  conv => whnf
  exact ⟨rfl, [], by simp⟩
def quietF (o : Option Nat) : Nat := if fne o o = true then qn else o.getD 0
theorem squiet_ok (o : Option Nat) (m : List Blk) : COk Tryz.prog 3 199 [.fl o] m (F (quietF o)) m := by
  refine COk_quiet Tryz.f199 Tryz.func199 (by kernel_rfl) rfl ?_
  conv => whnf
  refine ⟨_, _, isnan_ok _ _, ?_⟩
  conv => whnf
  refine br_intro (fun h => ?_) (fun h => ?_) <;> conv => whnf
  · refine ⟨_, _, frombits_ok _ _, ?_⟩
    conv => whnf
    exact ⟨by rw [quietF, if_pos h]; rfl, [], by simp⟩
  · refine ⟨?_, [], by simp⟩
    rw [quietF, if_neg (by rw [h]; decide)]
    cases o with
    | none => exact nomatch h
    | some b => rfl
/-- Three numbers from the first on. -/
def row3 (l : List Nat) : Nat := quietF (fadd (fadd (some (l.getD 0 0)) (some (l.getD 1 0))) (some (l.getD 2 0)))
theorem row_ok (l : List Nat) (hl : l.length = 3) : COk Tryz.prog 3 188 [.sl 3 0 3] (GG [Fl3 l]) (F (row3 l)) (GG [Fl3 l]) := by
  obtain ⟨a, b, c, rfl⟩ : ∃ a b c, l = [a, b, c] := by
    match l, hl with
    | [a, b, c], _ => exact ⟨a, b, c, rfl⟩
  refine COk_quiet Tryz.f188 Tryz.func188 (by kernel_rfl) rfl ?_
  conv => whnf
  refine lr ?_
  conv => whnf
  refine lr ?_
  conv => whnf
  refine lr ?_
  conv => whnf
  refine ⟨_, _, squiet_ok _ _, ?_⟩
  conv => whnf
  exact ⟨rfl, [], by simp⟩
theorem sort3_length (a b c : Nat) : (sort3 a b c).length = 3 := by
  unfold sort3
  repeat' split
  all_goals rfl
def threeF (a b c : Nat) : Nat := row3 (sort3 a b c)
theorem three_ok (a b c : Nat) (x : List Blk) : COk Tryz.prog 3 166 [F a, F b, F c] (GG x) (F (threeF a b c)) (GG x) := by
  refine lift ?_ rfl x
  refine COk_quiet Tryz.f166 Tryz.func166 (by kernel_rfl) rfl ?_
  conv => whnf
  refine ⟨_, _, sortfunc_ok a b c, ?_⟩
  conv => whnf
  refine ⟨_, _, row_ok _ (sort3_length a b c), ?_⟩
  conv => whnf
  exact ⟨rfl, _, rfl⟩

theorem fadd_nan_l {x : Nat} (h : nanB x) (o : Option Nat) : fadd (some x) o = none := by
  cases o with
  | none => rfl
  | some y => exact add_nan_l x y h
theorem fadd_nan_r {x : Nat} (h : nanB x) (o : Option Nat) : fadd o (some x) = none := by
  cases o with
  | none => rfl
  | some y => exact add_nan_r y x h
theorem fadd_none_l (o : Option Nat) : fadd none o = none := rfl
theorem row3_nan {x y z : Nat} (h : nanB x ∨ nanB y ∨ nanB z) : row3 [x, y, z] = qn := by
  unfold row3
  simp only [List.getD_cons_zero, List.getD_cons_succ]
  rcases h with h | h | h
  · rw [fadd_nan_l h, fadd_none_l]; rfl
  · rw [fadd_nan_r h, fadd_none_l]; rfl
  · rw [fadd_nan_r h]; rfl
theorem threeF_nan {a b c : Nat} (h : nanB a ∨ nanB b ∨ nanB c) : threeF a b c = qn := by
  unfold threeF sort3
  repeat' split
  all_goals
    apply row3_nan
    rcases h with h | h | h <;> simp [h]
def threeO : Option Nat → Option Nat → Option Nat → Nat
  | some a, some b, some c => threeF a b c
  | _, _, _ => qn
theorem threeO_of {a b c : Option Nat} {x y z : Nat} (ha : fden a x) (hb : fden b y) (hc : fden c z) : threeF x y z = threeO a b c := by
  cases a with
  | none => exact threeF_nan (.inl ha)
  | some a =>
    cases ha
    cases b with
    | none => exact threeF_nan (.inr (.inl hb))
    | some b =>
      cases hb
      cases c with
      | none => exact threeF_nan (.inr (.inr hc))
      | some c => cases hc; rfl
theorem threeO_ok (a b c : Option Nat) (x : List Blk) : COk Tryz.prog 3 166 [.fl a, .fl b, .fl c] (GG x) (F (threeO a b c)) (GG x) := by
  refine COk_bits [] fun x1 h1 => COk_bits [F x1] fun x2 h2 => COk_bits [F x1, F x2] fun x3 h3 => ?_
  rw [← threeO_of h1 h2 h3]
  exact three_ok x1 x2 x3 x
theorem msqrt_ok (o : Option Nat) (m : List Blk) : COk Tryz.prog 3 181 [.fl o] m (.fl (fsqrt o)) m := by
  refine COk_ext fun n g w xs h => ?_
  obtain ⟨y, ys, rfl, ⟨c, h1, rfl⟩, rfl⟩ := h
  have e : f64.sqrt c = fsqrt o := by
    cases o with
    | some a => cases h1; rfl
    | none =>
      obtain ⟨s, f, e⟩ := read_nan h1
      simp only [Ieee.Format.sqrt, e]
      rfl
  have key : (callFunc 181 #[.float .f64 c]).run Tryz.prog w = ((match f64.sqrt c with | some r => (pure (.float .f64 r) : Sem Value) | none => do pure (.float .f64 (← choose (.nanBits .f64 c c)))) >>= fun v => (pure (Next.value v) : Sem Next)).run Tryz.prog w := by kernel_rfl
  show ∃ x w', (callFunc 181 #[.float .f64 c]).run Tryz.prog w = _ ∧ _
  rw [key, Sem.run_bind]
  rw [← e]
  cases hc : f64.sqrt c with
  | some r => exact ⟨.float .f64 r, w, by simp, ⟨r, rfl, rfl⟩, .refl w⟩
  | none => exact ⟨_, _, by simp [Question.forced]; rfl, ⟨_, nan_cut c c (w.tape w.drawn (.nanBits .f64 c c)), rfl⟩, ⟨_, rfl⟩⟩
theorem sqrt_ok (o : Option Nat) (m : List Blk) : COk Tryz.prog 3 165 [.fl o] m (.fl (fsqrt o)) m := by
  refine COk_quiet Tryz.f165 Tryz.func165 (by kernel_rfl) rfl ?_
  conv => whnf
  refine ⟨_, _, msqrt_ok _ _, ?_⟩
  conv => whnf
  exact ⟨rfl, [], by simp⟩
def lenF (a : W) : Nat := canonF (fsqrt (some (threeO (fmul (some a.x) (some a.x)) (fmul (some a.y) (some a.y)) (fmul (some a.z) (some a.z)))))
theorem length_ok (a : W) (x : List Blk) : COk Tryz.prog 3 146 [a.v] (GG x) (F (lenF a)) (GG x) := by
  refine lift ?_ rfl x
  refine COk_quiet Tryz.f146 Tryz.func146 (by kernel_rfl) rfl ?_
  conv => whnf
  refine ⟨_, _, threeO_ok _ _ _ _, ?_⟩
  conv => whnf
  refine ⟨_, _, sqrt_ok _ _, ?_⟩
  conv => whnf
  refine ⟨_, _, canon_ok _ _, ?_⟩
  conv => whnf
  exact ⟨rfl, _, rfl⟩
def gapF (a b : W) : Nat := lenF (minusF a b)
theorem vgap_ok (a b : W) (x : List Blk) : COk Tryz.prog 3 113 [a.v, b.v] (GG x) (F (gapF a b)) (GG x) := by
  refine lift ?_ rfl x
  refine COk_quiet Tryz.f113 Tryz.func113 (by kernel_rfl) rfl ?_
  conv => whnf
  refine ⟨_, _, minus_ok a b _, ?_⟩
  conv => whnf
  refine ⟨_, _, length_ok (minusF a b) _, ?_⟩
  conv => whnf
  exact ⟨rfl, _, rfl⟩
theorem isinf_ok (o : Option Nat) (m : List Blk) : COk Tryz.prog 3 189 [.fl o, I 1] m (Bo (fgt o (some 9218868437227405311))) m := by
  refine COk_quiet Tryz.f189 Tryz.func189 (by kernel_rfl) rfl ?_
  conv => whnf
  exact ⟨rfl, [], by simp⟩
def unitF (a : W) : W :=
  if (fgt (some (lenF a)) (some 0) && !fgt (some (lenF a)) (some 9218868437227405311)) = true then
    ⟨canonF (fdiv (some a.x) (some (lenF a))), canonF (fdiv (some a.y) (some (lenF a))), canonF (fdiv (some a.z) (some (lenF a)))⟩
  else ⟨0, 0, 0⟩
theorem unit_ok (a : W) (x : List Blk) : COk Tryz.prog 3 168 [a.v] (GG x) (unitF a).v (GG x) := by
  refine lift ?_ rfl x
  refine COk_quiet Tryz.f168 Tryz.func168 (by kernel_rfl) rfl ?_
  conv => whnf
  refine ⟨_, _, length_ok a _, ?_⟩
  conv => whnf
  refine br_not (br_intro (fun h => ?_) (fun h => ?_)) <;> conv => whnf
  · refine ⟨_, _, isinf_ok _ _, ?_⟩
    conv => whnf
    refine br_intro (fun h' => ?_) (fun h' => ?_) <;> conv => whnf
    · exact ⟨by rw [unitF, if_neg (by rw [h, h']; decide)], _, rfl⟩
    · refine ⟨_, _, vcanon_ok _ _ _ _, ?_⟩
      conv => whnf
      exact ⟨by rw [unitF, if_pos (by rw [h, h']; decide)], _, rfl⟩
  · exact ⟨by rw [unitF, if_neg (by rw [h]; simp)], _, rfl⟩
end Go.Proofs.YtgoljofmbidkfaaGreatDoor
