/- How many edges there are; New anywhere; what the statements of layer 9 ask first. No condition. -/
import Derived.Test.YtemaeembndobaaaGreatDoorZ
namespace Go.Proofs.YtemaeembndobaaaGreatDoor
open Go Go.Eng
set_option maxRecDepth 100000
set_option linter.unusedSimpArgs false
set_option linter.unusedVariables false

/-! ### How many edges -/
theorem nodup_le {α : Type} [DecidableEq α] : ∀ {l r : List α}, l.Nodup → (∀ x ∈ l, x ∈ r) → l.length ≤ r.length
  | [], r, _, _ => Nat.zero_le _
  | a :: l, r, hd, hs => by
    rw [List.nodup_cons] at hd
    have h1 := hs a (List.mem_cons_self ..)
    have h2 := nodup_le (l := l) (r := r.erase a) hd.2 (fun x hx => (List.mem_erase_of_ne (fun e => hd.1 (by rw [← e]; exact hx))).2 (hs x (List.mem_cons_of_mem _ hx)))
    rw [List.length_erase_of_mem h1] at h2
    have := List.length_pos_of_mem h1
    rw [List.length_cons]; omega
theorem nodup_map {α β : Type} {f : α → β} {l : List α} (h : l.Nodup) (hf : ∀ a ∈ l, ∀ b ∈ l, f a = f b → a = b) : (l.map f).Nodup := by
  unfold List.Nodup
  rw [List.pairwise_map]
  exact List.Pairwise.imp_of_mem (fun ha hb hne e => hne (hf _ ha _ hb e)) h
/-- All pairs of a cell and a side. -/
def keys (n : Nat) : List (Nat × Nat) := (List.range (6 * (n * n))).flatMap fun c => (List.range 4).map fun s => (c, s)
theorem keys_mem {n : Nat} {k : Nat × Nat} : k ∈ keys n ↔ k.1 < 6 * (n * n) ∧ k.2 < 4 := by
  unfold keys
  simp only [List.mem_flatMap, List.mem_range, List.mem_map]
  constructor
  · rintro ⟨c, hc, s, hs, rfl⟩; exact ⟨hc, hs⟩
  · rintro ⟨h1, h2⟩; exact ⟨k.1, h1, k.2, h2, rfl⟩
theorem keysU_len : ∀ N : Nat, ((List.range N).flatMap fun c => (List.range 4).map fun s => (c, s)).length = 4 * N
  | 0 => rfl
  | N + 1 => by rw [List.range_succ (n := N), List.flatMap_append, List.length_append, keysU_len N]; simp; omega
theorem keysU_nodup : ∀ N : Nat, ((List.range N).flatMap fun c => (List.range 4).map fun s => (c, s)).Nodup
  | 0 => List.Pairwise.nil
  | N + 1 => by
    rw [List.range_succ (n := N), List.flatMap_append, List.nodup_append]
    refine ⟨keysU_nodup N, ?_, ?_⟩
    · simp only [List.flatMap_cons, List.flatMap_nil, List.append_nil]
      exact nodup_map List.nodup_range fun a _ b _ h => (Prod.mk.inj h).2
    · intro a ha b hb e
      simp only [List.mem_flatMap, List.mem_range, List.mem_map, List.flatMap_cons, List.flatMap_nil, List.append_nil] at ha hb
      obtain ⟨c, hc, s, hs, rfl⟩ := ha
      obtain ⟨s', hs', rfl⟩ := hb
      have := (Prod.mk.inj e).1
      omega
def isL (n : Nat) (k : Nat × Nat) : Bool := decide (k.1 < (nbC n k.1 k.2).1)
theorem edges_count (n : Nat) : ∀ N, (esU n N).length = (((List.range N).flatMap fun c => (List.range 4).map fun s => (c, s)).filter fun k => !decide ((nbC n k.1 k.2).1 < k.1)).length
  | 0 => rfl
  | N + 1 => by
    rw [List.range_succ (n := N), List.flatMap_append, List.filter_append, List.length_append, ← edges_count n N]
    simp only [esU, List.length_append, List.flatMap_cons, List.flatMap_nil, List.append_nil]
    congr 1
    have hc : ∀ s, (esC n N s).length = if (nbC n N s).1 < N then 0 else 1 := by
      intro s; unfold esC; split <;> rfl
    have h4 : (List.range 4).map (fun s => (N, s)) = [(N, 0), (N, 1), (N, 2), (N, 3)] := rfl
    rw [h4]
    have e0 : (esS n N 0).length = 0 := rfl
    simp only [esS, List.length_append, hc, List.filter_cons, List.filter_nil]
    by_cases c0 : (nbC n N 0).1 < N <;> by_cases c1 : (nbC n N 1).1 < N <;> by_cases c2 : (nbC n N 2).1 < N <;> by_cases c3 : (nbC n N 3).1 < N <;> simp [c0, c1, c2, c3]
theorem edges_len {n : Nat} (hn : 1 ≤ n) : (edges n).length = 12 * (n * n) := by
  have hno : ∀ k ∈ keys n, (!decide ((nbC n k.1 k.2).1 < k.1)) = isL n k := by
    intro k hk
    obtain ⟨h1, h2⟩ := keys_mem.1 hk
    have := (nbC_ne hn h1 h2).1
    unfold isL
    by_cases h : (nbC n k.1 k.2).1 < k.1
    · have h' : ¬ k.1 < (nbC n k.1 k.2).1 := by omega
      simp [h, h']
    · have h' : k.1 < (nbC n k.1 k.2).1 := by omega
      simp [h, h']
  have hE : (edges n).length = ((keys n).filter (isL n)).length := by
    rw [show (edges n).length = (esU n (6 * (n * n))).length from rfl, edges_count]
    show ((keys n).filter _).length = _
    rw [List.filter_congr hno]
  have hinj : ∀ a ∈ keys n, ∀ b ∈ keys n, nbC n a.1 a.2 = nbC n b.1 b.2 → a = b := by
    intro a ha b hb e
    obtain ⟨h1, h2⟩ := keys_mem.1 ha
    obtain ⟨h3, h4⟩ := keys_mem.1 hb
    have e1 := nbC_back hn h1 h2
    have e2 := nbC_back hn h3 h4
    rw [e, e2] at e1
    exact e1.symm
  have hnd : (keys n).Nodup := keysU_nodup _
  have himg : ∀ k ∈ keys n, (nbC n k.1 k.2) ∈ keys n ∧ isL n (nbC n k.1 k.2) = !isL n k := by
    intro k hk
    obtain ⟨h1, h2⟩ := keys_mem.1 hk
    refine ⟨keys_mem.2 (nbC_lt hn h1), ?_⟩
    have hb := nbC_back hn h1 h2
    have := (nbC_ne hn h1 h2).1
    unfold isL
    rw [hb]
    simp only
    by_cases h : k.1 < (nbC n k.1 k.2).1
    · have h' : ¬ (nbC n k.1 k.2).1 < k.1 := by omega
      simp [h, h']
    · have h' : (nbC n k.1 k.2).1 < k.1 := by omega
      simp [h, h']
  have key : ∀ p q : Nat × Nat → Bool, (∀ k ∈ keys n, p k = true → q (nbC n k.1 k.2) = true) → ((keys n).filter p).length ≤ ((keys n).filter q).length := by
    intro p q hpq
    have := nodup_le (l := ((keys n).filter p).map fun k => nbC n k.1 k.2) (r := (keys n).filter q)
      (nodup_map (List.Pairwise.filter _ hnd) fun a ha b hb => hinj a (List.mem_filter.1 ha).1 b (List.mem_filter.1 hb).1) (fun x hx => by
        obtain ⟨k, hk, rfl⟩ := List.mem_map.1 hx
        obtain ⟨h1, h2⟩ := List.mem_filter.1 hk
        exact List.mem_filter.2 ⟨(himg k h1).1, hpq k h1 h2⟩)
    rwa [List.length_map] at this
  have h1 := key (isL n) (fun k => !isL n k) (fun k hk h => by rw [(himg k hk).2, h]; rfl)
  have h2 := key (fun k => !isL n k) (isL n) (fun k hk h => by rw [(himg k hk).2]; exact h)
  have h3 : ((keys n).filter (isL n)).length + ((keys n).filter fun k => !isL n k).length = (keys n).length := by
    generalize keys n = l
    induction l with
    | nil => rfl
    | cons a l ih =>
      simp only [List.filter_cons, List.length_cons]
      cases isL n a <;> simp <;> omega
  have h4 : (keys n).length = 4 * (6 * (n * n)) := keysU_len _
  omega

/-! ### New, wherever memory stands -/
theorem net_here (n : Nat) (M x : List Blk) : Net (M ++ (netAt n M.length ++ x)) M.length n := by
  have e : ∀ j, j < 14 → getB (M ++ (netAt n M.length ++ x)) (M.length + j) = getB (netAt n M.length ++ x) j := by
    intro j hj
    rw [getB_eq, getB_eq, List.getD_eq_getElem?_getD, List.getD_eq_getElem?_getD, List.getElem?_append_right (by omega), show M.length + j - M.length = j by omega]
  exact ⟨e 0 (by decide), e 1 (by decide), e 4 (by decide), e 6 (by decide), e 9 (by decide), e 11 (by decide), e 13 (by decide), by simp [netAt]⟩
/-- A call that makes its blocks behind the globals makes them behind any memory. -/
theorem COk.shift {f : FuncId} {args : List V} {N : List Blk} {r : V} (h : COk Tryz.prog 3 f args (GG []) r (GG [] ++ N)) (hs : scM (GG [] ++ N).length (GG [] ++ N) = true) (hw : ∀ b ∈ N, b.w = true)
    (ha : scL 3 args = true) (hr : r.sc (GG [] ++ N).length = true) (x : List Blk) :
    COk Tryz.prog 3 f (renL (fun i => i) args) (GG x) (r.ren (rho1 (fun i => i) 3 (GG x).length)) (GG x ++ N.map (Blk.ren (rho1 (fun i => i) 3 (GG x).length))) := by
  refine COk.reloc (M := GG x) (fun i => i) h ?_ ha hr
  have hro : ∀ i, 3 ≤ i → rho1 (fun i => i) (GG []).length (GG x).length i = (GG x).length + (i - 3) := by
    intro i hi
    unfold rho1
    rw [if_neg (by show ¬ i < 3; omega)]; rfl
  refine ⟨Nat.le_refl 3, fun _ _ => rfl, fun _ _ _ _ h => h, fun i hi => ?_, fun i b hb => ?_, rfl, fun i b hb hw => ?_, by rw [List.length_append]; omega, by simp; omega, hs, fun i b hb => ?_, fun k hk _ => List.getElem?_append_left hk, fun i b hb => ?_⟩
  · have hi : i < 3 := hi
    show i < x.length + 1 + 1 + 1
    omega
  · have hi : i < 3 := (List.getElem?_eq_some_iff.1 hb).1
    obtain rfl | rfl | rfl : i = 0 ∨ i = 1 ∨ i = 2 := by omega
    all_goals
      cases hb
      rfl
  · have hi : i < 3 := (List.getElem?_eq_some_iff.1 hb).1
    obtain rfl | rfl | rfl : i = 0 ∨ i = 1 ∨ i = 2 := by omega
    all_goals
      cases hb
      exact nomatch hw
  · obtain rfl | rfl | rfl | h3 : i = 0 ∨ i = 1 ∨ i = 2 ∨ 3 ≤ i := by omega
    · cases hb; rfl
    · cases hb; rfl
    · cases hb; rfl
    · rw [hro i h3, List.getElem?_append_right (by omega), show (GG x).length + (i - 3) - (GG x).length = i - 3 by omega, List.getElem?_map]
      rw [List.getElem?_append_right (by show 3 ≤ i; omega)] at hb
      rw [show i - (GG []).length = i - 3 from rfl] at hb
      rw [hb]; rfl
  · rcases Nat.lt_or_ge i 3 with h3 | h3
    · rw [List.getElem?_append_left (by show i < 3; exact h3)] at hb
      exact .inr ⟨h3, hb⟩
    · rw [List.getElem?_append_right (by show 3 ≤ i; exact h3)] at hb
      exact .inl (hw b (List.mem_of_getElem? hb))
/-- Which of a net's blocks have grown, by their place behind its first. -/
def stlN (n : Nat) (j : Nat) : Option Nat := stlC n (j + 3)
def stlB (n b i : Nat) : Option Nat := if i < b then none else stlN n (i - b)
theorem stlB_at (n b j : Nat) : stlB n b (b + j) = stlN n j := by
  unfold stlB
  rw [if_neg (by omega), show b + j - b = j by omega]
set_option maxHeartbeats 0 in
theorem new_at (n : Nat) (hn : 1 ≤ n) (hn' : n ≤ 32) (x : List Blk) : COk Tryz.prog 3 14 [I n] (GG x) (.tup [.ptr ((GG x).length + 1) 0, I 0]) (GG x ++ netAt n (GG x).length) := by
  have hpos := edges_pos n hn
  have h := new_raw n hn hn' _ (List.getElem?_eq_getElem hpos)
  generalize (edges n)[0] = x0 at h
  have hq1 : (edq n (6 * (n * n))).l = flatE (edges n) := (edq_es n _).1
  have hq2 : (edq n (6 * (n * n))).k = (edges n).length := (edq_es n _).2
  have hq3 : (edq n (6 * (n * n))).f = numF n := rfl
  have hs := sc_mem3 n (edq n (6 * (n * n))) (g6C n 0) (g8C n 0) (g10C x0) (g11C n x0) (g13C n x0) (g15C n x0) (edges n).length (edges n) rfl rfl rfl rfl rfl rfl
  have h1 := COk.shift (N := (mem3 n (edq n (6 * (n * n))) (g6C n 0) (g8C n 0) (g10C x0) (g11C n x0) (g13C n x0) (g15C n x0) (edges n).length (edges n)).drop 3) h hs (by
    intro b hb
    have hb : b ∈ [_, _, _, _, _, _, _, _, _, _, _, _, _, _] := hb
    simp only [List.mem_cons, List.not_mem_nil, or_false] at hb
    obtain rfl | rfl | rfl | rfl | rfl | rfl | rfl | rfl | rfl | rfl | rfl | rfl | rfl | rfl := hb
    all_goals rfl) rfl rfl x
  have h2 := COk.settle (N' := netAt n (GG x).length) (stlB n (GG x).length) h1 ?_ ?_ ?_ ?_
  · exact h2
  · intro i hi
    exact if_pos hi
  · intro i hi
    have hi : (GG x).length + 14 ≤ i := hi
    obtain ⟨j, rfl⟩ : ∃ j, i = (GG x).length + (14 + j) := ⟨i - (GG x).length - 14, by omega⟩
    rw [stlB_at]
    exact stlC_big n _ (by omega)
  · exact ⟨trivial, trivial, trivial⟩
  · generalize (GG x).length = B
    have hat := stlB_at n B
    unfold mem3
    rw [hq3]
    have hk : (edq n (6 * (n * n))).k - 1 = (edges n).length - 1 := by rw [hq2]
    refine ⟨.same (hat 0) (fun h => nomatch h) (fun j v hv => nomatch hv), ?_⟩
    refine ⟨.row (hat 1) (fun h => nomatch h) ⟨trivial, ?_, trivial, ?_, ?_, ?_, ?_, trivial⟩ ?_, ?_⟩
    · intro u hu; rw [hk]; exact (Option.some.inj ((hat 4).symm.trans hu)).symm
    · intro u hu; exact (Option.some.inj ((hat 9).symm.trans hu)).symm
    · intro u hu; exact (Option.some.inj ((hat 6).symm.trans hu)).symm
    · intro u hu; exact (Option.some.inj ((hat 11).symm.trans hu)).symm
    · intro u hu; exact (Option.some.inj ((hat 13).symm.trans hu)).symm
    · rw [hq2]
      show _ = stlL (stlB n B) [I n, .gs (B + 4) ((edges n).length - 1) 4 (edges n).length, .mp (B + 0), .gs (B + 9) ((edges n).length - 1) 2 (edges n).length, .gs (B + 6) (6 * (n * n) - 1) 1 (6 * (n * n)), .gs (B + 11) ((edges n).length - 1) 1 (edges n).length, .gs (B + 13) ((edges n).length - 1) 1 (edges n).length]
      simp only [stlL, V.stl, hat]
      rfl
    refine ⟨.gone (.inl (hat 2)) (.inl rfl), .gone (.inl (hat 3)) (.inl rfl), ?_, .gone (.inl (hat 5)) (.inl rfl), .ints (hat 6) (fun h => nomatch h), .gone (.inl (hat 7)) (.inl rfl), .gone (.inl (hat 8)) (.inl rfl), .ints (hat 9) (fun h => nomatch h), .gone (.inl (hat 10)) (.inl rfl), .flts (hat 11) (fun h => nomatch h), .gone (.inl (hat 12)) (.inl rfl), .flts (hat 13) (fun h => nomatch h), trivial⟩
    unfold edC
    rw [hq1, hk]
    exact .ints (hat 4) (fun h => nomatch h)

/-- New anywhere, its memory kept shut. -/
theorem new_shut (n : Nat) (hn : 1 ≤ n) (hn' : n ≤ 32) (x : List Blk) : ∃ b M, COk Tryz.prog 3 14 [I n] (GG x) (.tup [.ptr (b + 1) 0, I 0]) M ∧ Net M b n ∧ ∃ y, M = GG (x ++ y) := by
  refine ⟨_, _, new_at n hn hn' x, ?_, _, rfl⟩
  have := net_here n (GG x) []
  rwa [List.append_nil] at this
mutual
theorem V.sc_mono {k l : Nat} (h : k ≤ l) : ∀ v : V, v.sc k = true → v.sc l = true
  | .bool b, _ => rfl
  | .int _ _, _ => rfl
  | .fl o, _ => rfl
  | .raw v, _ => rfl
  | .any, _ => rfl
  | .ptr i off, hv => by simp only [V.sc] at *; simp at *; omega
  | .sl i off len, hv => by simp only [V.sc] at *; simp at *; omega
  | .mp i, hv => by simp only [V.sc] at *; simp at *; omega
  | .sk i off len k, hv => by simp only [V.sc] at *; simp at *; omega
  | .gp i v off, hv => by simp only [V.sc] at *; simp at *; omega
  | .gs i v e len, hv => by simp only [V.sc] at *; simp at *; omega
  | .agg cs, hv => scL_mono h cs hv
  | .tup cs, hv => scL_mono h cs hv
  | .clo fn a b, hv => by
    simp only [V.sc, Bool.and_eq_true] at *
    exact ⟨scL_mono h a hv.1, scL_mono h b hv.2⟩
theorem scL_mono {k l : Nat} (h : k ≤ l) : ∀ vs : List V, scL k vs = true → scL l vs = true
  | [], _ => rfl
  | v :: vs, hv => by
    simp only [scL, Bool.and_eq_true] at *
    exact ⟨V.sc_mono h v hv.1, scL_mono h vs hv.2⟩
end
theorem B.sc_mono {k l : Nat} (h : k ≤ l) (b : B) (hb : b.sc k = true) : b.sc l = true := by
  cases b <;> first
    | exact scL_mono h _ hb
    | exact hb
    | rfl
theorem scM_mono {k l : Nat} (h : k ≤ l) : ∀ m : List Blk, scM k m = true → scM l m = true
  | [], _ => rfl
  | b :: m, hb => by
    simp only [scM, Bool.and_eq_true] at *
    exact ⟨B.sc_mono h b.b hb.1, scM_mono h m hb.2⟩
theorem scM_app {k : Nat} : ∀ {l r : List Blk}, scM k l = true → scM k r = true → scM k (l ++ r) = true
  | [], r, _, h => h
  | b :: l, r, h, h' => by
    simp only [scM, List.cons_append, Bool.and_eq_true] at *
    exact ⟨h.1, scM_app h.2 h'⟩
theorem netAt_sc (n b : Nat) : scM (b + 14) (netAt n b) = true := by
  simp [netAt, scM, B.sc, scL, V.sc]
theorem new_shut_sc (n : Nat) (hn : 1 ≤ n) (hn' : n ≤ 32) (x : List Blk) (hx : scM (GG x).length (GG x) = true) : ∃ b M, COk Tryz.prog 3 14 [I n] (GG x) (.tup [.ptr (b + 1) 0, I 0]) M ∧ Net M b n ∧ scM M.length M = true ∧ ∃ y, M = GG (x ++ y) := by
  refine ⟨_, _, new_at n hn hn' x, ?_, ?_, _, rfl⟩
  · have := net_here n (GG x) []
    rwa [List.append_nil] at this
  · exact scM_app (scM_mono (by simp) _ hx) (by rw [List.length_append]; exact netAt_sc n _)
theorem edges1 : (edges 1)[1]? = some (0, 1, 4, 3) ∧ (edges 1)[0]? = some (0, 0, 1, 2) := by decide
theorem num1 : numF 1 ((1 : Nat) : Int) ((2 : Nat) : Int) = some ((0 : Nat) : Int) := by decide
theorem len1 : (edges 1).length = 12 := by decide
theorem around_at {n c s : Nat} (hn : 1 ≤ n) (hc : c < 6 * (n * n)) (hs : s < 4) : ∃ (e : Nat) (y : Ed) (w : Int), (edges n)[e]? = some y ∧
    ((w = 1 ∧ y = (c, s, (nbC n c s).1, (nbC n c s).2) ∧ c < (nbC n c s).1) ∨ (w = -1 ∧ y = ((nbC n c s).1, (nbC n c s).2, c, s) ∧ (nbC n c s).1 < c)) ∧
    ∀ m b, Net m b n → COk Tryz.prog 3 47 [.ptr (b + 1) 0, I c, I s] m (.tup [I e, I w]) m := by
  obtain ⟨e, y, h1, h2, h3⟩ := num_at hn hc hs
  refine ⟨e, y, if (y.1 : Int) = c then 1 else -1, h2, ?_, fun m b N => around_ok N c s e y h1 h2⟩
  rcases h3 with ⟨rfl, h⟩ | ⟨rfl, h⟩
  · exact .inl ⟨if_pos rfl, rfl, h⟩
  · exact .inr ⟨if_neg (by simp only; omega), rfl, h⟩
end Go.Proofs.YtemaeembndobaaaGreatDoor
