/-
  PROVED: the plain laws that the statements say: a text is like its quote (like_quote), patterns behind one another (like_append, like_middle), the fixed text (begins_prefix, begins_alone); the steps of the loop that goes back (Inv). Conditions: none.
-/
import Derived.Test.YtjhaebhhdgjebaaDoorPat
set_option linter.unusedSimpArgs false
namespace Like
open Go.Lib
/-- is a text like a pattern? -/
def like (p s : L) : Bool := (parse (letters p)).2 && matchL (parse (letters p)).1 (letters s)
theorem parse_esc : ∀ xs : List L, parseE false (xs.flatMap escL) = (xs.map P.lit, true)
  | [] => rfl
  | x :: r => by
    have ih := parse_esc r
    rw [List.flatMap_cons]
    by_cases hs : special x = true
    · rw [escL, if_pos hs]
      show parseE true (x :: r.flatMap escL) = _
      show consP (.lit x) (parseE false (r.flatMap escL)) = _
      rw [ih]
      rfl
    · rw [escL, if_neg hs]
      simp only [special, Bool.or_eq_true, beq_iff_eq, not_or] at hs
      obtain ⟨⟨h1, h2⟩, h3⟩ := hs
      show parseE false (x :: r.flatMap escL) = _
      have : parseE false (x :: r.flatMap escL) = consP (pt x) (parseE false (r.flatMap escL)) := by simp [parseE, h3]
      rw [this, ih, pt, if_neg h1, if_neg h2]
      rfl
theorem parse_quote (l : L) : parse (letters (quote l)) = ((letters l).map P.lit, true) := by rw [letters_quote]; exact parse_esc _
theorem like_quote (a b : L) : like (quote a) b = (letters a == letters b) := by
  unfold like
  rw [parse_quote, Bool.true_and, matchL_lits]
theorem like_quote_self (a : L) : like (quote a) a = true := by rw [like_quote]; simp
theorem like_quote_eq (a b : L) : like (quote a) b = (a == b) := by
  rw [like_quote, Bool.eq_iff_iff, beq_iff_eq, beq_iff_eq]
  exact ⟨letters_inj, fun h => by rw [h]⟩
theorem like_some (a : L) : like [37] a = true := by
  show matchL [.any] (letters a) = true
  exact matchL_any _
def wild (n : Nat) : L := List.replicate n 95
theorem letters_wild (r : L) : ∀ n : Nat, letters (wild n ++ r) = List.replicate n [95] ++ letters r
  | 0 => rfl
  | n + 1 => by
    show letters (95 :: (wild n ++ r)) = _
    rw [letters_cons 95 _ (by decide), letters_wild r n]
    rfl
theorem parse_wild (r : List L) : ∀ n : Nat, parse (List.replicate n [95] ++ r) = (List.replicate n P.one ++ (parse r).1, (parse r).2)
  | 0 => rfl
  | n + 1 => by
    show consP (.one) (parse (List.replicate n [95] ++ r)) = _
    rw [parse_wild r n]
    rfl
theorem like_wild (r s : L) (n : Nat) : like (wild n ++ r) s = ((parse (letters r)).2 && matchL (List.replicate n P.one ++ (parse (letters r)).1) (letters s)) := by
  unfold like
  rw [letters_wild, parse_wild]
theorem like_wild1 (s : L) : like (wild (letters s).length) s = true := by
  have := like_wild [] s (letters s).length
  rw [List.append_nil] at this
  rw [this]
  show (true && matchL (List.replicate _ P.one ++ []) _) = true
  rw [List.append_nil, matchL_ones]
  simp
theorem like_wild2 (s : L) : like (wild (letters s).length ++ [95]) s = false := by
  have h : wild (letters s).length ++ [95] = wild ((letters s).length + 1) := by unfold wild; rw [List.replicate_succ']
  have := like_wild [] s ((letters s).length + 1)
  rw [List.append_nil] at this
  rw [h, this]
  show (true && matchL (List.replicate _ P.one ++ []) _) = false
  rw [List.append_nil, matchL_ones]
  simp
theorem like_wild3 (s : L) : like (wild (letters s).length ++ [37]) s = true := by
  rw [like_wild]
  show (true && matchL (List.replicate _ P.one ++ [.any]) _) = true
  rw [Bool.true_and]
  exact matchL_any_back _ _ (by rw [matchL_ones]; simp)
theorem like_wild4 (s : L) : like (37 :: wild (letters s).length) s = true := by
  have h : parse (letters (37 :: wild (letters s).length)) = (.any :: List.replicate (letters s).length P.one, true) := by
    rw [letters_cons 37 _ (by decide)]
    have := letters_wild [] (letters s).length
    rw [List.append_nil] at this
    rw [this]
    have := parse_wild [] (letters s).length
    show consP .any (parse _) = _
    rw [show List.replicate (letters s).length ([95] : L) ++ letters [] = List.replicate (letters s).length [95] ++ [] from rfl, this]
    show (.any :: (List.replicate _ P.one ++ []), true) = _
    rw [List.append_nil]
  unfold like
  rw [h, Bool.true_and]
  exact matchL_any_front _ _ (by rw [matchL_ones]; simp)
/-! ### patterns behind one another -/
theorem like_append (a b c d : L) (ha : validD a = true) (hb : validD b = true) (h1 : like a b = true) (h2 : like c d = true) : like (a ++ c) (b ++ d) = true := by
  unfold like at h1 h2 ⊢
  simp only [Bool.and_eq_true] at h1 h2 ⊢
  rw [letters_valid_append a c ha, parse_append _ _ h1.1, letters_valid_append b d hb]
  refine ⟨h2.1, (matchL_append _ _ _).2 ⟨(letters b).length, by simp, ?_, ?_⟩⟩
  · rw [List.take_left']
    · exact h1.2
    · rfl
  · rw [List.drop_left']
    · exact h2.2
    · rfl
theorem like_middle (a b t : L) (ha : validD a = true) (ht : validD t = true) (h1 : (parse (letters a)).2 = true) (h2 : (parse (letters b)).2 = true) :
    like (a ++ 37 :: b) t = true ↔ ∃ i k, i ≤ k ∧ k ≤ (letters t).length ∧ like a ((letters t).take i).flatten = true ∧ like b ((letters t).drop k).flatten = true := by
  have e : parse (letters (a ++ 37 :: b)) = ((parse (letters a)).1 ++ .any :: (parse (letters b)).1, (parse (letters b)).2) := by
    rw [letters_valid_append a _ ha, parse_append _ _ h1, letters_cons 37 _ (by decide)]
    rfl
  have f1 : ∀ i, letters ((letters t).take i).flatten = (letters t).take i := fun i => letters_flatten _ (fun x hx => letters_lone t ht x (List.mem_of_mem_take hx))
  have f2 : ∀ k, letters ((letters t).drop k).flatten = (letters t).drop k := fun k => letters_flatten _ (fun x hx => letters_lone t ht x (List.mem_of_mem_drop hx))
  unfold like
  rw [e]
  simp only [h1, h2, Bool.true_and, f1, f2]
  rw [matchL_append]
  constructor
  · rintro ⟨i, hi, g1, g2⟩
    obtain ⟨j, hj, g2⟩ := (anyTail_iff _ _).1 g2
    rw [List.length_drop] at hj
    rw [List.drop_drop] at g2
    exact ⟨i, i + j, by omega, by omega, g1, g2⟩
  · rintro ⟨i, k, hik, hk, g1, g2⟩
    refine ⟨i, by omega, g1, (anyTail_iff _ _).2 ⟨k - i, by rw [List.length_drop]; omega, ?_⟩⟩
    rw [List.drop_drop, show i + (k - i) = k by omega]
    exact g2
/-! ### the fixed text -/
def fixedOf (p : L) : L × Bool := fixed (parse (letters p)).1
theorem begins_prefix (a b : L) (h : like a b = true) : ∃ r, b = (fixedOf a).1 ++ r ∧ ((fixedOf a).2 = true → r = []) := by
  unfold like at h
  rw [Bool.and_eq_true] at h
  have := fixed_prefix _ _ h.2
  rw [letters_flat] at this
  exact this
theorem begins_alone (a : L) (h1 : (parse (letters a)).2 = true) (hv : validD a = true) (hal : (fixedOf a).2 = true) : like a (fixedOf a).1 = true := by
  obtain ⟨xs, e1, e2⟩ := fixed_alone _ hal
  unfold like
  rw [h1, Bool.true_and]
  have hl : letters (fixedOf a).1 = xs := by
    show letters (fixed (parse (letters a)).1).1 = xs
    rw [e2]
    refine letters_flatten xs (fun x hx => letters_lone a hv x (parseE_lits (letters a) false x ?_))
    show P.lit x ∈ (parse (letters a)).1
    rw [e1]
    exact List.mem_map.2 ⟨x, hx, rfl⟩
  rw [hl, e1, matchL_lits]
  simp
/-! ### the loop that goes back to the last % -/
def NoAny (seg : List P) : Prop := ∀ p ∈ seg, p ≠ P.any
theorem seg_len : ∀ (seg qs : List P) (us : List L), NoAny seg → matchL (seg ++ qs) us = true → seg.length ≤ us.length ∧ matchL qs (us.drop seg.length) = true
  | [], qs, us, _, h => ⟨Nat.zero_le _, h⟩
  | .any :: s, qs, us, hn, _ => absurd rfl (hn P.any (by simp))
  | .one :: s, qs, [], _, h => by simp [matchL] at h
  | .lit x :: s, qs, [], _, h => by simp [matchL] at h
  | .one :: s, qs, t :: r, hn, h => by
    obtain ⟨h1, h2⟩ := seg_len s qs r (fun p hp => hn p (by simp [hp])) h
    exact ⟨by simpa using h1, h2⟩
  | .lit x :: s, qs, t :: r, hn, h => by
    simp only [List.cons_append, matchL, Bool.and_eq_true] at h
    obtain ⟨h1, h2⟩ := seg_len s qs r (fun p hp => hn p (by simp [hp])) h.2
    exact ⟨by simpa using h1, h2⟩
/-- what the loop keeps: i parts and k letters behind it; b: where the last % is (-1: none was), f: from where on it is tried -/
def Inv (ps : List P) (ts : List L) (i k : Nat) (b : Int) (f : Nat) : Prop :=
  i ≤ ps.length ∧ k ≤ ts.length ∧ f ≤ k ∧ ((b = -1 ∧ matchL ps ts = matchL (ps.drop i) (ts.drop k)) ∨
    ∃ (m : Nat) (seg : List P), b = m ∧ NoAny seg ∧ ps.drop (m + 1) = seg ++ ps.drop i ∧ m + 1 + seg.length = i ∧ f + seg.length = k ∧
      (∀ qs, matchL qs (ts.drop k) = true → matchL (seg ++ qs) (ts.drop f) = true) ∧ matchL ps ts = anyTail (matchL (ps.drop (m + 1))) (ts.drop f))
theorem Inv.start (ps : List P) (ts : List L) : Inv ps ts 0 0 (-1) 0 := ⟨by omega, by omega, by omega, Or.inl ⟨rfl, rfl⟩⟩
theorem Inv.bound {ps : List P} {ts : List L} {i k f : Nat} {b : Int} (h : Inv ps ts i k b f) : i ≤ ps.length ∧ k ≤ ts.length ∧ f ≤ k ∧ -1 ≤ b ∧ b < i := by
  obtain ⟨h1, h2, h3, h | ⟨m, seg, h4, _, _, h5, _⟩⟩ := h
  · exact ⟨h1, h2, h3, by omega, by omega⟩
  · exact ⟨h1, h2, h3, by omega, by omega⟩
theorem drop_at {α : Type} {l : List α} {i : Nat} {x : α} (h : l[i]? = some x) : l.drop i = x :: l.drop (i + 1) := by
  obtain ⟨hi, hx⟩ := List.getElem?_eq_some_iff.1 h
  rw [List.drop_eq_getElem_cons hi, hx]
theorem Inv.any {ps : List P} {ts : List L} {i k f : Nat} {b : Int} (h : Inv ps ts i k b f) (hi : ps[i]? = some .any) : Inv ps ts (i + 1) k i k := by
  have hlt : i < ps.length := (List.getElem?_eq_some_iff.1 hi).1
  have hd := drop_at hi
  obtain ⟨h1, h2, h3, h4⟩ := h
  refine ⟨by omega, h2, by omega, Or.inr ⟨i, [], rfl, fun p hp => by simp at hp, rfl, rfl, rfl, fun qs hq => hq, ?_⟩⟩
  rcases h4 with ⟨_, h4⟩ | ⟨m, seg, hb, hn, hps, hm, hk, hseg, h4⟩
  · rw [h4, hd]
    rfl
  · rw [h4, hps, hd, Bool.eq_iff_iff, anyTail_iff, anyTail_iff]
    constructor
    · rintro ⟨j, hj, g⟩
      rw [List.drop_drop] at g
      obtain ⟨g1, g2⟩ := seg_len seg _ _ hn g
      rw [List.length_drop] at g1 hj
      obtain ⟨j2, hj2, g3⟩ := (anyTail_iff _ _).1 g2
      rw [List.drop_drop] at hj2
      rw [List.length_drop] at hj2
      rw [List.drop_drop, List.drop_drop] at g3
      refine ⟨j + j2, by rw [List.length_drop]; omega, ?_⟩
      rw [List.drop_drop, show k + (j + j2) = f + j + (seg.length + j2) by omega]
      exact g3
    · rintro ⟨j, hj, g⟩
      refine ⟨0, by omega, ?_⟩
      rw [List.drop_zero]
      exact hseg _ ((anyTail_iff _ _).2 ⟨j, hj, g⟩)
theorem matchL_cons {p : P} {t : L} (hp : p ≠ .any) (ho : oneL p t = true) (ps : List P) (ts : List L) : matchL (p :: ps) (t :: ts) = matchL ps ts := by
  cases p with
  | any => exact absurd rfl hp
  | one => rfl
  | lit s =>
    simp only [oneL] at ho
    simp only [matchL, ho, Bool.true_and]
theorem matchL_cons_not {p : P} {t : L} (hp : p ≠ .any) (ho : oneL p t = false) (ps : List P) (ts : List L) : matchL (p :: ps) (t :: ts) = false := by
  cases p with
  | any => exact absurd rfl hp
  | one => simp [oneL] at ho
  | lit s =>
    simp only [oneL] at ho
    simp only [matchL, ho, Bool.false_and]
theorem Inv.step {ps : List P} {ts : List L} {i k f : Nat} {b : Int} (h : Inv ps ts i k b f) {p : P} {t : L} (hi : ps[i]? = some p) (hk : ts[k]? = some t) (hp : p ≠ .any) (ho : oneL p t = true) : Inv ps ts (i + 1) (k + 1) b f := by
  have hlt : i < ps.length := (List.getElem?_eq_some_iff.1 hi).1
  have hkt : k < ts.length := (List.getElem?_eq_some_iff.1 hk).1
  have hd := drop_at hi
  have hdk := drop_at hk
  obtain ⟨h1, h2, h3, h4⟩ := h
  refine ⟨by omega, by omega, by omega, ?_⟩
  rcases h4 with ⟨hb, h4⟩ | ⟨m, seg, hb, hn, hps, hm, hk, hseg, h4⟩
  · left
    refine ⟨hb, ?_⟩
    rw [h4, hd, hdk, matchL_cons hp ho]
  · right
    refine ⟨m, seg ++ [p], hb, ?_, ?_, by simp; omega, by simp; omega, ?_, h4⟩
    · intro q hq
      simp only [List.mem_append, List.mem_singleton] at hq
      rcases hq with hq | rfl
      · exact hn q hq
      · exact hp
    · rw [hps, hd, List.append_assoc]
      rfl
    · intro qs hq
      rw [List.append_assoc]
      refine hseg _ ?_
      rw [hdk]
      show matchL (p :: qs) _ = true
      rw [matchL_cons hp ho]
      exact hq
/-- neither a part for this letter, nor a % -/
def Mis (ps : List P) (i : Nat) (t : L) : Prop := ps[i]? = none ∨ ∃ p, ps[i]? = some p ∧ p ≠ .any ∧ oneL p t = false
theorem Mis.not {ps : List P} {ts : List L} {i k : Nat} {t : L} (h : Mis ps i t) (hk : ts[k]? = some t) : matchL (ps.drop i) (ts.drop k) = false := by
  rw [drop_at hk]
  rcases h with h | ⟨p, h, hp, ho⟩
  · rw [List.drop_of_length_le (List.getElem?_eq_none_iff.1 h)]
    rfl
  · rw [drop_at h]
    exact matchL_cons_not hp ho _ _
theorem Inv.back {ps : List P} {ts : List L} {i k f m : Nat} (h : Inv ps ts i k m f) {t : L} (hk : ts[k]? = some t) (hm : Mis ps i t) : Inv ps ts (m + 1) (f + 1) m (f + 1) := by
  have hkt : k < ts.length := (List.getElem?_eq_some_iff.1 hk).1
  have hno := hm.not hk
  obtain ⟨h1, h2, h3, h4⟩ := h
  rcases h4 with ⟨hb, h4⟩ | ⟨m', seg, hb, hn, hps, hm, hkf, hseg, h4⟩
  · omega
  · obtain rfl : m' = m := by omega
    refine ⟨by omega, by omega, by omega, Or.inr ⟨m', [], rfl, fun p hp => by simp at hp, rfl, rfl, rfl, fun qs hq => hq, ?_⟩⟩
    have hf : f < ts.length := by omega
    have hdf : ts.drop f = ts[f] :: ts.drop (f + 1) := List.drop_eq_getElem_cons hf
    rw [h4]
    have hfalse : matchL (ps.drop (m' + 1)) (ts.drop f) = false := by
      rw [← Bool.not_eq_true]
      intro g
      rw [hps] at g
      obtain ⟨_, g2⟩ := seg_len seg _ _ hn g
      rw [List.drop_drop, hkf, hno] at g2
      cases g2
    rw [hdf] at hfalse
    rw [hdf]
    simp only [anyTail, hfalse, Bool.false_or]
theorem Inv.fail {ps : List P} {ts : List L} {i k f : Nat} (h : Inv ps ts i k (-1) f) {t : L} (hk : ts[k]? = some t) (hm : Mis ps i t) : matchL ps ts = false := by
  obtain ⟨h1, h2, h3, ⟨hb, h4⟩ | ⟨m, seg, hb, _⟩⟩ := h
  · rw [h4]; exact hm.not hk
  · omega
theorem Inv.end {ps : List P} {ts : List L} {i f : Nat} {b : Int} (h : Inv ps ts i ts.length b f) : matchL ps ts = matchL (ps.drop i) [] := by
  obtain ⟨h1, h2, h3, ⟨hb, h4⟩ | ⟨m, seg, hb, hn, hps, hm, hkf, hseg, h4⟩⟩ := h
  · rw [h4, List.drop_length]
  · rw [h4, Bool.eq_iff_iff, anyTail_iff]
    rw [List.drop_length] at hseg
    constructor
    · rintro ⟨j, hj, g⟩
      rw [hps] at g
      obtain ⟨g1, g2⟩ := seg_len seg _ _ hn g
      rw [List.length_drop, List.length_drop] at g1
      rw [List.length_drop] at hj
      obtain rfl : j = 0 := by omega
      rw [List.drop_zero, List.drop_drop, hkf, List.drop_length] at g2
      exact g2
    · intro g
      refine ⟨0, by omega, ?_⟩
      rw [List.drop_zero, hps]
      exact hseg _ g
theorem end_any {ps : List P} {i : Nat} (h : ps[i]? = some .any) : matchL (ps.drop i) [] = matchL (ps.drop (i + 1)) [] := by rw [drop_at h]; rfl
theorem end_other {ps : List P} {i : Nat} {p : P} (h : ps[i]? = some p) (hp : p ≠ .any) : matchL (ps.drop i) [] = false := by
  rw [drop_at h]
  cases p with
  | any => exact absurd rfl hp
  | one => rfl
  | lit s => rfl
theorem end_all {ps : List P} : matchL (ps.drop ps.length) [] = true := by rw [List.drop_length]; rfl
end Like
