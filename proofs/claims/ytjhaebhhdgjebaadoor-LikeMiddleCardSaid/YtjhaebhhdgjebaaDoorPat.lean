/-
  PROVED: plain laws on patterns: their parts (parse_append), whether a text is like one (matchL_append, matchL_lits, matchL_ones), its fixed text (fixed_prefix), a text's quote (letters_quote, parse_quote). Conditions: none.
-/
import Derived.Test.YtjhaebhhdgjebaaDoorPlain
set_option linter.unusedSimpArgs false
namespace Like
open Go.Lib
inductive P
  | any
  | one
  | lit (s : L)
def pt (x : L) : P := if x = [37] then .any else if x = [95] then .one else .lit x
def consP (x : P) (r : List P × Bool) : List P × Bool := (x :: r.1, r.2)
/-- a pattern's parts; e: the letter before was an escape -/
def parseE : Bool → List L → List P × Bool
  | e, [] => ([], !e)
  | true, x :: r => consP (.lit x) (parseE false r)
  | false, x :: r => if x = [92] then parseE true r else consP (pt x) (parseE false r)
def parse (l : List L) : List P × Bool := parseE false l
theorem parseE_append : ∀ (a b : List L) (e : Bool), (parseE e a).2 = true → parseE e (a ++ b) = ((parseE e a).1 ++ (parseE false b).1, (parseE false b).2)
  | [], b, e, h => by
    cases e with
    | true => simp [parseE] at h
    | false => rfl
  | x :: r, b, true, h => by
    have ih := parseE_append r b false h
    show consP (.lit x) (parseE false (r ++ b)) = _
    rw [ih]
    rfl
  | x :: r, b, false, h => by
    by_cases hx : x = [92]
    · have h1 : parseE false (x :: r) = parseE true r := by simp [parseE, hx]
      have h2 : parseE false (x :: r ++ b) = parseE true (r ++ b) := by simp [parseE, hx]
      rw [h1] at h ⊢
      rw [h2]
      exact parseE_append r b true h
    · have h1 : parseE false (x :: r) = consP (pt x) (parseE false r) := by simp [parseE, hx]
      have h2 : parseE false (x :: r ++ b) = consP (pt x) (parseE false (r ++ b)) := by simp [parseE, hx]
      rw [h1] at h ⊢
      rw [h2, parseE_append r b false h]
      rfl
theorem parse_append (a b : List L) (h : (parse a).2 = true) : parse (a ++ b) = ((parse a).1 ++ (parse b).1, (parse b).2) := parseE_append a b false h
theorem parseE_length : ∀ (l : List L) (e : Bool), (parseE e l).1.length ≤ l.length
  | [], e => by cases e <;> simp [parseE]
  | x :: r, true => by
    have := parseE_length r false
    simp [parseE, consP]
    exact this
  | x :: r, false => by
    have h1 := parseE_length r false
    have h2 := parseE_length r true
    by_cases hx : x = [92]
    · have h3 : parseE false (x :: r) = parseE true r := by simp [parseE, hx]
      rw [h3, List.length_cons]
      omega
    · have h3 : parseE false (x :: r) = consP (pt x) (parseE false r) := by simp [parseE, hx]
      rw [h3, List.length_cons]
      simp only [consP, List.length_cons]
      omega
/-! ### like -/
def anyTail (f : List L → Bool) : List L → Bool
  | [] => f []
  | t :: r => f (t :: r) || anyTail f r
def matchL : List P → List L → Bool
  | [], ts => ts.isEmpty
  | .any :: ps, ts => anyTail (matchL ps) ts
  | .one :: _, [] => false
  | .one :: ps, _ :: r => matchL ps r
  | .lit _ :: _, [] => false
  | .lit s :: ps, t :: r => s == t && matchL ps r
theorem anyTail_iff (f : List L → Bool) : ∀ ts : List L, anyTail f ts = true ↔ ∃ k, k ≤ ts.length ∧ f (ts.drop k) = true
  | [] => by
    constructor
    · intro h; exact ⟨0, Nat.le_refl _, h⟩
    · rintro ⟨k, hk, h⟩; simpa [anyTail] using h
  | t :: r => by
    have ih := anyTail_iff f r
    constructor
    · intro h
      simp only [anyTail, Bool.or_eq_true] at h
      rcases h with h | h
      · exact ⟨0, by omega, h⟩
      · obtain ⟨k, hk, h⟩ := ih.1 h
        exact ⟨k + 1, by simp; omega, h⟩
    · rintro ⟨k, hk, h⟩
      simp only [anyTail, Bool.or_eq_true]
      cases k with
      | zero => exact Or.inl h
      | succ k => exact Or.inr (ih.2 ⟨k, by simpa using hk, h⟩)
theorem matchL_append : ∀ (ps qs : List P) (ts : List L), matchL (ps ++ qs) ts = true ↔ ∃ k, k ≤ ts.length ∧ matchL ps (ts.take k) = true ∧ matchL qs (ts.drop k) = true
  | [], qs, ts => by
    constructor
    · intro h; exact ⟨0, by omega, rfl, h⟩
    · rintro ⟨k, hk, h1, h2⟩
      have : ts.take k = [] := by simpa [matchL] using h1
      have hz : k = 0 ∨ ts = [] := by simpa using this
      rcases hz with rfl | rfl
      · exact h2
      · simpa using h2
  | .any :: ps, qs, ts => by
    have ih := matchL_append ps qs
    show anyTail (matchL (ps ++ qs)) ts = true ↔ ∃ k, k ≤ ts.length ∧ anyTail (matchL ps) (ts.take k) = true ∧ _
    rw [anyTail_iff]
    constructor
    · rintro ⟨i, hi, h⟩
      obtain ⟨k, hk, h1, h2⟩ := (ih _).1 h
      rw [List.length_drop] at hk
      refine ⟨i + k, by omega, (anyTail_iff _ _).2 ⟨i, by rw [List.length_take]; omega, ?_⟩, ?_⟩
      · rw [List.drop_take, Nat.add_sub_cancel_left]; exact h1
      · rw [← List.drop_drop]; exact h2
    · rintro ⟨k, hk, h1, h2⟩
      obtain ⟨i, hi, h1⟩ := (anyTail_iff _ _).1 h1
      rw [List.length_take] at hi
      refine ⟨i, by omega, (ih _).2 ⟨k - i, by rw [List.length_drop]; omega, ?_, ?_⟩⟩
      · rw [← List.drop_take]; exact h1
      · rw [List.drop_drop, show i + (k - i) = k by omega]; exact h2
  | .one :: ps, qs, [] => by
    constructor
    · intro h; simp [matchL] at h
    · rintro ⟨k, hk, h1, h2⟩; simp [matchL] at h1
  | .one :: ps, qs, t :: r => by
    have ih := matchL_append ps qs r
    show matchL (ps ++ qs) r = true ↔ _
    rw [ih]
    constructor
    · rintro ⟨k, hk, h1, h2⟩; exact ⟨k + 1, by simpa using hk, h1, h2⟩
    · rintro ⟨k, hk, h1, h2⟩
      cases k with
      | zero => simp [matchL] at h1
      | succ k => exact ⟨k, by simpa using hk, h1, h2⟩
  | .lit s :: ps, qs, [] => by
    constructor
    · intro h; simp [matchL] at h
    · rintro ⟨k, hk, h1, h2⟩; simp [matchL] at h1
  | .lit s :: ps, qs, t :: r => by
    have ih := matchL_append ps qs r
    show (s == t && matchL (ps ++ qs) r) = true ↔ _
    rw [Bool.and_eq_true, ih]
    constructor
    · rintro ⟨h0, k, hk, h1, h2⟩; exact ⟨k + 1, by simpa using hk, by simp only [List.take_succ_cons, matchL, Bool.and_eq_true]; exact ⟨h0, h1⟩, h2⟩
    · rintro ⟨k, hk, h1, h2⟩
      cases k with
      | zero => simp [matchL] at h1
      | succ k =>
        simp only [List.take_succ_cons, matchL, Bool.and_eq_true] at h1
        exact ⟨h1.1, k, by simpa using hk, h1.2, h2⟩
theorem matchL_any (ts : List L) : matchL [.any] ts = true := (anyTail_iff _ _).2 ⟨ts.length, Nat.le_refl _, by simp [matchL]⟩
theorem matchL_any_front (ps : List P) (ts : List L) (h : matchL ps ts = true) : matchL (.any :: ps) ts = true := (anyTail_iff _ _).2 ⟨0, by omega, h⟩
theorem matchL_any_back (ps : List P) (ts : List L) (h : matchL ps ts = true) : matchL (ps ++ [.any]) ts = true := (matchL_append _ _ _).2 ⟨ts.length, Nat.le_refl _, by rw [List.take_length]; exact h, matchL_any _⟩
theorem matchL_lits : ∀ (xs ts : List L), matchL (xs.map P.lit) ts = (xs == ts)
  | [], [] => rfl
  | [], t :: r => rfl
  | x :: xs, [] => rfl
  | x :: xs, t :: r => by
    simp only [List.map_cons, matchL, matchL_lits xs r]
    rfl
theorem matchL_ones : ∀ (n : Nat) (ts : List L), matchL (List.replicate n P.one) ts = (ts.length == n)
  | 0, [] => rfl
  | 0, t :: r => rfl
  | n + 1, [] => rfl
  | n + 1, t :: r => by
    simp only [List.replicate_succ, matchL, matchL_ones n r, List.length_cons]
    rw [Bool.eq_iff_iff]
    simp
theorem matchL_nil_any : ∀ ps : List P, matchL (.any :: ps) [] = matchL ps []
  | _ => rfl
/-! ### the table -/
theorem matchL_snoc_any_zero (ps : List P) (ts : List L) : matchL (ps ++ [.any]) (ts.take 0) = matchL ps (ts.take 0) := by
  rw [Bool.eq_iff_iff, matchL_append]
  constructor
  · rintro ⟨k, hk, h1, h2⟩
    simpa using h1
  · intro h
    exact ⟨0, by omega, by simpa using h, by simp [matchL, anyTail]⟩
theorem matchL_snoc_any_succ (ps : List P) (ts : List L) (k : Nat) (hk : k < ts.length) : matchL (ps ++ [.any]) (ts.take (k + 1)) = (matchL ps (ts.take (k + 1)) || matchL (ps ++ [.any]) (ts.take k)) := by
  rw [Bool.eq_iff_iff, Bool.or_eq_true, matchL_append, matchL_append]
  constructor
  · rintro ⟨j, hj, h1, h2⟩
    rw [List.length_take] at hj
    by_cases he : j = k + 1
    · subst he
      left
      rw [List.take_take, Nat.min_self] at h1
      exact h1
    · right
      refine ⟨j, by rw [List.length_take]; omega, ?_, matchL_any _⟩
      rw [List.take_take, Nat.min_eq_left (by omega)] at h1 ⊢
      exact h1
  · rintro (h | ⟨j, hj, h1, h2⟩)
    · exact ⟨k + 1, by rw [List.length_take]; omega, by rw [List.take_take, Nat.min_self]; exact h, matchL_any _⟩
    · rw [List.length_take] at hj
      refine ⟨j, by rw [List.length_take]; omega, ?_, matchL_any _⟩
      rw [List.take_take, Nat.min_eq_left (by omega)] at h1 ⊢
      exact h1
def oneL (p : P) (t : L) : Bool := match p with | .any => false | .one => true | .lit s => s == t
theorem matchL_single (p : P) (hp : p ≠ .any) (ts : List L) : matchL [p] ts = true ↔ ∃ t, ts = [t] ∧ oneL p t = true := by
  cases p with
  | any => exact absurd rfl hp
  | one =>
    cases ts with
    | nil => simp [matchL]
    | cons t r => simp [matchL, oneL]
  | lit s =>
    cases ts with
    | nil => simp [matchL]
    | cons t r =>
      simp [matchL, oneL, and_comm]
      intro _
      exact eq_comm
theorem matchL_snoc_zero (ps : List P) (p : P) (hp : p ≠ .any) (ts : List L) : matchL (ps ++ [p]) (ts.take 0) = false := by
  rw [← Bool.not_eq_true, matchL_append]
  rintro ⟨k, hk, h1, h2⟩
  obtain ⟨t, ht, _⟩ := (matchL_single p hp _).1 h2
  simp at ht
theorem matchL_snoc_succ (ps : List P) (p : P) (hp : p ≠ .any) (ts : List L) (k : Nat) (t : L) (ht : ts[k]? = some t) : matchL (ps ++ [p]) (ts.take (k + 1)) = (matchL ps (ts.take k) && oneL p t) := by
  have hk : k < ts.length := (List.getElem?_eq_some_iff.1 ht).1
  have hte : ts.take (k + 1) = ts.take k ++ [t] := by rw [List.take_add_one, ht]; rfl
  rw [Bool.eq_iff_iff, Bool.and_eq_true, matchL_append]
  constructor
  · rintro ⟨j, hj, h1, h2⟩
    obtain ⟨t', ht', ho⟩ := (matchL_single p hp _).1 h2
    rw [List.length_take] at hj
    have hl := congrArg List.length ht'
    rw [List.length_drop, List.length_take, List.length_singleton] at hl
    have hjk : j = k := by omega
    subst hjk
    rw [hte, List.drop_append_of_le_length (by rw [List.length_take]; omega)] at ht'
    rw [List.drop_of_length_le (by rw [List.length_take]; omega)] at ht'
    simp at ht'
    subst ht'
    rw [List.take_take, Nat.min_eq_left (by omega)] at h1
    exact ⟨h1, ho⟩
  · rintro ⟨h1, h2⟩
    refine ⟨k, by rw [List.length_take]; omega, by rw [List.take_take, Nat.min_eq_left (by omega)]; exact h1, (matchL_single p hp _).2 ⟨t, ?_, h2⟩⟩
    rw [hte, List.drop_append_of_le_length (by rw [List.length_take]; omega), List.drop_of_length_le (by rw [List.length_take]; omega)]
    rfl
theorem take_drop_snoc (ps : List P) (i : Nat) (p : P) (h : ps[i]? = some p) : ps.take (i + 1) = ps.take i ++ [p] := by rw [List.take_add_one, h]; rfl
/-! ### fixed -/
def fixed : List P → L × Bool
  | [] => ([], true)
  | .any :: _ => ([], false)
  | .one :: _ => ([], false)
  | .lit s :: r => (s ++ (fixed r).1, (fixed r).2)
theorem fixed_prefix : ∀ (ps : List P) (ts : List L), matchL ps ts = true → ∃ r, ts.flatten = (fixed ps).1 ++ r ∧ ((fixed ps).2 = true → r = [])
  | [], ts, h => by
    have : ts = [] := by simpa [matchL] using h
    subst this
    exact ⟨[], rfl, fun _ => rfl⟩
  | .any :: ps, ts, h => ⟨ts.flatten, rfl, fun h => by simp [fixed] at h⟩
  | .one :: ps, ts, h => ⟨ts.flatten, rfl, fun h => by simp [fixed] at h⟩
  | .lit s :: ps, [], h => by simp [matchL] at h
  | .lit s :: ps, t :: r, h => by
    simp only [matchL, Bool.and_eq_true, beq_iff_eq] at h
    obtain ⟨r', h1, h2⟩ := fixed_prefix ps r h.2
    refine ⟨r', ?_, h2⟩
    rw [List.flatten_cons, h1, h.1, fixed, List.append_assoc]
/-- all parts stand for themselves -/
theorem fixed_alone : ∀ (ps : List P), (fixed ps).2 = true → ∃ xs : List L, ps = xs.map P.lit ∧ (fixed ps).1 = xs.flatten
  | [], _ => ⟨[], rfl, rfl⟩
  | .any :: ps, h => by simp [fixed] at h
  | .one :: ps, h => by simp [fixed] at h
  | .lit s :: ps, h => by
    obtain ⟨xs, h1, h2⟩ := fixed_alone ps h
    exact ⟨s :: xs, by rw [h1]; rfl, by rw [fixed, h2]; rfl⟩
/-- the letters that stand for themselves are letters of the pattern -/
theorem parseE_lits : ∀ (l : List L) (e : Bool) (s : L), P.lit s ∈ (parseE e l).1 → s ∈ l
  | [], e, s, h => by cases e <;> simp [parseE] at h
  | x :: r, true, s, h => by
    simp only [parseE, consP, List.mem_cons] at h ⊢
    rcases h with h | h
    · cases h; exact Or.inl rfl
    · exact Or.inr (parseE_lits r false s h)
  | x :: r, false, s, h => by
    by_cases hx : x = [92]
    · have h3 : parseE false (x :: r) = parseE true r := by simp [parseE, hx]
      rw [h3] at h
      exact List.mem_cons_of_mem _ (parseE_lits r true s h)
    · have h3 : parseE false (x :: r) = consP (pt x) (parseE false r) := by simp [parseE, hx]
      rw [h3] at h
      simp only [consP, List.mem_cons] at h ⊢
      rcases h with h | h
      · left
        unfold pt at h
        split at h
        · cases h
        · split at h
          · cases h
          · cases h; rfl
      · exact Or.inr (parseE_lits r false s h)
/-! ### quote -/
def special (x : L) : Bool := x == [37] || x == [95] || x == [92]
def escL (x : L) : List L := if special x then [[92], x] else [x]
def quote (l : L) : L := ((letters l).flatMap escL).flatten
theorem special_ascii {x : L} (h : special x = true) : ∃ c : UInt8, x = [c] ∧ c.toNat < 128 := by
  simp only [special, Bool.or_eq_true, beq_iff_eq] at h
  rcases h with (rfl | rfl) | rfl
  · exact ⟨37, rfl, by decide⟩
  · exact ⟨95, rfl, by decide⟩
  · exact ⟨92, rfl, by decide⟩
theorem quote_nil : quote [] = [] := rfl
theorem quote_step (l : L) (hne : l ≠ []) : quote l = (escL (l.take (decodeL l).2)).flatten ++ quote (l.drop (decodeL l).2) := by
  unfold quote
  rw [letters_step l hne, List.flatMap_cons, List.flatten_append]
/-- a text and its quote go on alike -/
theorem quote_alike (l : L) : Alike l (quote l) := by
  refine letters_ind (p := fun l => Alike l (quote l)) .nil (fun l hne ih => ?_) _ l (Nat.le_refl _)
  rw [quote_step l hne]
  by_cases hs : special (l.take (decodeL l).2) = true
  · obtain ⟨c, hc, ha⟩ := special_ascii hs
    rw [escL, if_pos hs, hc]
    cases l with
    | nil => exact absurd rfl hne
    | cons b t =>
      have hw := decodeL_width (b :: t)
      obtain ⟨w, hw'⟩ : ∃ w, (decodeL (b :: t)).2 = w + 1 := ⟨(decodeL (b :: t)).2 - 1, by omega⟩
      rw [hw', List.take_succ_cons, List.cons.injEq] at hc
      rw [hc.1]
      exact .both _ _ _ _ ha (by decide)
  · rw [escL, if_neg hs, List.flatten_singleton]
    have := Alike.app (l.take (decodeL l).2) ih
    rw [List.take_append_drop] at this
    exact this
theorem letters_quote (l : L) : letters (quote l) = (letters l).flatMap escL := by
  refine letters_ind (p := fun l => letters (quote l) = (letters l).flatMap escL) rfl (fun l hne ih => ?_) _ l (Nat.le_refl _)
  show letters (quote l) = (letters l).flatMap escL
  rw [letters_step l hne, List.flatMap_cons, ← ih, quote_step l hne]
  by_cases hs : special (l.take (decodeL l).2) = true
  · obtain ⟨c, hc, ha⟩ := special_ascii hs
    rw [escL, if_pos hs, hc]
    show letters (92 :: c :: quote _) = _
    rw [letters_cons 92 _ (by decide), letters_cons c _ ha]
    rfl
  · rw [escL, if_neg hs, List.flatten_singleton, List.singleton_append]
    have hw := decodeL_width l
    have hle := decodeL_le l hne
    have hal := Alike.app (l.take (decodeL l).2) (quote_alike (l.drop (decodeL l).2))
    rw [List.take_append_drop] at hal
    obtain ⟨x, hx⟩ : ∃ x, l.take (decodeL l).2 = x := ⟨_, rfl⟩
    have hxl : x.length = (decodeL l).2 := by rw [← hx, List.length_take, Nat.min_eq_left hle]
    have hd : decodeL (x ++ quote (l.drop (decodeL l).2)) = decodeL l := by
      rw [hx] at hal
      cases l with
      | nil => exact absurd rfl hne
      | cons b t =>
        cases x with
        | nil => simp at hxl; omega
        | cons c x =>
          have hbc : b = c := by
            obtain ⟨w, hw'⟩ : ∃ w, (decodeL (b :: t)).2 = w + 1 := ⟨(decodeL (b :: t)).2 - 1, by omega⟩
            rw [hw', List.take_succ_cons, List.cons.injEq] at hx
            exact hx.1
          subst hbc
          rw [List.cons_append] at hal ⊢
          by_cases hb : b.toNat < 128
          · rw [decodeL_ascii b _ hb, decodeL_ascii b _ hb]
          refine (decodeL_alike b ?_).symm
          cases hal with
          | both _ _ _ _ h1 h2 => exact absurd h1 hb
          | same _ _ _ h => exact h
    rw [hx]
    rw [letters_step (x ++ quote _) (by intro h0; have := congrArg List.length h0; simp at this; rw [this.1] at hxl; simp at hxl; omega), hd, ← hxl, List.take_left', List.drop_left'] <;> rfl
end Like
