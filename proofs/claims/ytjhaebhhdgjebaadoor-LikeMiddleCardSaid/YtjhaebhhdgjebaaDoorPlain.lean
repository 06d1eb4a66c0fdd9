/-
  PROVED: plain laws on the letters of a text (letters_step, letters_flat, letters_ascii_mid, letters_valid_append, letters_flatten_valid). Conditions: none.
-/
import Derived.Lib.TrimUEq
import Derived.Lib.TrimAscii
import Derived.Lib.MapLaws
import Derived.Lib.ValidLaws
set_option linter.unusedSimpArgs false
namespace Like
open Go.Lib
abbrev L := List UInt8
def lettersF : Nat → L → List L
  | 0, _ => []
  | n + 1, l => if l = [] then [] else l.take (decodeL l).2 :: lettersF n (l.drop (decodeL l).2)
/-- a text, letter by letter -/
def letters (l : L) : List L := lettersF l.length l
theorem lettersF_nil : ∀ n, lettersF n [] = []
  | 0 => rfl
  | _ + 1 => by simp [lettersF]
theorem lettersF_fuel : ∀ (n m : Nat) (l : L), l.length ≤ n → l.length ≤ m → lettersF n l = lettersF m l
  | 0, m, l, hn, _ => by
    have : l = [] := List.eq_nil_of_length_eq_zero (by omega)
    subst this
    rw [lettersF_nil, lettersF_nil]
  | n + 1, 0, l, _, hm => by
    have : l = [] := List.eq_nil_of_length_eq_zero (by omega)
    subst this
    rw [lettersF_nil, lettersF_nil]
  | n + 1, m + 1, l, hn, hm => by
    unfold lettersF
    by_cases hne : l = []
    · simp [hne]
    · have hw := decodeL_width l
      have hl : 0 < l.length := List.length_pos_iff.2 hne
      rw [if_neg hne, if_neg hne, lettersF_fuel n m (l.drop (decodeL l).2) (by rw [List.length_drop]; omega) (by rw [List.length_drop]; omega)]
theorem letters_nil : letters [] = [] := rfl
theorem letters_step (l : L) (hne : l ≠ []) : letters l = l.take (decodeL l).2 :: letters (l.drop (decodeL l).2) := by
  have hl : 0 < l.length := List.length_pos_iff.2 hne
  have hw := decodeL_width l
  obtain ⟨n, hn⟩ : ∃ n, l.length = n + 1 := ⟨l.length - 1, by omega⟩
  unfold letters
  rw [hn]
  show (if l = [] then [] else _) = _
  rw [if_neg hne, lettersF_fuel n (l.drop (decodeL l).2).length _ (by rw [List.length_drop]; omega) (Nat.le_refl _)]
theorem letters_cons (c : UInt8) (r : L) (h : c.toNat < 128) : letters (c :: r) = [c] :: letters r := by
  rw [letters_step _ (by simp), decodeL_ascii c r h]
  rfl
/-- induction by letters -/
theorem letters_ind {p : L → Prop} (h0 : p []) (h1 : ∀ l, l ≠ [] → p (l.drop (decodeL l).2) → p l) : ∀ (n : Nat) (l : L), l.length ≤ n → p l
  | 0, l, hn => by
    have : l = [] := List.eq_nil_of_length_eq_zero (by omega)
    subst this
    exact h0
  | n + 1, l, hn => by
    by_cases hne : l = []
    · subst hne; exact h0
    · have hw := decodeL_width l
      have hl : 0 < l.length := List.length_pos_iff.2 hne
      exact h1 l hne (letters_ind h0 h1 n _ (by rw [List.length_drop]; omega))
theorem letters_flat (l : L) : (letters l).flatten = l := by
  refine letters_ind (p := fun l => (letters l).flatten = l) rfl (fun l hne ih => ?_) _ l (Nat.le_refl _)
  rw [letters_step l hne, List.flatten_cons, ih, List.take_append_drop]
theorem letters_inj {a b : L} (h : letters a = letters b) : a = b := by rw [← letters_flat a, h, letters_flat]
theorem letters_length (l : L) : (letters l).length ≤ l.length := by
  refine letters_ind (p := fun l => (letters l).length ≤ l.length) (Nat.le_refl _) (fun l hne ih => ?_) _ l (Nat.le_refl _)
  have hw := decodeL_width l
  have hl : 0 < l.length := List.length_pos_iff.2 hne
  have hle := decodeL_le l hne
  have ih' : (letters (l.drop (decodeL l).2)).length ≤ (l.drop (decodeL l).2).length := ih
  show (letters l).length ≤ l.length
  rw [letters_step l hne, List.length_cons]
  rw [List.length_drop] at ih'
  exact Nat.le_trans (Nat.succ_le_succ ih') (by omega)
theorem letters_ne (l : L) : ∀ x ∈ letters l, x ≠ [] := by
  refine letters_ind (p := fun l => ∀ x ∈ letters l, x ≠ []) (by simp [letters_nil]) (fun l hne ih => ?_) _ l (Nat.le_refl _)
  intro x hx
  rw [letters_step l hne, List.mem_cons] at hx
  rcases hx with rfl | hx
  · have hw := decodeL_width l
    have hl : 0 < l.length := List.length_pos_iff.2 hne
    have hle := decodeL_le l hne
    intro h0
    have := congrArg List.length h0
    rw [List.length_take, Nat.min_eq_left hle, List.length_nil] at this
    omega
  · exact ih x hx
/-! ### what follows a letter -/
/-- both lists go on alike, till both have a byte below 128 or end -/
inductive Alike : L → L → Prop
  | nil : Alike [] []
  | left (c r) : c.toNat < 128 → Alike (c :: r) []
  | right (c r) : c.toNat < 128 → Alike [] (c :: r)
  | both (c r d s) : c.toNat < 128 → d.toNat < 128 → Alike (c :: r) (d :: s)
  | same (b y z) : Alike y z → Alike (b :: y) (b :: z)
theorem decodeN_alike {n m b0 b1 b2 b3 c1 c2 c3 : Nat} (h1 : (1 < n ∧ b1 / 64 = 2) ↔ (1 < m ∧ c1 / 64 = 2)) (e1 : (1 < n ∧ b1 / 64 = 2) → b1 = c1)
    (h2 : (1 < n ∧ b1 / 64 = 2) → ((2 < n ∧ b2 / 64 = 2) ↔ (2 < m ∧ c2 / 64 = 2))) (e2 : (1 < n ∧ b1 / 64 = 2) → (2 < n ∧ b2 / 64 = 2) → b2 = c2)
    (h3 : (1 < n ∧ b1 / 64 = 2) → (2 < n ∧ b2 / 64 = 2) → ((3 < n ∧ b3 / 64 = 2) ↔ (3 < m ∧ c3 / 64 = 2))) (e3 : (1 < n ∧ b1 / 64 = 2) → (2 < n ∧ b2 / 64 = 2) → (3 < n ∧ b3 / 64 = 2) → b3 = c3) :
    decodeN n b0 b1 b2 b3 = decodeN m b0 c1 c2 c3 := by
  by_cases p1 : (1 < n ∧ b1 / 64 = 2)
  · have q1 := h1.1 p1
    have r1 := e1 p1
    have h2' := h2 p1
    by_cases p2 : (2 < n ∧ b2 / 64 = 2)
    · have q2 := h2'.1 p2
      have r2 := e2 p1 p2
      have h3' := h3 p1 p2
      by_cases p3 : (3 < n ∧ b3 / 64 = 2)
      · have q3 := h3'.1 p3
        have r3 := e3 p1 p2 p3
        subst r1 r2 r3
        simp only [decodeN, p1, q1, p2, q2, p3, q3, and_false, and_true, true_and, if_false]
      · have q3 : ¬ (3 < m ∧ c3 / 64 = 2) := fun h => p3 (h3'.2 h)
        subst r1 r2
        simp only [decodeN, p1, q1, p2, q2, p3, q3, and_false, and_true, true_and, if_false]
    · have q2 : ¬ (2 < m ∧ c2 / 64 = 2) := fun h => p2 (h2'.2 h)
      subst r1
      simp only [decodeN, p1, q1, p2, q2, false_and, and_false, and_true, true_and, if_false]
  · have q1 : ¬ (1 < m ∧ c1 / 64 = 2) := fun h => p1 (h1.2 h)
    simp only [decodeN, p1, q1, false_and, and_false, if_false]
theorem decodeL_alike {y z : L} (b : UInt8) (h : Alike y z) : decodeL (b :: y) = decodeL (b :: z) := by
  rw [decodeL_N, decodeL_N]
  simp only [List.getD_cons_zero]
  cases h with
  | nil => rfl
  | left c r hc => apply decodeN_alike <;> simp <;> omega
  | right c r hc => apply decodeN_alike <;> simp <;> omega
  | both c r d s hc hd => apply decodeN_alike <;> simp <;> omega
  | same b1 y z h =>
    cases h with
    | nil => rfl
    | left c r hc => apply decodeN_alike <;> simp <;> omega
    | right c r hc => apply decodeN_alike <;> simp <;> omega
    | both c r d s hc hd => apply decodeN_alike <;> simp <;> omega
    | same b2 y z h =>
      cases h with
      | nil => rfl
      | left c r hc => apply decodeN_alike <;> simp <;> omega
      | right c r hc => apply decodeN_alike <;> simp <;> omega
      | both c r d s hc hd => apply decodeN_alike <;> simp <;> omega
      | same b3 y z h => apply decodeN_alike <;> simp
theorem Alike.refl : ∀ y : L, Alike y y
  | [] => .nil
  | b :: y => .same b y y (Alike.refl y)
theorem Alike.app {y z : L} : ∀ x : L, Alike y z → Alike (x ++ y) (x ++ z)
  | [], h => h
  | b :: x, h => .same b _ _ (Alike.app x h)
theorem Alike.end_ascii (c : UInt8) (r : L) (hc : c.toNat < 128) : ∀ y : L, Alike y (y ++ c :: r)
  | [] => .right c r hc
  | b :: y => .same b _ _ (Alike.end_ascii c r hc y)
theorem decodeL_ascii_end (l : L) (hne : l ≠ []) (c : UInt8) (r : L) (hc : c.toNat < 128) : decodeL (l ++ c :: r) = decodeL l := by
  cases l with
  | nil => exact absurd rfl hne
  | cons b y => exact (decodeL_alike b (Alike.end_ascii c r hc y)).symm
theorem letters_ascii_mid (l : L) (c : UInt8) (r : L) (hc : c.toNat < 128) : letters (l ++ c :: r) = letters l ++ letters (c :: r) := by
  refine letters_ind (p := fun l => letters (l ++ c :: r) = letters l ++ letters (c :: r)) rfl (fun l hne ih => ?_) _ l (Nat.le_refl _)
  have hle := decodeL_le l hne
  rw [letters_step (l ++ c :: r) (by simp), letters_step l hne, decodeL_ascii_end l hne c r hc, List.take_append_of_le_length hle, List.drop_append_of_le_length hle, ih, List.cons_append]
/-! ### right UTF-8 -/
def isErr (p : Nat × Nat) : Prop := p.1 = 65533 ∧ p.2 = 1
set_option maxRecDepth 100000 in
set_option maxHeartbeats 2000000 in
theorem decodeN_stay {n m b0 b1 b2 b3 c1 c2 c3 : Nat} (hnm : n ≤ m) (e1 : 1 < n → c1 = b1) (e2 : 2 < n → c2 = b2) (e3 : 3 < n → c3 = b3) (hv : ¬ isErr (decodeN n b0 b1 b2 b3)) :
    decodeN m b0 c1 c2 c3 = decodeN n b0 b1 b2 b3 := by
  unfold isErr at hv
  unfold decodeN at hv ⊢
  by_cases p1 : 1 < n
  · rw [e1 p1]
    by_cases p2 : 2 < n
    · rw [e2 p2]
      by_cases p3 : 3 < n
      · rw [e3 p3]
        simp only [p1, p2, p3, show 1 < m by omega, show 2 < m by omega, show 3 < m by omega]
      · simp only [p1, p2, p3, show 1 < m by omega, show 2 < m by omega, false_and, and_false, if_false] at hv ⊢
        repeat' split
        all_goals first | rfl | (exfalso; omega) | (simp_all; done)
    · have p3 : ¬ 3 < n := by omega
      simp only [p1, p2, p3, show 1 < m by omega, false_and, and_false, if_false] at hv ⊢
      repeat' split
      all_goals first | rfl | (exfalso; omega) | (simp_all; done)
  · have p2 : ¬ 2 < n := by omega
    have p3 : ¬ 3 < n := by omega
    simp only [p1, p2, p3, false_and, and_false, if_false] at hv ⊢
    repeat' split
    all_goals first | rfl | (exfalso; omega) | (simp_all; done)
theorem getD_app_left (a b : L) (i : Nat) (h : i < a.length) : (a ++ b).getD i 0 = a.getD i 0 := by
  simp [List.getD_eq_getElem?_getD, List.getElem?_append_left h]
theorem decodeL_stay (a b : L) (hne : a ≠ []) (hv : ¬ isErr (decodeL a)) : decodeL (a ++ b) = decodeL a := by
  have hl : 0 < a.length := List.length_pos_iff.2 hne
  rw [decodeL_N] at hv
  rw [decodeL_N (a ++ b), decodeL_N a, getD_app_left a b 0 hl]
  exact decodeN_stay (by simp) (fun h => by rw [getD_app_left a b 1 h]) (fun h => by rw [getD_app_left a b 2 h]) (fun h => by rw [getD_app_left a b 3 h]) hv
theorem validD_step' (l : L) (hne : l ≠ []) (hv : validD l = true) : ¬ isErr (decodeL l) ∧ validD (l.drop (decodeL l).2) = true := by
  rw [validD_step l hne] at hv
  split at hv
  · simp at hv
  · exact ⟨by assumption, hv⟩
theorem letters_valid_append (a b : L) (hv : validD a = true) : letters (a ++ b) = letters a ++ letters b := by
  revert hv
  refine letters_ind (p := fun a => validD a = true → letters (a ++ b) = letters a ++ letters b) (fun _ => rfl) (fun l hne ih hv => ?_) _ a (Nat.le_refl _)
  obtain ⟨h1, h2⟩ := validD_step' l hne hv
  have hle := decodeL_le l hne
  rw [letters_step (l ++ b) (by simp [hne]), letters_step l hne, decodeL_stay l b hne h1, List.take_append_of_le_length hle, List.drop_append_of_le_length hle, ih h2, List.cons_append]
set_option maxRecDepth 100000 in
set_option maxHeartbeats 2000000 in
theorem decodeN_cut {n w b0 b1 b2 b3 c1 c2 c3 : Nat} (hw : (decodeN n b0 b1 b2 b3).2 = w) (hv : ¬ isErr (decodeN n b0 b1 b2 b3)) (e1 : 1 < w → c1 = b1) (e2 : 2 < w → c2 = b2) (e3 : 3 < w → c3 = b3) :
    decodeN w b0 c1 c2 c3 = decodeN n b0 b1 b2 b3 := by
  unfold isErr at hv
  unfold decodeN at hv hw ⊢
  by_cases p0 : b0 < 128
  · simp only [p0, if_true]
  simp only [p0, if_false] at hv hw ⊢
  by_cases p1 : b0 / 32 = 6 ∧ (1 < n ∧ b1 / 64 = 2)
  · rw [if_pos p1] at hv hw ⊢
    split at hw
    · have hw : 2 = w := hw
      subst hw
      rw [e1 (by omega)]
      simp_all
    · simp_all
  simp only [p1, if_false] at hv hw ⊢
  by_cases p2 : b0 / 16 = 14 ∧ (1 < n ∧ b1 / 64 = 2) ∧ (2 < n ∧ b2 / 64 = 2)
  · rw [if_pos p2] at hv hw ⊢
    split at hw
    · have hw : 3 = w := hw
      subst hw
      rw [e1 (by omega), e2 (by omega)]
      have : ¬ b0 / 32 = 6 := by omega
      simp_all
    · simp_all
  simp only [p2, if_false] at hv hw ⊢
  by_cases p3 : b0 / 8 = 30 ∧ (1 < n ∧ b1 / 64 = 2) ∧ (2 < n ∧ b2 / 64 = 2) ∧ (3 < n ∧ b3 / 64 = 2)
  · rw [if_pos p3] at hv hw ⊢
    split at hw
    · have hw : 4 = w := hw
      subst hw
      rw [e1 (by omega), e2 (by omega), e3 (by omega)]
      have : ¬ b0 / 32 = 6 := by omega
      have : ¬ b0 / 16 = 14 := by omega
      simp_all
    · simp_all
  simp only [p3, if_false] at hv
  simp at hv
theorem getD_take' (l : L) (w i : Nat) (h : i < w) : (l.take w).getD i 0 = l.getD i 0 := by
  simp [List.getD_eq_getElem?_getD, List.getElem?_take, h]
theorem decodeL_cut (l : L) (hne : l ≠ []) (hv : ¬ isErr (decodeL l)) : decodeL (l.take (decodeL l).2) = decodeL l := by
  have hle := decodeL_le l hne
  have hw := decodeL_width l
  rw [decodeL_N (l.take (decodeL l).2), List.length_take, Nat.min_eq_left hle, getD_take' _ _ _ (by omega)]
  rw [decodeL_N l] at hv
  obtain ⟨w, hww⟩ : ∃ w, (decodeL l).2 = w := ⟨_, rfl⟩
  rw [hww, decodeL_N l]
  rw [decodeL_N l] at hww
  exact decodeN_cut hww hv (fun h => by rw [getD_take' _ _ _ h]) (fun h => by rw [getD_take' _ _ _ h]) (fun h => by rw [getD_take' _ _ _ h])
/-- a letter by itself, right UTF-8 -/
def Lone (x : L) : Prop := letters x = [x] ∧ validD x = true
theorem lone_head (l : L) (hne : l ≠ []) (hv : ¬ isErr (decodeL l)) : Lone (l.take (decodeL l).2) := by
  have hw := decodeL_width l
  have hle := decodeL_le l hne
  have hl : 0 < l.length := List.length_pos_iff.2 hne
  have hlen : (l.take (decodeL l).2).length = (decodeL l).2 := by rw [List.length_take, Nat.min_eq_left hle]
  have hne' : l.take (decodeL l).2 ≠ [] := by
    intro h0
    rw [h0] at hlen
    simp at hlen
    omega
  have hcut := decodeL_cut l hne hv
  generalize l.take (decodeL l).2 = x at *
  have hwx : (decodeL x).2 = x.length := by rw [hcut, hlen]
  constructor
  · rw [letters_step x hne', hwx, List.take_length, List.drop_length, letters_nil]
  · rw [validD_step x hne', hwx, List.drop_length, validD_nil, if_neg]
    intro h
    apply hv
    rw [← hcut]
    unfold isErr
    rw [hwx]
    exact h
theorem letters_lone (l : L) (hv : validD l = true) : ∀ x ∈ letters l, Lone x := by
  revert hv
  refine letters_ind (p := fun l => validD l = true → ∀ x ∈ letters l, Lone x) (fun _ => by simp [letters_nil]) (fun l hne ih hv => ?_) _ l (Nat.le_refl _)
  obtain ⟨h1, h2⟩ := validD_step' l hne hv
  intro x hx
  rw [letters_step l hne, List.mem_cons] at hx
  rcases hx with rfl | hx
  · exact lone_head l hne h1
  · exact ih h2 x hx
theorem letters_flatten : ∀ xs : List L, (∀ x ∈ xs, Lone x) → letters xs.flatten = xs
  | [], _ => rfl
  | x :: r, h => by
    rw [List.flatten_cons, letters_valid_append _ _ (h x (by simp)).2, (h x (by simp)).1, letters_flatten r (fun y hy => h y (by simp [hy]))]
    rfl
/-- the rune and the letter -/
theorem rune_letter (l : L) (hne : l ≠ []) (c : UInt8) (hc : c.toNat < 128) : (decodeL l).1 = c.toNat ↔ l.take (decodeL l).2 = [c] := by
  cases l with
  | nil => exact absurd rfl hne
  | cons b t =>
    by_cases hb : b.toNat < 128
    · rw [decodeL_ascii b t hb]
      simp
      constructor
      · intro h; exact UInt8.toNat_inj.1 h
      · rintro rfl; rfl
    · constructor
      · intro h
        exfalso
        rw [decodeL_N] at h
        simp only [List.getD_cons_zero] at h
        unfold decodeN at h
        simp only [hb, if_false] at h
        repeat' split at h
        all_goals (simp only at h; omega)
      · intro h
        exfalso
        have hw := decodeL_width (b :: t)
        obtain ⟨w, hw'⟩ : ∃ w, (decodeL (b :: t)).2 = w + 1 := ⟨(decodeL (b :: t)).2 - 1, by omega⟩
        rw [hw', List.take_succ_cons, List.cons.injEq] at h
        rw [h.1] at hb
        exact hb hc
end Like
