/- THE PLAIN LAWS OF THE SUM (CRC-32Q), NO PROGRAM IN SIGHT: one bit's step 'stp' and its power 'stpN' over 32 bits, that both are linear and send nothing but 0 to 0; the sum by bytes ('byteStp', 'more') is the reference's bit by bit ('ref_byte'); what a sealed text's sum is; what one turned bit does to a sum. -/
namespace Go.Proofs.Ythhfhiiiniogdaa
namespace Crc

def poly : BitVec 32 := 0x814141AB#32

/-- one bit more, a 0 -/
def stp (x : BitVec 32) : BitVec 32 := (x <<< 1) ^^^ (if x.msb then poly else 0#32)
def stpN : Nat → BitVec 32 → BitVec 32
  | 0, x => x
  | n + 1, x => stpN n (stp x)

theorem stp_xor (a b : BitVec 32) : stp (a ^^^ b) = stp a ^^^ stp b := by
  unfold stp
  rw [BitVec.shiftLeft_xor_distrib, BitVec.msb_xor]
  cases ha : a.msb <;> cases hb : b.msb <;> simp
  · rw [BitVec.xor_assoc]
  · rw [BitVec.xor_assoc, BitVec.xor_assoc, BitVec.xor_comm poly]
  · rw [BitVec.xor_assoc, BitVec.xor_comm poly, BitVec.xor_assoc]
    simp
theorem stp_zero : stp 0#32 = 0#32 := by decide
theorem stpN_xor (n : Nat) : ∀ a b : BitVec 32, stpN n (a ^^^ b) = stpN n a ^^^ stpN n b := by
  induction n with
  | zero => intro a b; rfl
  | succ n ih => intro a b; simp only [stpN]; rw [stp_xor, ih]
theorem stpN_zero (n : Nat) : stpN n 0#32 = 0#32 := by
  induction n with
  | zero => rfl
  | succ n ih => simp only [stpN]; rw [stp_zero, ih]
theorem stpN_add (m n : Nat) : ∀ x, stpN (m + n) x = stpN n (stpN m x) := by
  induction m with
  | zero => intro x; simp [stpN]
  | succ m ih => intro x; rw [Nat.succ_add]; simp only [stpN]; exact ih _
theorem stp_eq_zero (x : BitVec 32) (h : stp x = 0#32) : x = 0#32 := by
  unfold stp at h
  cases hm : x.msb
  · simp [hm] at h
    apply BitVec.eq_of_getLsbD_eq
    intro i hi
    by_cases h31 : i = 31
    · subst h31
      have : x.msb = x.getLsbD 31 := by simp [BitVec.msb_eq_getLsbD_last]
      rw [← this, hm]; simp
    · have h2 := congrArg (fun y => BitVec.getLsbD y (i + 1)) h
      simp [BitVec.getLsbD_shiftLeft] at h2
      have := h2 (by omega)
      rw [this]; simp
  · simp [hm] at h
    have h2 := congrArg (fun y => BitVec.getLsbD y 0) h
    simp [poly] at h2
theorem stpN_eq_zero (n : Nat) : ∀ x, stpN n x = 0#32 → x = 0#32 := by
  induction n with
  | zero => intro x h; exact h
  | succ n ih => intro x h; exact stp_eq_zero _ (ih _ h)
theorem stp_noTop (x : BitVec 32) (h : x.msb = false) : stp x = x <<< 1 := by simp [stp, h]
theorem stpN_small (n : Nat) : ∀ x : BitVec 32, (∀ i, 32 - n ≤ i → x.getLsbD i = false) → n ≤ 32 → stpN n x = x <<< n := by
  induction n with
  | zero => intro x _ _; simp [stpN]
  | succ n ih =>
    intro x h hn
    have hm : x.msb = false := by rw [BitVec.msb_eq_getLsbD_last]; exact h 31 (by omega)
    simp only [stpN]
    rw [stp_noTop x hm, ih _ _ (by omega), ← BitVec.shiftLeft_add, Nat.add_comm]
    intro i hi
    rw [BitVec.getLsbD_shiftLeft]
    by_cases h1 : i < 1
    · simp [h1]
    · have := h (i - 1) (by omega)
      simp [this]

/-- the sum behind one byte more, bit by bit -/
def bitStp (x : BitVec 32) (b : Bool) : BitVec 32 := (x <<< 1) ^^^ (if x.msb != b then poly else 0#32)
theorem bitStp_eq (x : BitVec 32) (b : Bool) : bitStp x b = stp (x ^^^ (if b then 0x80000000#32 else 0#32)) := by
  unfold bitStp stp
  cases b
  · simp
  · rw [BitVec.shiftLeft_xor_distrib, BitVec.msb_xor]
    have : (0x80000000#32).msb = true := by decide
    have h2 : (0x80000000#32 : BitVec 32) <<< 1 = 0#32 := by decide
    rw [if_pos rfl, this, h2]
    simp

def tab (i : BitVec 8) : BitVec 32 := stpN 8 (i.setWidth 32 <<< 24)
def byteStp (s : BitVec 32) (c : BitVec 8) : BitVec 32 := (s <<< 8) ^^^ tab ((s >>> 24).setWidth 8 ^^^ c)

theorem byteStp_eq (s : BitVec 32) (c : BitVec 8) : byteStp s c = stpN 8 (s ^^^ (c.setWidth 32 <<< 24)) := by
  have e : s = (s &&& 0xFFFFFF#32) ^^^ (((s >>> 24).setWidth 8).setWidth 32 <<< 24) := by
    apply BitVec.eq_of_getLsbD_eq
    intro i hi
    rw [BitVec.getLsbD_xor, BitVec.getLsbD_and, BitVec.getLsbD_shiftLeft, BitVec.getLsbD_setWidth, BitVec.getLsbD_setWidth, BitVec.getLsbD_ushiftRight]
    by_cases h : i < 24
    · have : BitVec.getLsbD (16777215#32) i = true := by
        have : ∀ i, i < 24 → BitVec.getLsbD (16777215#32) i = true := by decide
        exact this i h
      simp [h, hi, this]
    · have : BitVec.getLsbD (16777215#32) i = false := by
        have : ∀ i, i < 32 → ¬ i < 24 → BitVec.getLsbD (16777215#32) i = false := by decide
        exact this i hi h
      have h3 : i - 24 < 8 := by omega
      have h4 : 24 + (i - 24) = i := by omega
      rw [this]
      simp [h, hi, h3, h4]
      omega
  have lo : stpN 8 (s &&& 0xFFFFFF#32) = s <<< 8 := by
    rw [stpN_small 8 _ _ (by omega)]
    · apply BitVec.eq_of_getLsbD_eq
      intro i hi
      rw [BitVec.getLsbD_shiftLeft, BitVec.getLsbD_shiftLeft, BitVec.getLsbD_and]
      by_cases h8 : i < 8
      · simp [h8]
      · have : ∀ i, i < 32 → ¬ i < 8 → BitVec.getLsbD (16777215#32) (i - 8) = true := by decide
        rw [this i hi h8, Bool.and_true]
    · intro i hi
      have : BitVec.getLsbD (16777215#32) i = false := by
        by_cases h : i < 32
        · have : ∀ i, i < 32 → ¬ i < 24 → BitVec.getLsbD (16777215#32) i = false := by decide
          exact this i h (by omega)
        · exact BitVec.getLsbD_of_ge _ _ (by omega)
      simp [this]
  unfold byteStp tab
  generalize hc : (s >>> 24).setWidth 8 = hi at *
  have : s ^^^ (c.setWidth 32 <<< 24) = (s &&& 0xFFFFFF#32) ^^^ ((hi ^^^ c).setWidth 32 <<< 24) := by
    conv => lhs; rw [e]
    rw [BitVec.setWidth_xor, BitVec.shiftLeft_xor_distrib, BitVec.xor_assoc]
  rw [this, stpN_xor, lo]

def more (s : BitVec 32) (l : List UInt8) : BitVec 32 := l.foldl (fun s c => byteStp s c.toBitVec) s
theorem more_nil (s : BitVec 32) : more s [] = s := rfl
theorem more_cons (s : BitVec 32) (c : UInt8) (l : List UInt8) : more s (c :: l) = more (byteStp s c.toBitVec) l := rfl
theorem more_append (s : BitVec 32) (l m : List UInt8) : more s (l ++ m) = more (more s l) m := by simp [more, List.foldl_append]
theorem byteStp_xor (s t : BitVec 32) (c d : BitVec 8) : byteStp (s ^^^ t) (c ^^^ d) = byteStp s c ^^^ byteStp t d := by
  rw [byteStp_eq, byteStp_eq, byteStp_eq, ← stpN_xor, BitVec.setWidth_xor, BitVec.shiftLeft_xor_distrib]
  generalize BitVec.setWidth 32 c <<< 24 = x
  generalize BitVec.setWidth 32 d <<< 24 = y
  have : s ^^^ t ^^^ (x ^^^ y) = s ^^^ x ^^^ (t ^^^ y) := by ac_rfl
  rw [this]
theorem more_xor : ∀ (a b : List UInt8) (s t : BitVec 32), a.length = b.length → more (s ^^^ t) (List.zipWith (· ^^^ ·) a b) = more s a ^^^ more t b
  | [], [], s, t, _ => rfl
  | x :: a, y :: b, s, t, h => by
    simp only [List.zipWith_cons_cons, more_cons]
    rw [UInt8.toBitVec_xor, byteStp_xor]
    exact more_xor a b _ _ (by simpa using h)
theorem byteStp_xor0 (s t : BitVec 32) (c : BitVec 8) : byteStp (s ^^^ t) c = byteStp s c ^^^ stpN 8 t := by
  rw [byteStp_eq, byteStp_eq, ← stpN_xor]
  generalize BitVec.setWidth 32 c <<< 24 = x
  have : s ^^^ t ^^^ x = s ^^^ x ^^^ t := by ac_rfl
  rw [this]
theorem more_xor0 : ∀ (l : List UInt8) (s t : BitVec 32), more (s ^^^ t) l = more s l ^^^ stpN (8 * l.length) t
  | [], s, t => rfl
  | c :: l, s, t => by
    rw [more_cons, more_cons, byteStp_xor0, more_xor0 l, List.length_cons, ← stpN_add]
    have : 8 + 8 * l.length = 8 * (l.length + 1) := by omega
    rw [this]

/-! ### the reference's way: a byte, bit by bit -/
def refTo : Nat → BitVec 32 → BitVec 8 → BitVec 32 × BitVec 8
  | 0, s, c => (s, c)
  | k + 1, s, c => (bitStp (refTo k s c).1 (refTo k s c).2.msb, (refTo k s c).2 <<< 1)
theorem top_split (c : BitVec 8) : c.setWidth 32 <<< 24 = (if c.msb then 0x80000000#32 else 0#32) ^^^ ((c &&& 0x7F#8).setWidth 32 <<< 24) := by
  apply BitVec.eq_of_getLsbD_eq
  intro i hi
  rw [BitVec.getLsbD_xor, BitVec.getLsbD_shiftLeft, BitVec.getLsbD_shiftLeft, BitVec.getLsbD_setWidth, BitVec.getLsbD_setWidth, BitVec.getLsbD_and, BitVec.msb_eq_getLsbD_last]
  by_cases h : i < 24
  · have : (if c.getLsbD (8 - 1) then 0x80000000#32 else 0#32).getLsbD i = false := by
      have : ∀ i, i < 24 → (0x80000000#32).getLsbD i = false := by decide
      split
      · exact this i h
      · simp
    rw [this]
    simp [h]
  · have h8 : i - 24 < 8 := by omega
    by_cases h31 : i = 31
    · subst h31
      cases h7 : c.getLsbD 7 <;> simp
    · have h1 : (if c.getLsbD (8 - 1) then 0x80000000#32 else 0#32).getLsbD i = false := by
        have : ∀ i, i < 31 → (0x80000000#32).getLsbD i = false := by decide
        split
        · exact this i (by omega)
        · simp
      have h2 : (0x7F#8).getLsbD (i - 24) = true := by
        have : ∀ i, i < 7 → (0x7F#8).getLsbD i = true := by decide
        exact this _ (by omega)
      rw [h1, h2]
      simp
theorem stp_low (c : BitVec 8) : stp ((c &&& 0x7F#8).setWidth 32 <<< 24) = (c <<< 1).setWidth 32 <<< 24 := by
  have hm : ((c &&& 0x7F#8).setWidth 32 <<< 24).msb = false := by
    rw [BitVec.msb_eq_getLsbD_last, BitVec.getLsbD_shiftLeft, BitVec.getLsbD_setWidth, BitVec.getLsbD_and]
    simp
  rw [stp_noTop _ hm]
  apply BitVec.eq_of_getLsbD_eq
  intro i hi
  rw [BitVec.getLsbD_shiftLeft, BitVec.getLsbD_shiftLeft, BitVec.getLsbD_shiftLeft, BitVec.getLsbD_setWidth, BitVec.getLsbD_setWidth, BitVec.getLsbD_shiftLeft, BitVec.getLsbD_and]
  by_cases h : i < 25
  · by_cases h24 : i < 24
    · simp [h24]; omega
    · have : i = 24 := by omega
      subst this
      simp
  · have h2 : (0x7F#8).getLsbD (i - 1 - 24) = true := by
      have : ∀ i, i < 7 → (0x7F#8).getLsbD i = true := by decide
      exact this _ (by omega)
    rw [h2]
    have e : i - 24 - 1 = i - 1 - 24 := by omega
    rw [e]
    have a1 : ¬ i < 24 := by omega
    have a2 : ¬ i < 1 := by omega
    have a3 : ¬ i - 1 < 24 := by omega
    have a4 : ¬ i - 24 < 1 := by omega
    have a5 : i - 24 < 8 := by omega
    have a6 : i - 24 < 32 := by omega
    have a7 : i - 1 - 24 < 32 := by omega
    have a8 : i - 1 < 32 := by omega
    simp [a1, a2, a3, a4, a5, a6, a7, a8, hi]
theorem refTo_eq (k : Nat) (s : BitVec 32) (c : BitVec 8) : (refTo k s c).1 ^^^ ((refTo k s c).2.setWidth 32 <<< 24) = stpN k (s ^^^ (c.setWidth 32 <<< 24)) := by
  induction k with
  | zero => rfl
  | succ k ih =>
    have : stpN (k + 1) (s ^^^ (c.setWidth 32 <<< 24)) = stp (stpN k (s ^^^ (c.setWidth 32 <<< 24))) := stpN_add k 1 _
    rw [this, ← ih]
    simp only [refTo]
    rw [bitStp_eq, ← stp_low, ← stp_xor]
    conv => rhs; rw [top_split]
    rw [← BitVec.xor_assoc]
theorem refTo_two (k : Nat) (s : BitVec 32) (c : BitVec 8) : (refTo k s c).2 = c <<< k := by
  induction k with
  | zero => simp [refTo]
  | succ k ih => simp only [refTo]; rw [ih, BitVec.shiftLeft_add]
theorem ref_byte (s : BitVec 32) (c : BitVec 8) : (refTo 8 s c).1 = byteStp s c := by
  have h := refTo_eq 8 s c
  have h2 : (refTo 8 s c).2 = 0#8 := by
    rw [refTo_two]
    apply BitVec.eq_of_getLsbD_eq
    intro i hi
    rw [BitVec.getLsbD_shiftLeft]
    simp [hi]
  rw [h2] at h
  rw [byteStp_eq, ← h]
  simp

/-! ### four bytes of a sum -/
def be4 (s : BitVec 32) : List UInt8 := [⟨(s >>> 24).setWidth 8⟩, ⟨(s >>> 16).setWidth 8⟩, ⟨(s >>> 8).setWidth 8⟩, ⟨s.setWidth 8⟩]
def word (a b c d : UInt8) : BitVec 32 := a.toBitVec.setWidth 32 <<< 24 ^^^ b.toBitVec.setWidth 32 <<< 16 ^^^ c.toBitVec.setWidth 32 <<< 8 ^^^ d.toBitVec.setWidth 32
theorem stpN_byte (n : Nat) (c : BitVec 8) (k : Nat) (h : n + k ≤ 24) : stpN n (c.setWidth 32 <<< k) = c.setWidth 32 <<< (k + n) := by
  rw [stpN_small n _ _ (by omega), BitVec.shiftLeft_add]
  intro i hi
  rw [BitVec.getLsbD_shiftLeft, BitVec.getLsbD_setWidth]
  have : c.getLsbD (i - k) = false := BitVec.getLsbD_of_ge _ _ (by omega)
  simp [this]
theorem more_four (s : BitVec 32) (a b c d : UInt8) : more s [a, b, c, d] = stpN 32 (s ^^^ word a b c d) := by
  simp only [more_cons, more_nil, byteStp_eq]
  have e2 : stpN 8 (b.toBitVec.setWidth 32 <<< 16) = b.toBitVec.setWidth 32 <<< 24 := stpN_byte 8 b.toBitVec 16 (by omega)
  have e3 : stpN 16 (c.toBitVec.setWidth 32 <<< 8) = c.toBitVec.setWidth 32 <<< 24 := stpN_byte 16 c.toBitVec 8 (by omega)
  have e4 : stpN 24 (d.toBitVec.setWidth 32) = d.toBitVec.setWidth 32 <<< 24 := by
    have := stpN_byte 24 d.toBitVec 0 (by omega)
    simpa using this
  rw [← e2, ← stpN_xor, ← stpN_add, ← e3, ← stpN_xor, ← stpN_add, ← e4, ← stpN_xor, ← stpN_add]
  have : s ^^^ word a b c d = s ^^^ a.toBitVec.setWidth 32 <<< 24 ^^^ b.toBitVec.setWidth 32 <<< 16 ^^^ c.toBitVec.setWidth 32 <<< 8 ^^^ d.toBitVec.setWidth 32 := by
    unfold word
    generalize a.toBitVec.setWidth 32 <<< 24 = x1
    generalize b.toBitVec.setWidth 32 <<< 16 = x2
    generalize c.toBitVec.setWidth 32 <<< 8 = x3
    generalize d.toBitVec.setWidth 32 = x4
    ac_rfl
  rw [this]
theorem word_be4 (s : BitVec 32) : word ⟨(s >>> 24).setWidth 8⟩ ⟨(s >>> 16).setWidth 8⟩ ⟨(s >>> 8).setWidth 8⟩ ⟨s.setWidth 8⟩ = s := by
  apply BitVec.eq_of_getLsbD_eq
  intro i hi
  unfold word
  simp only [BitVec.getLsbD_xor, BitVec.getLsbD_shiftLeft, BitVec.getLsbD_setWidth, BitVec.getLsbD_ushiftRight]
  by_cases h8 : i < 8
  · have a1 : i < 16 := by omega
    have a2 : i < 24 := by omega
    simp [h8, a1, a2, hi]
  · by_cases h16 : i < 16
    · have a1 : ¬ i < 8 := by omega
      have a2 : i < 24 := by omega
      have a3 : i - 8 < 8 := by omega
      have a4 : i - 8 < 32 := by omega
      have a5 : 8 + (i - 8) = i := by omega
      simp [h8, h16, a2, hi, a3, a4, a5]
    · by_cases h24 : i < 24
      · have a3 : i - 16 < 8 := by omega
        have a4 : i - 16 < 32 := by omega
        have a5 : 16 + (i - 16) = i := by omega
        have a6 : ¬ i - 8 < 8 := by omega
        simp [h8, h16, h24, hi, a3, a4, a5, a6]
      · have a3 : i - 24 < 8 := by omega
        have a4 : i - 24 < 32 := by omega
        have a5 : 24 + (i - 24) = i := by omega
        have a6 : ¬ i - 8 < 8 := by omega
        have a7 : ¬ i - 16 < 8 := by omega
        simp [h8, h16, h24, hi, a3, a4, a5, a6, a7]
theorem more_be4 (s : BitVec 32) : more s (be4 s) = 0#32 := by
  unfold be4
  rw [more_four, word_be4, BitVec.xor_self, stpN_zero]
theorem be4_word (a b c d : UInt8) : be4 (word a b c d) = [a, b, c, d] := by
  unfold be4 word
  have g : ∀ (k : Nat) (x : BitVec 8), k < 24 ∨ k = 24 → True := fun _ _ _ => trivial
  have h1 : ((a.toBitVec.setWidth 32 <<< 24 ^^^ b.toBitVec.setWidth 32 <<< 16 ^^^ c.toBitVec.setWidth 32 <<< 8 ^^^ d.toBitVec.setWidth 32) >>> 24).setWidth 8 = a.toBitVec := by
    apply BitVec.eq_of_getLsbD_eq
    intro i hi
    simp only [BitVec.getLsbD_xor, BitVec.getLsbD_shiftLeft, BitVec.getLsbD_setWidth, BitVec.getLsbD_ushiftRight]
    have a1 : 24 + i < 32 := by omega
    have b1 := BitVec.getLsbD_of_ge b.toBitVec (24 + i - 16) (by omega)
    have b2 := BitVec.getLsbD_of_ge c.toBitVec (24 + i - 8) (by omega)
    have b3 := BitVec.getLsbD_of_ge d.toBitVec (24 + i) (by omega)
    have b4 : i < 32 := by omega
    have b5 : 24 + i - 24 = i := by omega
    simp [hi, a1, b1, b2, b3, b4, b5]
  have h2 : ((a.toBitVec.setWidth 32 <<< 24 ^^^ b.toBitVec.setWidth 32 <<< 16 ^^^ c.toBitVec.setWidth 32 <<< 8 ^^^ d.toBitVec.setWidth 32) >>> 16).setWidth 8 = b.toBitVec := by
    apply BitVec.eq_of_getLsbD_eq
    intro i hi
    simp only [BitVec.getLsbD_xor, BitVec.getLsbD_shiftLeft, BitVec.getLsbD_setWidth, BitVec.getLsbD_ushiftRight]
    have a1 : 16 + i < 32 := by omega
    have a2 : 16 + i < 24 := by omega
    have b2 := BitVec.getLsbD_of_ge c.toBitVec (16 + i - 8) (by omega)
    have b3 := BitVec.getLsbD_of_ge d.toBitVec (16 + i) (by omega)
    have b4 : i < 32 := by omega
    have b5 : 16 + i - 16 = i := by omega
    simp [hi, a1, a2, b2, b3, b4, b5]
  have h3 : ((a.toBitVec.setWidth 32 <<< 24 ^^^ b.toBitVec.setWidth 32 <<< 16 ^^^ c.toBitVec.setWidth 32 <<< 8 ^^^ d.toBitVec.setWidth 32) >>> 8).setWidth 8 = c.toBitVec := by
    apply BitVec.eq_of_getLsbD_eq
    intro i hi
    simp only [BitVec.getLsbD_xor, BitVec.getLsbD_shiftLeft, BitVec.getLsbD_setWidth, BitVec.getLsbD_ushiftRight]
    have a1 : 8 + i < 32 := by omega
    have a2 : 8 + i < 24 := by omega
    have a3 : 8 + i < 16 := by omega
    have b3 := BitVec.getLsbD_of_ge d.toBitVec (8 + i) (by omega)
    have b4 : i < 32 := by omega
    have b5 : 8 + i - 8 = i := by omega
    simp [hi, a1, a2, a3, b4, b5]
  have h4 : (a.toBitVec.setWidth 32 <<< 24 ^^^ b.toBitVec.setWidth 32 <<< 16 ^^^ c.toBitVec.setWidth 32 <<< 8 ^^^ d.toBitVec.setWidth 32).setWidth 8 = d.toBitVec := by
    apply BitVec.eq_of_getLsbD_eq
    intro i hi
    simp only [BitVec.getLsbD_xor, BitVec.getLsbD_shiftLeft, BitVec.getLsbD_setWidth]
    have a1 : i < 24 := by omega
    have a2 : i < 16 := by omega
    have b4 : i < 32 := by omega
    simp [hi, a1, a2, b4]
  rw [h1, h2, h3, h4]
def first : BitVec 32 := 0xFFFFFFFF#32
def sealed (l : List UInt8) : List UInt8 := l ++ be4 (more first l)
theorem more_seal (l : List UInt8) : more first (sealed l) = 0#32 := by
  unfold sealed; rw [more_append, more_be4]
/-- what ends the sum at 0 is sealed -/
theorem seal_of_zero (l : List UInt8) (h4 : 4 ≤ l.length) (h : more first l = 0#32) : sealed (l.take (l.length - 4)) = l := by
  have e : l = l.take (l.length - 4) ++ l.drop (l.length - 4) := (List.take_append_drop _ _).symm
  generalize hx : l.take (l.length - 4) = x at *
  have hl : (l.drop (l.length - 4)).length = 4 := by rw [List.length_drop]; omega
  generalize l.drop (l.length - 4) = y at *
  match y, hl with
  | [a, b, c, d], _ =>
    subst e
    rw [more_append, more_four] at h
    have h2 := stpN_eq_zero 32 _ h
    have h3 : more first x = word a b c d := BitVec.xor_eq_zero_iff.1 h2
    unfold sealed
    rw [h3, be4_word]
/-! ### bursts -/
def flip (l : List UInt8) (k : Nat) : List UInt8 := l.set (k / 8) (l.getD (k / 8) 0 ^^^ (128 >>> UInt8.ofNat (k % 8)))
theorem byte_bit : ∀ j, j < 8 → stpN 8 ((128 >>> UInt8.ofNat j : UInt8).toBitVec.setWidth 32 <<< 24) = stpN (8 - j) 0x80000000#32 := by decide
theorem word_bit : ∀ i, i < 32 → stpN i (0x80000000#32 >>> i) = 0x80000000#32 := by decide
theorem flip_length (l : List UInt8) (k : Nat) : (flip l k).length = l.length := by simp [flip]
theorem byteStp_flip (s : BitVec 32) (c d : UInt8) : byteStp s (c ^^^ d).toBitVec = byteStp s c.toBitVec ^^^ stpN 8 (d.toBitVec.setWidth 32 <<< 24) := by
  have := byteStp_xor s 0#32 c.toBitVec d.toBitVec
  rw [BitVec.xor_zero] at this
  rw [UInt8.toBitVec_xor, this, byteStp_eq 0#32 d.toBitVec]
  simp
theorem more_flip (s : BitVec 32) (l : List UInt8) (k : Nat) (h : k < 8 * l.length) : more s (flip l k) = more s l ^^^ stpN (8 * l.length - k) 0x80000000#32 := by
  have hk : k / 8 < l.length := by omega
  have e : l = l.take (k / 8) ++ l.getD (k / 8) 0 :: l.drop (k / 8 + 1) := by
    rw [List.getD_eq_getElem?_getD, List.getElem?_eq_getElem hk, Option.getD_some, List.getElem_cons_drop, List.take_append_drop]
  have e2 : flip l k = l.take (k / 8) ++ (l.getD (k / 8) 0 ^^^ (128 >>> UInt8.ofNat (k % 8))) :: l.drop (k / 8 + 1) := by
    unfold flip
    rw [List.set_eq_take_append_cons_drop, if_pos hk]
  have hd : (l.drop (k / 8 + 1)).length = l.length - (k / 8 + 1) := List.length_drop
  rw [e2]
  conv => rhs; lhs; rw [e]
  rw [more_append, more_append, more_cons, more_cons, byteStp_flip, more_xor0, byte_bit (k % 8) (Nat.mod_lt _ (by omega)), ← stpN_add, hd]
  congr 2
  omega
theorem more_flip_word (s : BitVec 32) (l : List UInt8) (start i : Nat) (hi : i < 32) (h : start + i < 8 * l.length) :
    more s (flip l (start + i)) = more s l ^^^ stpN (8 * l.length - start) (0x80000000#32 >>> i) := by
  rw [more_flip s l _ h]
  have e : 8 * l.length - start = i + (8 * l.length - (start + i)) := by omega
  conv => rhs; rhs; rw [e, stpN_add, word_bit i hi]
end Crc
end Go.Proofs.Ythhfhiiiniogdaa
