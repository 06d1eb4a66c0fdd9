/-
  PROVED: the built-in append of one slice of bytes to another one of the call's own gives a slice of the call's own that reads as both, one behind the other (append23). Conditions: the sizes are small; the source reads as some bytes.
-/
import Derived.Test.YthhfhiiiniogdaaI
import Derived.Laws.AppendOwnNone
namespace Go.Proofs.Ythhfhiiiniogdaa
open Go.RowKit Crc
theorem Own.form {w : World} {base : Nat} {v : Value} {n : Nat} {l : List UInt8} (hl : l.length = n) (h : w.ownsRow base 5 1 v n (Lib.byteCells l)) : ∃ a c, v = .slice a n c ∧ Own w base a n c l := by
  have h2 := h
  obtain ⟨_, h3⟩ := h
  rcases h3 with ⟨rfl, rfl⟩ | ⟨g, c, cur, rfl, _⟩
  · exact ⟨none, 0, rfl, hl, h2⟩
  · exact ⟨_, c, rfl, hl, h2⟩
theorem append23 {w : World} {ops : Array Oper} {rest : List Oper} {o : Oper} {a : Act} {Q : Exit → Act → World → Prop} (hgd : o.guard = none) (s x : Operand)
    (ho : o.op = .call { callee := .builtin .append, args := #[s, x], argTypes := #[23, 23] })
    (base : Nat) (a1 : Option Addr) (n c1 : Nat) (l1 : List UInt8) (hs : a.eval s = .slice a1 n c1) (hown : Own w base a1 n c1 l1)
    (a2 : Option Addr) (m c2 : Nat) (l2 : List UInt8) (hx : a.eval x = .slice a2 m c2) (hrd : Rd w a2 m l2) (hsh : Shape a2 m c2) (hb : n + m ≤ 200000) (hbase : base ≤ w.heap.size)
    (h : ∀ a' c' w', Own w' base a' (n + m) c' (l1 ++ l2) → w.grownBy w' (Value.slice a1 n c1).ownBlock → wpList Try.prog ops Q rest (a.put o.dst (.slice a' (n + m) c')) w') :
    wpList Try.prog ops Q (o :: rest) a w := by
  obtain ⟨i0, hi, hz0, hz1, hz2⟩ := info_parts info5
  have hll : (l1 ++ l2).length = n + m := by rw [List.length_append, hown.1, hrd.1]
  cases a2 with
  | none =>
    obtain ⟨rfl, rfl⟩ := hsh.2.2.1 rfl
    have : l2 = [] := List.eq_nil_of_length_eq_zero hrd.1
    subst this
    refine wpList_append_own_none hgd s x 23 ho base 5 i0 1 Try.underlying23 hi _ n _ hs hown.2 hx ?_
    exact h a1 c1 w (by rw [List.append_nil]; exact hown) (World.grownBy.refl _ _)
  | some ad =>
    refine wpList_append_own w hgd s x 23 ho base 5 i0 (.int .u8 0) 1 1 Try.underlying23 hi hz0 hz1 hz2 rfl (by decide) _ n _ hs hown.2 ad m c2 (Lib.byteCells l2) hx hrd.len (hrd.cells ad rfl) (Lib.byteCells_one l2) (by unfold maxLen; omega) (by omega) hbase ?_
    intro v' w' ho' hg' _
    rw [← Lib.byteCells_append] at ho'
    obtain ⟨a', c', rfl, hO⟩ := Own.form hll ho'
    exact h a' c' w' hO hg'
/-- a guarded operation whose guard says yes is as one without a guard -/
theorem wpList_wanted {P : Program} {w : World} {ops : Array Oper} {rest : List Oper} {o : Oper} {a : Act} {Q : Exit → Act → World → Prop} (hw : Region.wanted o (yielded ops a.tmps) = true)
    (h : wpList P ops Q ({ o with guard := none } :: rest) a w) : wpList P ops Q (o :: rest) a w := by
  simp only [wpList] at *
  rw [if_pos hw]
  rw [if_pos (show Region.wanted { o with guard := none } (yielded ops a.tmps) = true from rfl)] at h
  exact h
theorem append23w {w : World} {ops : Array Oper} {rest : List Oper} {o : Oper} {a : Act} {Q : Exit → Act → World → Prop} (hw : Region.wanted o (yielded ops a.tmps) = true) (s x : Operand)
    (ho : o.op = .call { callee := .builtin .append, args := #[s, x], argTypes := #[23, 23] })
    (base : Nat) (a1 : Option Addr) (n c1 : Nat) (l1 : List UInt8) (hs : a.eval s = .slice a1 n c1) (hown : Own w base a1 n c1 l1)
    (a2 : Option Addr) (m c2 : Nat) (l2 : List UInt8) (hx : a.eval x = .slice a2 m c2) (hrd : Rd w a2 m l2) (hsh : Shape a2 m c2) (hb : n + m ≤ 200000) (hbase : base ≤ w.heap.size)
    (h : ∀ a' c' w', Own w' base a' (n + m) c' (l1 ++ l2) → w.grownBy w' (Value.slice a1 n c1).ownBlock → wpList Try.prog ops Q rest (a.put o.dst (.slice a' (n + m) c')) w') :
    wpList Try.prog ops Q (o :: rest) a w :=
  wpList_wanted hw (append23 (o := { o with guard := none }) rfl s x ho base a1 n c1 l1 hs hown a2 m c2 l2 hx hrd hsh hb hbase h)
theorem Rd.alloc {w : World} {a : Option Addr} {n : Nat} {l : List UInt8} (h : Rd w a n l) (o : Obj) : Rd (w.alloc o) a n l := h.below ((Below.refl _ _).alloc (Nat.le_refl _) o)
theorem Below.start' (w : World) (o : Obj) : Below w.heap.size w (w.alloc o) := (Below.refl _ _).alloc (Nat.le_refl _) o
theorem Own.below {w w' : World} {W : World} {base : Nat} {a : Option Addr} {n c : Nat} {l : List UInt8} (h : Own w base a n c l) (hb : Below base W w) (hg : w.grownBy w' (Value.slice a n c).ownBlock) (hbase : base ≤ w.heap.size) : Below base W w' :=
  hb.grown hg hbase (fun k e => (h.2.lt k e).1)
theorem Own.empty (w : World) (base : Nat) (h : base ≤ w.heap.size) : Own (w.alloc (.cells #[] 5)) base (some ⟨w.heap.size, 0, none⟩) 0 0 [] :=
  ⟨rfl, World.ownsRow_lit w #[] 0 h (by omega) rfl⟩
/-- what a region with calls keeps: nothing that lay in W is other -/
def Kp (W w : World) : Prop := Below W.heap.size W w
theorem is0 : Is 0 0#32 := rfl
theorem Kp.refl (W : World) : Kp W W := Below.refl _ _
theorem Kp.out {W w : World} (h : Kp W w) : Below W.heap.size W w := h
theorem Kp.drew {W w : World} (h : Kp W w) : Kp W w.drew := Below.drew h
theorem Kp.step {W w w' : World} (hb : Below w.heap.size w w') (h : Kp W w) : Kp W w' := Below.trans h (hb.mono (Below.size h))
theorem Rd.kp {W w : World} {a : Option Addr} {n : Nat} {l : List UInt8} (h : Kp W w) (hr : Rd W a n l) : Rd w a n l := hr.below h
/-- T is the run of a conversion to a text, under a name: so that no walk takes it apart -/
def IsText (T : World → Value → Result Value) : Prop := ∀ (v : Value) (w : World), (convert 23 9 v).run Try.prog w = T w v
theorem IsText.some : ∃ T, IsText T := ⟨_, fun _ _ => rfl⟩
theorem Rd.textRun {T : World → Value → Result Value} (hT : IsText T) {w : World} {a : Option Addr} {n : Nat} {l : List UInt8} (h : Rd w a n l) (cap : Nat) (hs : Shape a n cap) : T w (.slice a n cap) = .ok (.string (str l)) w := by
  rw [← hT]
  exact h.text cap hs
end Go.Proofs.Ythhfhiiiniogdaa
