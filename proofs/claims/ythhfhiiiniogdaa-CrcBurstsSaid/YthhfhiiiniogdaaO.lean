/-
  PROVED: crc.Open refuses what is shorter than four bytes or whose sum is not 0, and else hands back the bytes ahead of the last four in memory of its own (open_bad, open_ok). Conditions: the slice reads as the bytes l; at most 90000 of them.
-/
import Derived.Test.YthhfhiiiniogdaaC
namespace Go.Proofs.Ythhfhiiiniogdaa
open Go.RowKit Crc
theorem run_cutI (a : Option Addr) (m cap n : Nat) (i : Int) (hi : i = n) (h : n ≤ cap) (w : World) : (Instr.slice 23 (.slice a m cap) none (some (.int .i64 i)) none).run Try.prog w = .ok (.slice a n cap) w := by
  subst hi
  have hn : (n : Int) ≤ (cap : Int) := by omega
  simp [Instr.slice, run_underlying Try.underlying23, Instr.sliceBounds, run_sliceBound, hn]
  cases a <;> simp [Addr.add]
theorem Is.zero {r : Int} {x : BitVec 32} (h : Is r x) (hx : x = 0#32) : r = 0 := by subst hx; exact h
theorem Is.nonzero {r : Int} {x : BitVec 32} (h : Is r x) (hx : x ≠ 0#32) : r ≠ 0 := by
  intro h0
  apply hx
  unfold Is at h
  apply BitVec.eq_of_toNat_eq
  show x.toNat = 0
  omega
def RetBad (w : World) (e : Ending) (w' : World) : Prop := e = .returned (.tuple #[.slice none 0 0, .int .i64 6]) ∧ Below w.heap.size w w'
def RetOk (m : Nat) (l : List UInt8) (w : World) (e : Ending) (w' : World) : Prop :=
  ∃ a c, e = .returned (.tuple #[.slice a m c, .int .i64 0]) ∧ Own w' w.heap.size a m c l ∧ Below w.heap.size w w'
set_option maxRecDepth 100000 in
theorem open_bad (a : Option Addr) (n cap : Nat) (l : List UInt8) (w : World) (hr : Rd w a n l) (hn : n ≤ 90000) (hbad : n < 4 ∨ more first l ≠ 0#32) :
    Calls Try.prog 15 #[.slice a n cap] w (RetBad w) := by
  by_cases h4 : n < 4
  · clear hbad
    go_enter Try.func15, Try.ntmps15
    go_wp2
    go_ret2
    exact ⟨rfl, Below.refl _ _⟩
  · have hz := hbad.resolve_left h4
    clear hbad
    go_enter Try.func15, Try.ntmps15
    go_wp2_with fail
    refine (more_any 4294967295 first rfl a n cap l _ hr (by omega)).mono ?_
    rintro e w1 ⟨r, h, rfl, hb⟩
    have hne : (r != 0) = true := by rw [bne_iff_ne]; exact Is.nonzero h hz
    have hne2 : (r == 0) = false := by rw [beq_eq_false_iff_ne]; exact Is.nonzero h hz
    clear hz
    go_wp2
    go_ret2
    exact ⟨rfl, hb⟩
set_option maxRecDepth 100000 in
theorem open_ok (a : Option Addr) (n cap : Nat) (l : List UInt8) (w : World) (hs : Shape a n cap) (hr : Rd w a n l) (hn : n ≤ 90000) (h4 : 4 ≤ n) (hz : more first l = 0#32) :
    Calls Try.prog 15 #[.slice a n cap] w (RetOk (n - 4) (l.take (n - 4)) w) := by
  have hc1 := hs.1
  have hsl := fun w => run_cutI a n cap (n - 4) ((n : Int) - 4) (by omega) (by omega) w
  have hr4 := hr.take (n - 4) (by omega)
  have hs4 := hs.less (n - 4) (by omega)
  generalize l.take (n - 4) = x at *
  have HZ := Lib.hid hz
  clear hz
  go_enter Try.func15, Try.ntmps15
  go_wp2_with fail
  refine (more_any 4294967295 first rfl a n cap l _ hr (by omega)).mono ?_
  rintro e w1 ⟨r, h, rfl, hb⟩
  obtain rfl := Is.zero h HZ.out
  clear h
  go_wp2_with (at_builtin; refine append23 rfl (.const (.slice none 0 0)) (.tmp 17) rfl w.heap.size none 0 0 [] rfl ⟨rfl, World.ownsRow_nil _ _ _ _⟩ a (n - 4) cap x rfl (hr4.below hb) hs4 (by omega) hb.size ?_; intro a' c' w2 ho hg; simp only [Nat.zero_add, List.nil_append] at ho ⊢)
  go_ret2
  exact ⟨a', c', rfl, ho, hb.grown hg hb.size (fun k e => by cases e)⟩
end Go.Proofs.Ythhfhiiiniogdaa
