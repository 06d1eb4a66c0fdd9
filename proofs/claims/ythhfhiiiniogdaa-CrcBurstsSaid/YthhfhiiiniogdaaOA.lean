/-
  PROVED: crc.Open and the reference's Open answer alike: openE l and openL l (open_any, refOpen_any). Conditions: the slice reads as the bytes l; at most 90000 of them.
-/
import Derived.Test.YthhfhiiiniogdaaRO
namespace Go.Proofs.Ythhfhiiiniogdaa
open Go.RowKit Crc
/-- what Open answers of l: is it sealed? -/
def IsSealed (l : List UInt8) : Prop := 4 ≤ l.length ∧ more first l = 0#32
open Classical in
noncomputable def openE (l : List UInt8) : Int := if IsSealed l then 0 else 6
open Classical in
noncomputable def openL (l : List UInt8) : List UInt8 := if IsSealed l then l.take (l.length - 4) else []
theorem openL_le (l : List UInt8) : (openL l).length ≤ l.length := by
  unfold openL
  split
  · rw [List.length_take]; omega
  · simp
theorem sealed_iff (l : List UInt8) (h4 : 4 ≤ l.length) : sealed (l.take (l.length - 4)) = l ↔ more first l = 0#32 := by
  constructor
  · intro h; rw [← h]; exact more_seal _
  · exact seal_of_zero l h4
/-- a slice of its own that reads as y, and a number -/
def RetOpen (E : Int) (y : List UInt8) (w : World) (e : Ending) (w' : World) : Prop :=
  ∃ a c, e = .returned (.tuple #[.slice a y.length c, .int .i64 E]) ∧ Own w' w.heap.size a y.length c y ∧ Below w.heap.size w w'
/-- a slice that reads as y, and a number -/
def RetOpenR (E : Int) (y : List UInt8) (w : World) (e : Ending) (w' : World) : Prop :=
  ∃ a c, e = .returned (.tuple #[.slice a y.length c, .int .i64 E]) ∧ Shape a y.length c ∧ Rd w' a y.length y ∧ Below w.heap.size w w'
theorem open_any (a : Option Addr) (n cap : Nat) (l : List UInt8) (w : World) (hs : Shape a n cap) (hr : Rd w a n l) (hn : n ≤ 90000) :
    Calls Try.prog 15 #[.slice a n cap] w (RetOpen (openE l) (openL l) w) := by
  by_cases h : IsSealed l
  · have e1 : openE l = 0 := by simp [openE, h]
    have e2 : openL l = l.take (n - 4) := by simp [openL, h, hr.1]
    rw [e1, e2]
    refine (open_ok a n cap l w hs hr hn (by rw [← hr.1]; exact h.1) h.2).mono ?_
    rintro e w' ⟨a', c', rfl, ho, hb⟩
    have hl : (l.take (n - 4)).length = n - 4 := ho.1
    exact ⟨a', c', by rw [hl], by rw [hl]; exact ho, hb⟩
  · have e1 : openE l = 6 := by simp [openE, h]
    have e2 : openL l = [] := by simp [openL, h]
    rw [e1, e2]
    refine (open_bad a n cap l w hr hn ?_).mono ?_
    · by_cases h4 : n < 4
      · exact Or.inl h4
      · exact Or.inr (fun h0 => h ⟨by rw [hr.1]; omega, h0⟩)
    · rintro e w' ⟨rfl, hb⟩
      exact ⟨none, 0, rfl, ⟨rfl, World.ownsRow_nil _ _ _ _⟩, hb⟩
theorem refOpen_any (a : Option Addr) (n cap : Nat) (l : List UInt8) (w : World) (hs : Shape a n cap) (hr : Rd w a n l) (hn : n ≤ 90000) :
    Calls Try.prog 16 #[.slice a n cap] w (RetOpenR (openE l) (openL l) w) := by
  by_cases h4 : n < 4
  · have h : ¬ IsSealed l := fun h => by have := h.1; rw [hr.1] at this; omega
    have e1 : openE l = 6 := by simp [openE, h]
    have e2 : openL l = [] := by simp [openL, h]
    rw [e1, e2]
    refine (refOpen_short a n cap w h4).mono ?_
    rintro e w' ⟨rfl, hb⟩
    exact ⟨none, 0, rfl, ⟨Nat.le_refl _, by omega, fun _ => ⟨rfl, rfl⟩, fun x hx _ => by cases hx⟩, Rd.nil _ _, hb⟩
  by_cases h : IsSealed l
  · have e1 : openE l = 0 := by simp [openE, h]
    have e2 : openL l = l.take (n - 4) := by simp [openL, h, hr.1]
    rw [e1, e2]
    have hz := (sealed_iff l h.1).2 h.2
    rw [hr.1] at hz
    refine (refOpen_ok a n cap l w hs hr hn (by omega) hz).mono ?_
    rintro e w' ⟨rfl, hb⟩
    have hr4 := hr.take (n - 4) (by omega)
    refine ⟨a, cap, by rw [hr4.1], ?_, ?_, hb⟩
    · rw [hr4.1]; exact hs.less _ (by omega)
    · rw [hr4.1]; exact hr4.below hb
  · have e1 : openE l = 6 := by simp [openE, h]
    have e2 : openL l = [] := by simp [openL, h]
    rw [e1, e2]
    refine (refOpen_diff a n cap l w hs hr hn (by omega) ?_).mono ?_
    · intro hz
      have h4' : 4 ≤ l.length := by rw [hr.1]; omega
      rw [← hr.1] at hz
      exact h ⟨h4', (sealed_iff l h4').1 hz⟩
    · rintro e w' ⟨rfl, hb⟩
      exact ⟨none, 0, rfl, ⟨Nat.le_refl _, by omega, fun _ => ⟨rfl, rfl⟩, fun x hx _ => by cases hx⟩, Rd.nil _ _, hb⟩
end Go.Proofs.Ythhfhiiiniogdaa
