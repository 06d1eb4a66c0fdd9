/-
  PROVED: warplaw02.shown, the document's examples, returns true (shown_any). Conditions: none.
-/
import Derived.Test.YthhfhiiiniogdaaS
import Derived.Laws.BytesArg
namespace Go.Proofs.Ythhfhiiiniogdaa
open Go.RowKit Crc
/-- a text's bytes -/
def str (l : List UInt8) : ByteArray := ⟨l.toArray⟩
theorem Rd.text {w : World} {a : Option Addr} {n : Nat} {l : List UInt8} (h : Rd w a n l) (cap : Nat) (hs : Shape a n cap) :
    (convert 23 9 (.slice a n cap)).run Try.prog w = .ok (.string (str l)) w := by
  have hstr : strOfNums (l.map fun c => (c.toNat : Int)) = str l := by
    apply ByteArray.ext
    apply Array.toList_inj.1
    rw [strOfNums_data, List.map_map]
    show _ = l
    conv => rhs; rw [← List.map_id l]
    apply List.map_congr_left
    intro x _
    simp
  cases a with
  | none =>
    have h0 := (hs.2.2.1 rfl).1
    have : l = [] := List.eq_nil_of_length_eq_zero (by rw [h.1]; exact h0)
    subst this
    rw [run_convert_bytes_nil w 23 5 Try.underlying23 Try.underlying5 n cap 9 Try.underlying9]
    rfl
  | some x =>
    by_cases hz : cap = 0
    · obtain rfl : n = 0 := by have := hs.1; omega
      have : l = [] := List.eq_nil_of_length_eq_zero h.1
      subst this
      have hl : (loadCells x 0).run Try.prog w = .ok (([] : List Int).map (Value.int .u8)).toArray w := run_loadCells_list (P := Try.prog) w x [] (fun j v hj => by simp at hj)
      rw [run_convert_bytes_string w 23 9 5 _ 0 cap Try.underlying23 Try.underlying5 Try.underlying9, run_bytesToString w x 0 cap [] hl]
      rfl
    obtain ⟨b, off, s⟩ := x
    obtain rfl := hs.2.2.2 _ rfl (by omega)
    rw [run_convert_bytes_arg w 23 5 Try.underlying23 Try.underlying5 b off n cap (l.map fun c => (c.toNat : Int)) (by rw [List.length_map, h.1]) ?_ 9 Try.underlying9, hstr]
    intro i hi
    obtain ⟨b', off', e, _, hc⟩ := h.2 (by omega)
    cases e
    rw [hc i hi]
    have hil : i < l.length := by rw [h.1]; exact hi
    simp [List.getD_eq_getElem?_getD, List.getElem?_eq_getElem hil]
theorem Rd.one (w : World) (c : UInt8) (v : Int) (h : v = c.toNat) : Rd (w.alloc (.cells #[.int .u8 v] 5)) (some ⟨w.heap.size, 0, none⟩) 1 [c] := by
  refine ⟨rfl, fun _ => ⟨w.heap.size, 0, rfl, by simp, fun i hi => ?_⟩⟩
  obtain rfl : i = 0 := by omega
  rw [World.cell?_alloc_at _ _ _ _ rfl, h]
  rfl
theorem Rd.nil (w : World) (a : Option Addr) : Rd w a 0 [] := ⟨rfl, fun h => by omega⟩
theorem is_first : ∀ r, Is r (more first []) → r = 4294967295 := fun r h => by rw [show (4294967295 : Int) = ((more first []).toNat : Int) from by decide]; exact h
theorem is_zero : ∀ r, Is r (more 0#32 [0]) → r = 0 := fun r h => by rw [show (0 : Int) = ((more 0#32 [0]).toNat : Int) from by decide]; exact h
theorem is_poly : ∀ r, Is r (more 0#32 [1]) → r = 2168537515 := fun r h => by rw [show (2168537515 : Int) = ((more 0#32 [1]).toNat : Int) from by decide]; exact h
theorem sealed_nil : str (sealed []) = { data := #[255, 255, 255, 255] } := by decide
set_option maxRecDepth 100000 in
theorem shown_any (w : World) :
    Calls Try.prog 10 #[] w fun e w' => e = .returned (.bool true) ∧ Below w.heap.size w w' := by
  go_enter Try.func10, Try.ntmps10
  go_wp2_with fail
  refine (of_any none 0 0 [] _ (Rd.nil _ _) (by omega)).mono ?_
  rintro e w1 ⟨r, h, rfl, hb⟩
  obtain rfl := is_first r h
  clear h
  go_wp2_with fail
  refine (more_any 0 0#32 rfl _ 1 _ [0] _ (Rd.one w1 0 0 rfl) (by omega)).mono ?_
  rintro e w2 ⟨r, h, rfl, hb2⟩
  obtain rfl := is_zero r h
  clear h
  go_wp2_with fail
  refine (more_any 0 0#32 rfl _ 1 _ [1] _ (Rd.one w2 1 1 rfl) (by omega)).mono ?_
  rintro e w3 ⟨r, h, rfl, hb3⟩
  obtain rfl := is_poly r h
  clear h
  go_wp2_with fail
  refine (seal_any none 0 0 [] _ ⟨Nat.le_refl _, by omega, fun _ => ⟨rfl, rfl⟩, fun x hx _ => by cases hx⟩ (Rd.nil _ _) (by omega)).mono ?_
  rintro e w4 ⟨g, c, rfl, ho, hb4⟩
  have ht : (convert 23 9 (.slice (some ⟨g, 0, none⟩) 4 c)).run Try.prog w4 = .ok (.string { data := #[255, 255, 255, 255] }) w4 := by rw [← sealed_nil]; exact ho.rd.text c ho.shape
  go_wp2
  go_ret
  have s1 := hb.size
  have s2 := hb2.size
  have s3 := hb3.size
  simp only [World.size_alloc] at s2 s3
  refine ⟨rfl, ?_⟩
  exact (((((hb.alloc s1 _).trans (hb2.mono (by rw [World.size_alloc]; omega))).alloc (by omega) _).trans (hb3.mono (by rw [World.size_alloc]; omega))).trans (hb4.mono (by omega)))
end Go.Proofs.Ythhfhiiiniogdaa
