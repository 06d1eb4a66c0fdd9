/-
  PROVED: crc.made makes a new array of 256 numbers, entry j being what comes of byte j alone (made_any). Conditions: none.
-/
import Derived.Test.YthhfhiiiniogdaaA
import Derived.Laws.Rows
namespace Go.Proofs.Ythhfhiiiniogdaa
open Go.RowKit Crc
def zero256 : Array Value := Array.replicate 256 (.int .u32 0)
theorem zero41 (w : World) : (zeroValue 41).run Try.prog w = .ok (.agg zero256) w := by kernel_rfl
/-- the array's cells: numbers of 32 bits, the first k of them what comes of each byte alone -/
def Tbl (k : Nat) (cs : Array Value) : Prop := cs.size = 256 ∧ ∀ j, j < 256 → ∃ r : Int, cs[j]? = some (.int .u32 r) ∧ 0 ≤ r ∧ r < 4294967296 ∧ (j < k → Is r (tab (BitVec.ofNat 8 j)))
theorem Tbl.zero : Tbl 0 zero256 := ⟨by simp [zero256], fun j hj => ⟨0, by simp [zero256, hj], by omega, by omega, fun h => by omega⟩⟩
theorem Tbl.step {k : Nat} {cs : Array Value} (h : Tbl k cs) (hk : k < 256) {r : Int} (hr : Is r (tab (BitVec.ofNat 8 k))) : Tbl (k + 1) (cs.setIfInBounds k (.int .u32 r)) := by
  refine ⟨by simp [h.1], fun j hj => ?_⟩
  by_cases e : j = k
  · subst e
    exact ⟨r, by simp [h.1, hj], hr.lo, hr.hi, fun _ => hr⟩
  · obtain ⟨s, h1, h2, h3, h4⟩ := h.2 j hj
    exact ⟨s, by rw [Array.getElem?_setIfInBounds, if_neg (by omega)]; exact h1, h2, h3, fun hj => h4 (by omega)⟩
/-- block B of the world holds the array -/
def HasTbl (k : Nat) (B : Nat) (w : World) : Prop := ∃ cs, w.heap[B]? = some (.cells cs 41 (0, 0)) ∧ Tbl k cs
def RetTbl (w : World) (e : Ending) (w' : World) : Prop :=
  e = .returned (.pointer (some ⟨w.heap.size, 0, none⟩)) ∧ HasTbl 256 w.heap.size w' ∧ Below w.heap.size w w' ∧ w'.heap.size = w.heap.size + 1
theorem Is.entry {k : Nat} (hk : k < 256) : Is ((k : Int) * 16777216) ((BitVec.ofNat 8 k).setWidth 32 <<< 24) := by
  unfold Is
  rw [BitVec.toNat_shiftLeft, BitVec.toNat_setWidth, BitVec.toNat_ofNat, Nat.shiftLeft_eq]
  omega
theorem HasTbl.start (w : World) : HasTbl 0 w.heap.size (w.alloc (.cells zero256 41)) := ⟨zero256, heap_alloc_new w _, Tbl.zero⟩
theorem Below.start (w : World) : Below w.heap.size w (w.alloc (.cells zero256 41)) := (Below.refl _ _).alloc (Nat.le_refl _) _
set_option maxRecDepth 100000 in
theorem made_any (w : World) : Calls Try.prog 19 #[] w (RetTbl w) := by
  have hz := zero41
  go_enter Try.func19, Try.ntmps19
  go_wp2
  go_loopw [3, 4, 5, 6, 7, 8, 9, 10, 11, 12, 13, 14] (fun _ i _ _ _ _ _ _ _ _ _ _ wr => ∃ k : Nat, k ≤ 256 ∧ i = .int .i64 k ∧ HasTbl k w.heap.size wr ∧ Below w.heap.size w wr ∧ wr.heap.size = w.heap.size + 1) (fun _ i _ _ _ _ _ _ _ _ _ _ _ => 256 - (intOf i).toNat)
  case atStart => exact ⟨0, by omega, rfl, HasTbl.start w, Below.start w, World.size_alloc _ _⟩
  case round =>
    obtain ⟨k, hk, rfl, ⟨cs, hcs, htb⟩, hbel, hsz⟩ := hrel
    by_cases hlt : k < 256
    · obtain ⟨r0, hr0, _, _, _⟩ := htb.2 k hlt
      have hcell := (cell_of_row wr w.heap.size k cs 41 (0, 0) hcs).trans hr0
      have hfree := frozen_of_row wr w.heap.size k cs 41 hcs
      have HC := Lib.hid hcs
      have HS := Lib.hid hsz
      clear hcs hr0 hsz
      go_wp2_with fail
      refine (turn_any _ _ (Is.entry hlt) _).mono ?_
      rintro e w' ⟨r, hr, rfl, rfl⟩
      go_wp2
      go_roundw
      case rel => exact ⟨k + 1, by omega, by go_num, ⟨_, heap_setCell_same wr _ k cs 41 _ HC.out, htb.step hlt hr⟩, hbel.setCell (Nat.le_refl _) _, by simp [HS.out]⟩
      case measure => simp [intOf]; omega
    · go_wp2
      go_ret
      obtain rfl : k = 256 := by omega
      exact ⟨rfl, ⟨cs, hcs, htb⟩, hbel, hsz⟩
end Go.Proofs.Ythhfhiiiniogdaa
