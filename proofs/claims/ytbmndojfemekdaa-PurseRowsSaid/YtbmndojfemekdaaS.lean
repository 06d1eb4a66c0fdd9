/-
  PROVED: warplaw06.shown, the document's examples, returns true (shown_any). Conditions: none.
-/
import Derived.Test.YtbmndojfemekdaaR
namespace Go.Proofs.Ytbmndojfemekdaa
open Go.RowKit
theorem Held.new (w : World) (t : TypeId) (x y z : Int) : Held (w.alloc (.cells #[.int .i64 x, .int .i64 y, .int .i64 z] t)) w.heap.size t x y z := heap_alloc_new w _
theorem t1 (b : Nat) (w : World) (h : Held w b 53 10 10 10) : Calls Try.prog 10 #[.pointer (some ⟨b, 0, none⟩), .int .i64 7] w (RetP b 0 10 3 3 w) := take_any b 10 10 10 7 w h (by unfold Ok; omega)
theorem t2 (b : Nat) (w : World) (h : Held w b 53 10 3 3) : Calls Try.prog 10 #[.pointer (some ⟨b, 0, none⟩), .int .i64 4] w (RetP b 5 10 3 3 w) := take_any b 10 3 3 4 w h (by unfold Ok; omega)
theorem t3 (b : Nat) (w : World) (h : Held w b 53 10 3 3) : Calls Try.prog 11 #[.pointer (some ⟨b, 0, none⟩), .int .i64 3] w (RetP b 0 10 6 3 w) := give_any b 10 3 3 3 w h (by unfold Ok; omega)
theorem t4 (b : Nat) (w : World) (h : Held w b 53 10 6 3) : Calls Try.prog 10 #[.pointer (some ⟨b, 0, none⟩), .int .i64 4] w (RetP b 0 10 2 2 w) := take_any b 10 6 3 4 w h (by unfold Ok; omega)
theorem t5 (b : Nat) (w : World) (h : Held w b 53 10 2 2) : Calls Try.prog 12 #[.pointer (some ⟨b, 0, none⟩)] w (RetP b 8 10 2 2 w) := now_any b 10 2 2 w h (by unfold Ok; omega)
theorem t6 (b : Nat) (w : World) (h : Held w b 53 10 2 2) : Calls Try.prog 13 #[.pointer (some ⟨b, 0, none⟩)] w (RetP b 8 10 2 2 w) := peak_any b 10 2 2 w h (by unfold Ok; omega)
theorem VRd.two (w : World) : VRd (w.alloc (.cells #[.int .u8 3, .int .i64 0, .string { data := #[97, 98] }, .int .u8 0, .int .i64 0, .string { data := #[] }] 51)) (some ⟨w.heap.size, 0, none⟩) 2 [2, 0] := by
  refine ⟨rfl, fun i hi => ?_⟩
  have hl : w.heap.size < (w.alloc (.cells #[.int .u8 3, .int .i64 0, .string { data := #[97, 98] }, .int .u8 0, .int .i64 0, .string { data := #[] }] 51)).heap.size := by rw [World.size_alloc]; exact Nat.lt_succ_self _
  obtain rfl | rfl : i = 0 ∨ i = 1 := by omega
  · exact ⟨w.heap.size, 0, 3, 0, { data := #[97, 98] }, rfl, hl, rfl, by rw [World.cell?_alloc_at _ _ _ _ rfl]; rfl, by rw [World.cell?_alloc_at _ _ _ _ rfl]; rfl, by rw [World.cell?_alloc_at _ _ _ _ rfl]; rfl⟩
  · exact ⟨w.heap.size, 0, 0, 0, { data := #[] }, rfl, hl, rfl, by rw [World.cell?_alloc_at _ _ _ _ rfl]; rfl, by rw [World.cell?_alloc_at _ _ _ _ rfl]; rfl, by rw [World.cell?_alloc_at _ _ _ _ rfl]; rfl⟩
set_option maxRecDepth 100000 in
theorem shown_any (w : World) :
    Calls Try.prog 8 #[] w fun e w' => e = .returned (.bool true) ∧ Below w.heap.size w w' := by
  go_enter Try.func8, Try.ntmps8
  go_wp2_with fail
  refine (new_ok 10 w (by omega) (by omega)).mono ?_
  rintro e w1 ⟨rfl, rfl⟩
  have h0 := Held.new w 53 10 10 10
  have b0 : Below w.heap.size w (w.alloc (.cells #[.int .i64 10, .int .i64 10, .int .i64 10] 53)) := (Below.refl _ _).alloc (Nat.le_refl _) _
  have H0 := Lib.hid h0
  clear h0
  go_wp2_with fail
  refine (t1 _ _ H0.out).mono ?_
  rintro e w1 ⟨rfl, h1, u1⟩
  have b1 := b0.trans u1.2.1
  have H1 := Lib.hid h1
  clear h1
  go_wp2_with fail
  refine (t2 _ _ H1.out).mono ?_
  rintro e w2 ⟨rfl, h2, u2⟩
  have b2 := b1.trans u2.2.1
  have H2 := Lib.hid h2
  clear h2
  go_wp2_with fail
  refine (t3 _ _ H2.out).mono ?_
  rintro e w3 ⟨rfl, h3, u3⟩
  have b3 := b2.trans u3.2.1
  have H3 := Lib.hid h3
  clear h3
  go_wp2_with fail
  refine (t4 _ _ H3.out).mono ?_
  rintro e w4 ⟨rfl, h4, u4⟩
  have b4 := b3.trans u4.2.1
  have H4 := Lib.hid h4
  clear h4
  go_wp2_with fail
  refine (t5 _ _ H4.out).mono ?_
  rintro e w5 ⟨rfl, h5, u5⟩
  have b5 := b4.trans u5.2.1
  have H5 := Lib.hid h5
  clear h5
  go_wp2_with fail
  refine (t6 _ _ H5.out).mono ?_
  rintro e w6 ⟨rfl, h6, u6⟩
  have b6 := b5.trans u6.2.1
  clear H0 H1 H2 H3 H4 H5 u1 u2 u3 u4 u5 u6 h6
  go_wp2_with fail
  refine (row_any _ 2 _ [2, 0] _ (VRd.two w6) (by omega)).mono ?_
  rintro e w7 ⟨he, b7⟩
  rw [show rowN [2, 0] = 26 from by simp [rowN, wrap64]] at he
  subst he
  go_wp2
  go_ret
  exact ⟨rfl, (b6.alloc b6.size _).trans (b7.mono (by rw [World.size_alloc]; exact Nat.le_succ_of_le b6.size))⟩
end Go.Proofs.Ytbmndojfemekdaa
