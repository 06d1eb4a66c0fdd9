/-
  PROVED: the purse's New, Take, Give, Now, Peak and Left compute what a purse of limit M, with L left and S left at least, computes; so the methods of a nil purse. Conditions: 0 ≤ S ≤ L ≤ M ≤ 1048576.
-/
import Derived.Test.YtbmndojfemekdaaRows
import Derived.WalkKit
import Derived.Lib.Hide
import Derived.Laws.Rows
import Derived.RegionTactic
import Derived.ChangeAlike
import Derived.Deep.QuietTactic
import Derived.BigQuiet
namespace Go.Proofs.Ytbmndojfemekdaa
open Go.RowKit
/-- block b of the world holds a struct of three numbers -/
def Held (w : World) (b : Nat) (t : TypeId) (x y z : Int) : Prop := w.heap[b]? = some (.cells #[.int .i64 x, .int .i64 y, .int .i64 z] t (0, 0))
/-- only block b may be other -/
def Upd (b : Nat) (w w' : World) : Prop := w'.heap.size = w.heap.size ∧ Below b w w' ∧ ∀ k, k ≠ b → w'.heap[k]? = w.heap[k]?
theorem Upd.refl (b : Nat) (w : World) : Upd b w w := ⟨rfl, Below.refl _ _, fun _ _ => rfl⟩
theorem Upd.trans {b : Nat} {x y z : World} (h : Upd b x y) (k : Upd b y z) : Upd b x z := ⟨k.1.trans h.1, h.2.1.trans k.2.1, fun j hj => (k.2.2 j hj).trans (h.2.2 j hj)⟩
theorem Upd.drew {b : Nat} {x y : World} (h : Upd b x y) : Upd b x y.drew := ⟨h.1, h.2.1.drew, h.2.2⟩
theorem Upd.drewN {b : Nat} {x : World} (n : Nat) : Upd b x (x.drewN n) := ⟨rfl, ⟨rfl, rfl, rfl, Nat.le_refl _, fun _ _ => rfl⟩, fun _ _ => rfl⟩
theorem Upd.setCell {b : Nat} {x y : World} (h : Upd b x y) (i : Nat) (v : Value) : Upd b x (y.setCell ⟨b, i, none⟩ v) :=
  ⟨by simpa using h.1, h.2.1.setCell (Nat.le_refl _) _, fun k hk => by rw [heap_setCell_other y ⟨b, i, none⟩ k v hk]; exact h.2.2 k hk⟩
theorem Held.c0 {w : World} {b : Nat} {t : TypeId} {x y z : Int} (h : Held w b t x y z) : w.cell? ⟨b, 0, none⟩ = some (.int .i64 x) := by rw [cell_of_row w b 0 _ t (0, 0) h]; rfl
theorem Held.c1 {w : World} {b : Nat} {t : TypeId} {x y z : Int} (h : Held w b t x y z) : w.cell? ⟨b, 1, none⟩ = some (.int .i64 y) := by rw [cell_of_row w b 1 _ t (0, 0) h]; rfl
theorem Held.c2 {w : World} {b : Nat} {t : TypeId} {x y z : Int} (h : Held w b t x y z) : w.cell? ⟨b, 2, none⟩ = some (.int .i64 z) := by rw [cell_of_row w b 2 _ t (0, 0) h]; rfl
theorem Held.free {w : World} {b : Nat} {t : TypeId} {x y z : Int} (h : Held w b t x y z) (i : Nat) : w.frozen? ⟨b, i, none⟩ = false := frozen_of_row w b i _ t h
theorem Held.set1 {w : World} {b : Nat} {t : TypeId} {x y z : Int} (h : Held w b t x y z) (v : Int) : Held (w.setCell ⟨b, 1, none⟩ (.int .i64 v)) b t x v z := heap_setCell_same w b 1 _ t _ h
theorem Held.set2 {w : World} {b : Nat} {t : TypeId} {x y z : Int} (h : Held w b t x y z) (v : Int) : Held (w.setCell ⟨b, 2, none⟩ (.int .i64 v)) b t x y v := heap_setCell_same w b 2 _ t _ h
theorem Held.drew {w : World} {b : Nat} {t : TypeId} {x y z : Int} (h : Held w b t x y z) : Held w.drew b t x y z := h
theorem Held.drewN {w : World} {b : Nat} {t : TypeId} {x y z : Int} (h : Held w b t x y z) (n : Nat) : Held (w.drewN n) b t x y z := h
theorem Held.upd {w w' : World} {b c : Nat} {t : TypeId} {x y z : Int} (h : Held w b t x y z) (k : Upd c w w') (hne : b ≠ c) : Held w' b t x y z := (k.2.2 b hne).trans h
theorem Held.lt {w : World} {b : Nat} {t : TypeId} {x y z : Int} (h : Held w b t x y z) : b < w.heap.size := block_lt_of_cell h.c0
theorem Held.below {w w' : World} {b : Nat} {t : TypeId} {x y z : Int} (h : Held w b t x y z) (k : Below w.heap.size w w') : Held w' b t x y z := (k.block b h.lt).trans h
/-- Take: the error's number; what is left; what was left at least -/
def takeE (L n : Int) : Int := if n < 0 then 1 else if L < n then 5 else 0
def takeL (L n : Int) : Int := if n < 0 then L else if L < n then L else L - n
def takeS (L S n : Int) : Int := if n < 0 then S else if L < n then S else if S ≤ L - n then S else L - n
def giveE (M L n : Int) : Int := if n < 0 ∨ M - L < n then 1 else 0
def giveL (M L n : Int) : Int := if n < 0 ∨ M - L < n then L else L + n
theorem ret_i64 {a b : Int} (h : a = b) : Ending.returned (.int .i64 a) = .returned (.int .i64 b) := by rw [h]
set_option maxRecDepth 100000 in
theorem new_ok (m : Int) (w : World) (h0 : 0 ≤ m) (h1 : m ≤ 1048576) :
    Calls Try.prog 9 #[.int .i64 m] w fun e w' => e = .returned (.tuple #[.pointer (some ⟨w.heap.size, 0, none⟩), .int .i64 0]) ∧ w' = w.alloc (.cells #[.int .i64 m, .int .i64 m, .int .i64 m] 53) := by
  go_enter Try.func9, Try.ntmps9
  go_wp2
  go_ret2
  exact ⟨rfl, rfl⟩
theorem new_bad (m : Int) (w : World) (h : m < 0 ∨ 1048576 < m) :
    Calls Try.prog 9 #[.int .i64 m] w fun e w' => e = .returned (.tuple #[.pointer none, .int .i64 1]) ∧ w = w' := by
  by_cases h0 : m < 0
  · clear h
    go_enter Try.func9, Try.ntmps9
    go_wp2
    go_ret2
    exact ⟨rfl, rfl⟩
  · have h1 := h.resolve_left h0
    clear h
    go_enter Try.func9, Try.ntmps9
    go_wp2
    go_ret2
    exact ⟨rfl, rfl⟩
end Go.Proofs.Ytbmndojfemekdaa
