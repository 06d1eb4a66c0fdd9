/-
  PROVED: the reference's Seal makes a new slice that reads as the bytes and their sum behind them (refSeal_any). Conditions: the slice reads as the bytes l; at most 90000 of them.
-/
import Derived.Test.YthhfhiiiniogdaaO
namespace Go.Proofs.Ythhfhiiiniogdaa
open Go.RowKit Crc
theorem Rd.four (w : World) {r : Int} {x : BitVec 32} (h : Is r x) : Rd (w.alloc (.cells #[.int .u8 (r / 16777216), .int .u8 (r / 65536 % 256), .int .u8 (r / 256 % 256), .int .u8 (r % 256)] 5)) (some ⟨w.heap.size, 0, none⟩) 4 (be4 x) := by
  refine ⟨rfl, fun _ => ⟨w.heap.size, 0, rfl, by simp, fun i hi => ?_⟩⟩
  rw [World.cell?_alloc_at _ _ _ _ rfl, Nat.zero_add]
  have hc := congrArg (fun l : List Value => l[i]?) (Is.cells4 h)
  rw [List.getElem?_toArray, hc]
  have hl : i < (be4 x).length := hi
  simp [Lib.byteCells, List.getD_eq_getElem?_getD, List.getElem?_eq_getElem hl]
theorem Shape.lit4 {b : Nat} : Shape (some ⟨b, 0, none⟩) 4 4 := ⟨by omega, by omega, fun e => by (cases e), fun x hx _ => by (cases hx; rfl)⟩
def RetSealed (l : List UInt8) (w : World) (e : Ending) (w' : World) : Prop :=
  ∃ a c, e = .returned (.slice a (l.length + 4) c) ∧ Own w' w.heap.size a (l.length + 4) c (sealed l) ∧ Below w.heap.size w w'
set_option maxRecDepth 100000 in
theorem refSeal_any (a : Option Addr) (n cap : Nat) (l : List UInt8) (w : World) (hs : Shape a n cap) (hr : Rd w a n l) (hn : n ≤ 90000) :
    Calls Try.prog 18 #[.slice a n cap] w (RetSealed l w) := by
  have hl := Lib.hid hr.1
  go_enter Try.func18, Try.ntmps18
  go_wp2_with fail
  refine (refOf_any a n cap l _ hr (by omega)).mono ?_
  rintro e w1 ⟨r, h, rfl, rfl⟩
  have hb0 := h.lo
  have hb1 := h.hi
  have H := Lib.hid h
  clear h
  go_wp2_with (first
    | (at_builtin; refine append23 rfl (.tmp 7) (.tmp 8) rfl w.heap.size _ 0 0 [] rfl (Own.empty w _ (Nat.le_refl _)) a n cap l rfl (hr.alloc _) hs (by omega) (by rw [World.size_alloc]; omega) ?_; intro g1 c1 w2 ho2 hg2; simp only [Nat.zero_add, List.nil_append] at ho2 ⊢; have hb2 : Below w.heap.size w w2 := (Own.empty w _ (Nat.le_refl _)).below (Below.start' w _) hg2 (by rw [World.size_alloc]; omega))
    | (at_builtin; refine append23 rfl (.tmp 10) (.tmp 25) rfl w.heap.size g1 n c1 l rfl ⟨ho2.1, ho2.2.alloc _⟩ _ 4 4 (be4 (more first l)) rfl (Rd.four w2 H.out) Shape.lit4 (by omega) (by rw [World.size_alloc]; exact Nat.le_succ_of_le hb2.size) ?_; intro g2 c2 w3 ho3 hg3))
  go_ret
  refine ⟨g2, c2, by rw [hl.out]; rfl, ?_, ?_⟩
  · rw [hl.out]; exact ho3
  · exact (hb2.alloc hb2.size _).grown hg3 (by rw [World.size_alloc]; exact Nat.le_succ_of_le hb2.size) (fun k e => (ho2.2.lt k e).1)
end Go.Proofs.Ythhfhiiiniogdaa
