/-
  PROVED: crc.Seal makes a new slice that reads as the bytes and their sum behind them (seal_any). Conditions: the slice reads as the bytes l; at most 90000 of them.
-/
import Derived.Test.YthhfhiiiniogdaaF
import Derived.Lib.UnsafeStr
import Derived.Lib.BufferWrite
namespace Go.Proofs.Ythhfhiiiniogdaa
open Go.RowKit Crc
theorem info5 : (Try.prog.info? 5).map (fun i => (i.zero, i.size, i.bytes)) = some (some (.int .u8 0), 1, 1) := by kernel_rfl
theorem Rd.cells {w : World} {a : Option Addr} {n : Nat} {l : List UInt8} (h : Rd w a n l) : ∀ ad, a = some ad → ∀ j u, (Lib.byteCells l)[j]? = some u → w.cell? (ad.add j) = some u := by
  rintro ad rfl j u hu
  have hj : j < l.length := by
    obtain ⟨hj, _⟩ := List.getElem?_eq_some_iff.1 hu
    simpa [Lib.byteCells] using hj
  obtain ⟨b, off, ha, _, hc⟩ := h.2 (by have := h.1; omega)
  cases ha
  have := hc j (by have := h.1; omega)
  rw [show (⟨b, off, none⟩ : Addr).add j = ⟨b, off + j, none⟩ from by simp [Addr.add], this]
  rw [← hu]
  simp [Lib.byteCells, List.getD_eq_getElem?_getD, List.getElem?_eq_getElem hj]
theorem Rd.len {w : World} {a : Option Addr} {n : Nat} {l : List UInt8} (h : Rd w a n l) : (Lib.byteCells l).length = n * 1 := by rw [Lib.byteCells_length, h.1]; omega
theorem cells_new (w : World) (xs : List Value) (t : TypeId) : ∀ j u, xs[j]? = some u → (w.alloc (.cells xs.toArray t)).cell? ((⟨w.heap.size, 0, none⟩ : Addr).add j) = some u := by
  intro j u hu
  rw [show (⟨w.heap.size, 0, none⟩ : Addr).add j = ⟨w.heap.size, j, none⟩ from by simp [Addr.add]; omega, World.cell?_alloc_at _ _ _ _ rfl]
  simpa using hu
theorem Is.cells4 {r : Int} {x : BitVec 32} (h : Is r x) : [Value.int .u8 (r / 16777216), .int .u8 (r / 65536 % 256), .int .u8 (r / 256 % 256), .int .u8 (r % 256)] = Lib.byteCells (be4 x) := by
  have hx := x.isLt
  unfold Is at h
  subst h
  have e1 : (x.toNat : Int) / 16777216 = ((x.toNat / 16777216 % 256 : Nat) : Int) := by omega
  have e2 : (x.toNat : Int) / 65536 % 256 = ((x.toNat / 65536 % 256 : Nat) : Int) := by omega
  have e3 : (x.toNat : Int) / 256 % 256 = ((x.toNat / 256 % 256 : Nat) : Int) := by omega
  have e4 : (x.toNat : Int) % 256 = ((x.toNat % 256 : Nat) : Int) := by omega
  rw [e1, e2, e3, e4]
  have f : ∀ y : BitVec 8, (⟨y⟩ : UInt8).toNat = y.toNat := fun _ => rfl
  simp only [be4, Lib.byteCells, List.map_cons, List.map_nil, f, BitVec.toNat_setWidth, BitVec.toNat_ushiftRight, Nat.shiftRight_eq_div_pow]
/-- slice v owns a row of its own (in a block from base on) that reads as the bytes l -/
def Own (w : World) (base : Nat) (a : Option Addr) (n cap : Nat) (l : List UInt8) : Prop := l.length = n ∧ w.ownsRow base 5 1 (.slice a n cap) n (Lib.byteCells l)
theorem Own.shape {w : World} {base : Nat} {a : Option Addr} {n cap : Nat} {l : List UInt8} (h : Own w base a n cap l) : Shape a n cap := by
  obtain ⟨hl, h1, h2⟩ := h
  rcases h2 with ⟨h2, h3⟩ | ⟨g, c, cur, hv, hb, hg, hn, hc, _⟩
  · cases h2
    exact ⟨Nat.le_refl _, by omega, fun _ => ⟨rfl, rfl⟩, fun x hx _ => by cases hx⟩
  · cases hv
    refine ⟨hn, by unfold maxLen at hc; exact hc, fun hx => by (cases hx), fun x hx _ => ?_⟩
    cases hx
    rfl
theorem Own.rd {w : World} {base : Nat} {a : Option Addr} {n cap : Nat} {l : List UInt8} (h : Own w base a n cap l) : Rd w a n l := by
  obtain ⟨hl, h2⟩ := h
  refine ⟨hl, fun hn => ?_⟩
  have h3 := h2
  obtain ⟨_, h2⟩ := h2
  rcases h2 with ⟨h2, h3⟩ | ⟨g, c, cur, hv, hb, hg, _, _, _, _⟩
  · omega
  · cases hv
    refine ⟨g, 0, rfl, ?_, fun i hi => ?_⟩
    · rcases Nat.lt_or_ge g w.heap.size with h | h
      · exact h
      · rw [Array.getElem?_eq_none h] at hg
        cases hg
    · rw [Nat.zero_add, h3.cellAt i (by omega)]
      simp [Lib.byteCells, List.getD_eq_getElem?_getD, List.getElem?_eq_getElem (show i < l.length by omega)]
def RetSeal (l : List UInt8) (w : World) (e : Ending) (w' : World) : Prop :=
  ∃ g c, e = .returned (.slice (some ⟨g, 0, none⟩) (l.length + 4) c) ∧ Own w' w.heap.size (some ⟨g, 0, none⟩) (l.length + 4) c (sealed l) ∧ Below w.heap.size w w'
set_option maxRecDepth 100000 in
theorem seal_any (a : Option Addr) (n cap : Nat) (l : List UInt8) (w : World) (hs : Shape a n cap) (hr : Rd w a n l) (hn : n ≤ 90000) :
    Calls Try.prog 17 #[.slice a n cap] w (RetSeal l w) := by
  obtain ⟨i0, hi, hz0, hz1, hz2⟩ := info_parts info5
  go_enter Try.func17, Try.ntmps17
  go_wp2_with fail
  refine (of_any a n cap l _ hr (by omega)).mono ?_
  rintro e w1 ⟨r, h, rfl, hb⟩
  have hb0 := h.lo
  have hb1 := h.hi
  go_wp2_with (first
    | (at_make; refine wpList_make_own _ rfl _ _ 23 rfl w.heap.size 5 i0 (.int .u8 0) 1 Try.underlying23 hi hz0 hz1 _ _ _ (n+4) rfl rfl (by omega) (by rw [hz2]; omega) (by unfold maxLen; omega) hb.size ?_; intro w2 hown1 hgr1)
    | (at_builtin; refine wpList_append_fits_any _ rfl (.tmp 11) (.tmp 12) 23 rfl w.heap.size 5 i0 1 Try.underlying23 hi hz1 w1.heap.size 0 (n+4) [] rfl hown1 a n cap (Lib.byteCells l) rfl hr.len (fun e => by have := hs.2.2.1 e; omega) ((hr.below (hb.grown hgr1 hb.size (fun k e => by cases e))).cells) (Lib.byteCells_one l) (by omega) ?_; intro w3 hown2 hgr2; simp only [Nat.zero_add, List.nil_append] at hown2 ⊢)
    | (at_builtin; refine wpList_append_fits _ rfl (.tmp 13) (.tmp 25) 23 rfl w.heap.size 5 i0 1 Try.underlying23 hi hz1 w1.heap.size n (n+4) (Lib.byteCells l) rfl (hown2.alloc _) ⟨w3.heap.size, 0, none⟩ 4 4 [.int .u8 (r / 16777216), .int .u8 (r / 65536 % 256), .int .u8 (r / 256 % 256), .int .u8 (r % 256)] rfl rfl (cells_new w3 _ 5) (by simp [Value.oneCell']) (by omega) ?_; intro w4 hown3 hgr3))
  go_ret
  refine ⟨w1.heap.size, n + 4, ?_, ⟨?_, ?_⟩, ?_⟩
  · rw [hr.1]; rfl
  · simp [sealed, be4]
  · rw [Is.cells4 h, ← Lib.byteCells_append] at hown3
    rw [hr.1]
    exact hown3
  · exact ((((hb.grown hgr1 hb.size (fun k e => by cases e)).grown hgr2 (Nat.le_trans hb.size hgr1.size) (fun k e => by cases e; exact hb.size)).alloc (Nat.le_trans (Nat.le_trans hb.size hgr1.size) hgr2.size) _).grown hgr3 (by rw [World.size_alloc]; exact Nat.le_succ_of_le (Nat.le_trans (Nat.le_trans hb.size hgr1.size) hgr2.size)) (fun k e => by cases e; exact hb.size))
end Go.Proofs.Ythhfhiiiniogdaa
