/-
  PROVED: Rows of the program counts the rows together (rows_any); the walk of the law PurseRows: it returns true and changes nothing that was there (rows_walk). Conditions: the slice reads as rows.
-/
import Derived.Test.YtbmndojfemekdaaIn
namespace Go.Proofs.Ytbmndojfemekdaa
open Go.RowKit
/-- row i counts v -/
def RowAt (w : World) (a : Option Addr) (i : Nat) (v : Int) : Prop := ∃ b off ra rn rc l, a = some ⟨b, off, none⟩ ∧ b < w.heap.size ∧ w.cell? ⟨b, off + i, none⟩ = some (.slice ra rn rc) ∧ rn ≤ 9223372036854775807 ∧ VRd w ra rn l ∧ v = rowN l
/-- row i is short and counts v -/
def RowS (w : World) (a : Option Addr) (i : Nat) (v : Int) : Prop := ∃ b off ra rn rc l, a = some ⟨b, off, none⟩ ∧ b < w.heap.size ∧ w.cell? ⟨b, off + i, none⟩ = some (.slice ra rn rc) ∧ rn ≤ 50 ∧ VRd w ra rn l ∧ v = rowN l
theorem RowAt.below {w w' : World} {a : Option Addr} {i : Nat} {v : Int} (h : RowAt w a i v) (hb : Below w.heap.size w w') : RowAt w' a i v := by
  obtain ⟨b, off, ra, rn, rc, l, ha, hlt, hc, hm, hv, e⟩ := h
  exact ⟨b, off, ra, rn, rc, l, ha, Nat.lt_of_lt_of_le hlt hb.size, by rw [hb.cell (p := ⟨b, off + i, none⟩) hlt]; exact hc, hm, hv.below hb, e⟩
theorem RowS.below {w w' : World} {a : Option Addr} {i : Nat} {v : Int} (h : RowS w a i v) (hb : Below w.heap.size w w') : RowS w' a i v := by
  obtain ⟨b, off, ra, rn, rc, l, ha, hlt, hc, hm, hv, e⟩ := h
  exact ⟨b, off, ra, rn, rc, l, ha, Nat.lt_of_lt_of_le hlt hb.size, by rw [hb.cell (p := ⟨b, off + i, none⟩) hlt]; exact hc, hm, hv.below hb, e⟩
theorem RRd.some {w : World} {a : Option Addr} {n : Nat} (h : RRd w a n) : ∃ f : Nat → Int, ∀ i, i < n → RowAt w a i (f i) :=
  Deep.choose_lt (p := fun i (z : Int) => RowAt w a i z) (fun i hi => by
    obtain ⟨b, off, ra, rn, rc, l, ha, hlt, hc, hm, hv⟩ := h i hi
    exact ⟨_, b, off, ra, rn, rc, l, ha, hlt, hc, hm, hv, rfl⟩)
def accN (f : Nat → Int) : Nat → Int
  | 0 => 0
  | k + 1 => wrap64 (accN f k + f k)
theorem run_cut44 (a : Option Addr) (m cap n : Nat) (i : Int) (hi : i = n) (h : n ≤ cap) (w : World) : (Instr.slice 44 (.slice a m cap) none (some (.int .i64 i)) none).run Try.prog w = .ok (.slice a n cap) w := by
  subst hi
  have hn : (n : Int) ≤ (cap : Int) := by omega
  simp [Instr.slice, run_underlying Try.underlying44, Instr.sliceBounds, run_sliceBound, hn]
  cases a <;> simp [Addr.add]
set_option maxRecDepth 100000 in
theorem rows_any (a : Option Addr) (n cap : Nat) (f : Nat → Int) (w : World) (h : ∀ i, i < n → RowS w a i (f i)) (hn : n ≤ 50) :
    Calls Try.prog 20 #[.slice a n cap] w (RetR (accN f n) w) := by
  go_enter Try.func20, Try.ntmps20
  go_wp2
  go_loopw [3, 8] (fun t i wr => ∃ k : Nat, k ≤ n ∧ i = .int .i64 k ∧ t = .int .i64 (accN f k) ∧ Below w.heap.size w wr) (fun _ i _ => n - (intOf i).toNat)
  case atStart => exact ⟨0, by omega, rfl, rfl, Below.refl _ _⟩
  case round =>
    obtain ⟨k, hk, rfl, rfl, hb⟩ := hrel
    by_cases hlt : k < n
    · obtain ⟨b, off, ra, rn, rc, l, rfl, hbl, hc, hm, hv, he⟩ := (h k hlt).below hb
      have hw : accN f (k + 1) = wrap64 (accN f k + rowN l) := by rw [← he]; rfl
      have HW := Lib.hid hw
      clear hw he
      go_wp2_with fail
      refine (row_any ra rn rc l wr hv (by omega)).mono ?_
      rintro e w2 ⟨rfl, hb2⟩
      have hb3 := hb.trans (hb2.mono hb.size)
      go_wp2
      go_roundw
      case rel => exact ⟨k + 1, by omega, by go_num, by rw [HW.out], hb3⟩
      case measure => simp [intOf]; omega
    · go_wp2
      go_ret
      obtain rfl : k = n := by omega
      exact ⟨rfl, hb⟩
theorem rows_nil (w : World) : Calls Try.prog 20 #[.slice none 0 0] w (RetR 0 w) := rows_any none 0 0 (fun _ => 0) w (fun i hi => by omega) (by omega)
theorem row_nil (w : World) : Calls Try.prog 18 #[.slice none 0 0] w (RetR 8 w) := row_any none 0 0 [] w ⟨rfl, fun i hi => by omega⟩ (by omega)
set_option maxRecDepth 100000 in
set_option maxHeartbeats 1000000 in
theorem rows_walk (a : Option Addr) (n cap : Nat) (hs : Shape a n cap) (w : World) (hr : RRd w a n) :
    Calls Try.prog 7 #[.slice a n cap] w fun e w' => e = .returned (.bool true) ∧ Below w.heap.size w w' := by
  obtain ⟨f, hf⟩ := hr.some
  have hc1 := hs.1
  have hc2 := hs.2.1
  have HF := Lib.hid hf
  clear hf hr
  by_cases hp : n ≤ 50
  · have hcut := fun w => run_cut44 a n cap n (n : Int) rfl (by omega) w
    have hcut2 := fun (k : Nat) (hk : k ≤ n) w => run_cut44 a n cap k (k : Int) rfl (by omega) w
    have HC2 := Lib.hid hcut2
    clear hcut2
    have hn50 : n ≤ 50 := hp
    have HP := Lib.hid hp
    clear hp
    go_enter Try.func7, Try.ntmps7
    go_wp2_with fail
    refine (shown_any _).mono ?_
    rintro e w1 ⟨rfl, hb1⟩
    go_wp2_with fail
    clear hcut
    go_loopw [4, 5, 16] (fun t x i wr => ∃ k : Nat, k ≤ n ∧ i = .int .i64 k ∧ t = .int .i64 (accN f k) ∧ x = .slice a n cap ∧ Hid (∀ j, j < k → RowS wr a j (f j)) ∧ Below w.heap.size w wr) (fun _ _ i _ => n - (intOf i).toNat)
    case atStart => exact ⟨0, by omega, rfl, rfl, rfl, fun j hj => by omega, hb1⟩
    case round =>
      obtain ⟨k, hk, rfl, rfl, rfl, HS, hb⟩ := hrel
      by_cases hlt : k < n
      · have hraw := (HF.out k (by omega)).below hb
        have HR := Lib.hid hraw
        obtain ⟨b, off, ra, rn, rc, l, rfl, hbl, hc, hm, hv, he⟩ := hraw
        by_cases h50 : rn ≤ 50
        · have hw : accN f (k + 1) = wrap64 (accN f k + rowN l) := by rw [← he]; rfl
          have HW := Lib.hid hw
          have hS1 : RowS wr (some ⟨b, off, none⟩) k (f k) := ⟨b, off, ra, rn, rc, l, rfl, hbl, hc, h50, hv, he⟩
          have HS1 := Lib.hid hS1
          have HV := Lib.hid hv
          clear hw he hS1 hv HR
          go_wp2_with fail
          refine (row_any ra rn rc l wr HV.out (by omega)).mono ?_
          rintro e w2 ⟨rfl, hb2⟩
          have hb2' := hb.trans (hb2.mono hb.size)
          go_wp2_with fail
          refine (refRow_any ra rn rc l w2 (HV.out.below hb2) (by omega)).mono ?_
          rintro e w3 ⟨rfl, hb3⟩
          have hb3' := hb2'.trans (hb3.mono hb2'.size)
          have hb23 : Below wr.heap.size wr w3 := hb2.trans (hb3.mono hb2.size)
          go_wp2_with fail
          refine (refRow_any ra rn rc l w3 (HV.out.below hb23) (by omega)).mono ?_
          rintro e w4 ⟨rfl, hb4⟩
          have hb4' := hb3'.trans (hb4.mono hb3'.size)
          have hb24 : Below wr.heap.size wr w4 := hb23.trans (hb4.mono hb23.size)
          have hnext : Hid (∀ j, j < k + 1 → RowS w4 (some ⟨b, off, none⟩) j (f j)) := fun j hj => by
            by_cases hjk : j < k
            · exact (HS.out j hjk).below hb24
            · obtain rfl : j = k := by omega
              exact HS1.out.below hb24
          go_wp2
          go_roundw
          case rel => exact ⟨k + 1, by omega, by go_num, by rw [HW.out], rfl, hnext, hb4'⟩
          case measure => simp [intOf]; omega
        · have hcc := HC2.out k (by omega)
          clear he hv HR
          go_wp2_with fail
          refine (rows_any _ k cap f wr HS.out (by omega)).mono ?_
          rintro e w2 ⟨rfl, hb2⟩
          have hb0 := hb
          go_wp2_with fail
          have hb2' := hb0.trans (hb2.mono hb0.size)
          refine (rows_nil w2).mono ?_
          rintro e w3 ⟨rfl, hb3⟩
          have hb3' := hb2'.trans (hb3.mono hb2'.size)
          go_wp2_with fail
          refine (row_nil w3).mono ?_
          rintro e w4 ⟨rfl, hb4⟩
          have hb4' := hb3'.trans (hb4.mono hb3'.size)
          go_wp2
          go_ret
          exact ⟨rfl, hb4'⟩
      · obtain rfl : k = n := by omega
        go_wp2_with fail
        refine (rows_any _ _ cap f wr HS.out (by omega)).mono ?_
        rintro e w2 ⟨rfl, hb2⟩
        have hb0 := hb
        go_wp2_with fail
        have hb2' := hb0.trans (hb2.mono hb0.size)
        refine (rows_nil w2).mono ?_
        rintro e w3 ⟨rfl, hb3⟩
        have hb3' := hb2'.trans (hb3.mono hb2'.size)
        go_wp2_with fail
        refine (row_nil w3).mono ?_
        rintro e w4 ⟨rfl, hb4⟩
        have hb4' := hb3'.trans (hb4.mono hb3'.size)
        go_wp2
        go_ret
        exact ⟨rfl, hb4'⟩
  · have hcut := fun w => run_cut44 a n cap 50 50 rfl (by omega) w
    have hcut2 := fun (k : Nat) (hk : k ≤ 50) w => run_cut44 a 50 cap k (k : Int) rfl (by omega) w
    have HC2 := Lib.hid hcut2
    clear hcut2
    have hn50 : 50 ≤ n := by omega
    go_enter Try.func7, Try.ntmps7
    go_wp2_with fail
    refine (shown_any _).mono ?_
    rintro e w1 ⟨rfl, hb1⟩
    go_wp2_with fail
    clear hcut
    go_loopw [4, 5, 16] (fun t x i wr => ∃ k : Nat, k ≤ 50 ∧ i = .int .i64 k ∧ t = .int .i64 (accN f k) ∧ x = .slice a 50 cap ∧ Hid (∀ j, j < k → RowS wr a j (f j)) ∧ Below w.heap.size w wr) (fun _ _ i _ => 50 - (intOf i).toNat)
    case atStart => exact ⟨0, by omega, rfl, rfl, rfl, fun j hj => by omega, hb1⟩
    case round =>
      obtain ⟨k, hk, rfl, rfl, rfl, HS, hb⟩ := hrel
      by_cases hlt : k < 50
      · have hraw := (HF.out k (by omega)).below hb
        have HR := Lib.hid hraw
        obtain ⟨b, off, ra, rn, rc, l, rfl, hbl, hc, hm, hv, he⟩ := hraw
        by_cases h50 : rn ≤ 50
        · have hw : accN f (k + 1) = wrap64 (accN f k + rowN l) := by rw [← he]; rfl
          have HW := Lib.hid hw
          have hS1 : RowS wr (some ⟨b, off, none⟩) k (f k) := ⟨b, off, ra, rn, rc, l, rfl, hbl, hc, h50, hv, he⟩
          have HS1 := Lib.hid hS1
          have HV := Lib.hid hv
          clear hw he hS1 hv HR
          go_wp2_with fail
          refine (row_any ra rn rc l wr HV.out (by omega)).mono ?_
          rintro e w2 ⟨rfl, hb2⟩
          have hb2' := hb.trans (hb2.mono hb.size)
          go_wp2_with fail
          refine (refRow_any ra rn rc l w2 (HV.out.below hb2) (by omega)).mono ?_
          rintro e w3 ⟨rfl, hb3⟩
          have hb3' := hb2'.trans (hb3.mono hb2'.size)
          have hb23 : Below wr.heap.size wr w3 := hb2.trans (hb3.mono hb2.size)
          go_wp2_with fail
          refine (refRow_any ra rn rc l w3 (HV.out.below hb23) (by omega)).mono ?_
          rintro e w4 ⟨rfl, hb4⟩
          have hb4' := hb3'.trans (hb4.mono hb3'.size)
          have hb24 : Below wr.heap.size wr w4 := hb23.trans (hb4.mono hb23.size)
          have hnext : Hid (∀ j, j < k + 1 → RowS w4 (some ⟨b, off, none⟩) j (f j)) := fun j hj => by
            by_cases hjk : j < k
            · exact (HS.out j hjk).below hb24
            · obtain rfl : j = k := by omega
              exact HS1.out.below hb24
          go_wp2
          go_roundw
          case rel => exact ⟨k + 1, by omega, by go_num, by rw [HW.out], rfl, hnext, hb4'⟩
          case measure => simp [intOf]; omega
        · have hcc := HC2.out k (by omega)
          clear he hv HR
          go_wp2_with fail
          refine (rows_any _ k cap f wr HS.out (by omega)).mono ?_
          rintro e w2 ⟨rfl, hb2⟩
          have hb0 := hb
          go_wp2_with fail
          have hb2' := hb0.trans (hb2.mono hb0.size)
          refine (rows_nil w2).mono ?_
          rintro e w3 ⟨rfl, hb3⟩
          have hb3' := hb2'.trans (hb3.mono hb2'.size)
          go_wp2_with fail
          refine (row_nil w3).mono ?_
          rintro e w4 ⟨rfl, hb4⟩
          have hb4' := hb3'.trans (hb4.mono hb3'.size)
          go_wp2
          go_ret
          exact ⟨rfl, hb4'⟩
      · obtain rfl : k = 50 := by omega
        go_wp2_with fail
        refine (rows_any _ _ cap f wr HS.out (by omega)).mono ?_
        rintro e w2 ⟨rfl, hb2⟩
        have hb0 := hb
        go_wp2_with fail
        have hb2' := hb0.trans (hb2.mono hb0.size)
        refine (rows_nil w2).mono ?_
        rintro e w3 ⟨rfl, hb3⟩
        have hb3' := hb2'.trans (hb3.mono hb2'.size)
        go_wp2_with fail
        refine (row_nil w3).mono ?_
        rintro e w4 ⟨rfl, hb4⟩
        have hb4' := hb3'.trans (hb4.mono hb3'.size)
        go_wp2
        go_ret
        exact ⟨rfl, hb4'⟩
end Go.Proofs.Ytbmndojfemekdaa
