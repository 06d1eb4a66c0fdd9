/-
  PROVED: the walk of the law CrcBursts: it returns true and changes nothing that was there (bursts_walk). Conditions: the slice reads as some bytes.
-/
import Derived.Test.YthhfhiiiniogdaaSeals
namespace Go.Proofs.Ythhfhiiiniogdaa
open Go.RowKit Crc
/-- after k places: the sum of the bytes is that of the burst W, d steps on; b: is anything turned? -/
def Burst (k d : Nat) (ys : List UInt8) (W : BitVec 32) (b : Bool) : Prop := more first ys = stpN d W ∧ (∀ j, j < 32 - k → W.getLsbD j = false) ∧ (b = true ↔ W ≠ 0#32)
theorem Burst.start (d : Nat) (x : List UInt8) : Burst 0 d (sealed x) 0#32 false := ⟨by rw [more_seal, stpN_zero], fun j _ => by simp, by simp⟩
theorem Burst.keep {k d : Nat} {ys : List UInt8} {W : BitVec 32} {b : Bool} (h : Burst k d ys W b) : Burst (k + 1) d ys W b := ⟨h.1, fun j hj => h.2.1 j (by omega), h.2.2⟩
theorem Burst.turn {k F m : Nat} {ys : List UInt8} {W : BitVec 32} {b : Bool} (h : Burst k (8 * m - F) ys W b) (hk : k < 32) (hl : ys.length = m) (hF : F + k < 8 * m) :
    Burst (k + 1) (8 * m - F) (flip ys (F + k)) (W ^^^ (0x80000000#32 >>> k)) true := by
  have hbit : ∀ k, k < 32 → ∀ j, j < 32 → (0x80000000#32 >>> k).getLsbD j = decide (j = 31 - k) := by decide
  refine ⟨?_, fun j hj => ?_, ?_⟩
  · rw [← hl, more_flip_word first ys F k hk (by rw [hl]; exact hF), hl, h.1, stpN_xor]
  · rw [BitVec.getLsbD_xor, h.2.1 j (by omega), hbit k hk j (by omega)]
    simp; omega
  · refine ⟨fun _ h0 => ?_, fun _ => rfl⟩
    have h1 := congrArg (fun z => BitVec.getLsbD z (31 - k)) h0
    simp only [BitVec.getLsbD_xor] at h1
    rw [h.2.1 (31 - k) (by omega), hbit k hk (31 - k) (by omega)] at h1
    simp at h1
theorem Burst.zero {k d : Nat} {ys : List UInt8} {W : BitVec 32} (h : Burst k d ys W false) : more first ys = 0#32 := by
  have hw : W = 0#32 := by
    rcases Decidable.em (W = 0#32) with h0 | h0
    · exact h0
    · have := h.2.2.2 h0; cases this
  rw [h.1, hw, stpN_zero]
theorem Burst.nonzero {k d : Nat} {ys : List UInt8} {W : BitVec 32} (h : Burst k d ys W true) : more first ys ≠ 0#32 := fun h0 =>
  h.2.2.1 rfl (stpN_eq_zero d W (by rw [← h.1]; exact h0))
theorem is8_bit (j : Nat) (hj : j < 8) : Is8 (128 / 2 ^ j) (128 >>> UInt8.ofNat j) := by
  have : ∀ j, j < 8 → (128 : Int) / 2 ^ j = ((128 >>> UInt8.ofNat j : UInt8).toNat : Int) := by decide
  exact this j hj
set_option maxRecDepth 100000 in
theorem bursts_walk (a : Option Addr) (n cap : Nat) (l : List UInt8) (v : Int) (hv0 : 0 ≤ v) (hv1 : v < 18446744073709551616) (u : Int) (_hu0 : 0 ≤ u) (_hu1 : u < 4294967296) (w : World) (hs : Shape a n cap) (hr : Rd w a n l) :
    Calls Try.prog 8 #[.slice a n cap, .int .u64 v, .int .u32 u] w fun e w' => e = .returned (.bool true) ∧ Below w.heap.size w w' := by
  obtain ⟨p, hp⟩ : ∃ p, fewN n = p := ⟨_, rfl⟩
  obtain ⟨hn1, hn2⟩ := fewN_le n
  rw [hp] at hn1 hn2
  have HP := Lib.hid hp
  clear hp
  have hra := hr.take p hn1
  have hsa := hs.less p hn1
  generalize l.take p = x at *
  go_enter Try.func8, Try.ntmps8
  go_wp2_with fail
  refine (shown_any _).mono ?_
  rintro e w1 ⟨rfl, hb1⟩
  have hra1 := hra.below hb1
  go_wp2_with fail
  refine (few_is a n cap w1 hs p HP.out).mono ?_
  rintro e w' ⟨rfl, rfl⟩
  go_wp2_with fail
  refine (seal_any a _ cap x _ hsa hra1 (by omega)).mono ?_
  rintro e w2 ⟨g2, c2, rfl, ho2, hb2⟩
  have hxl : x.length = p := hra.1
  rw [hxl] at ho2 ⊢
  obtain ⟨m, hm⟩ : ∃ m, m = p + 4 := ⟨_, rfl⟩
  rw [← hm] at ho2 ⊢
  have HM := Lib.hid hm
  clear hm hxl
  go_wp2_with fail
  refine (few_is a n cap w2 hs p HP.out).mono ?_
  rintro e w' ⟨rfl, rfl⟩
  have hmb : (m : Int) = (p : Int) + 4 := by have := HM.out; omega
  have ht : ((m : Int) != (p : Int) + 4) = false := by simp; omega
  have HMB := Lib.hid hmb
  have hm1 : m ≤ 5004 := by omega
  have hm2 : 4 ≤ m := by omega
  clear hmb
  obtain ⟨F, hF⟩ : ∃ F : Nat, v % (8 * (m : Int)) = (F : Int) := ⟨(v % (8 * (m : Int))).toNat, by have := Int.emod_nonneg v (show 8 * (m : Int) ≠ 0 by omega); omega⟩
  have hF0 : 0 ≤ v % (8 * (m : Int)) := Int.emod_nonneg v (by omega)
  have hF1 : v % (8 * (m : Int)) < 8 * (m : Int) := Int.emod_lt_of_pos v (by omega)
  have HF := Lib.hid hF
  clear hF
  go_wp2_with fail
  rw [HF.out]
  rw [HF.out] at hF0 hF1
  have hF2 : F < 8 * m := by omega
  clear hF0 hF1
  have hk2 : Kp w1 w2 := hb2
  go_loopw [10, 33] (fun t i wr => ∃ k : Nat, k ≤ 32 ∧ i = .int .i64 k ∧ ∃ (ys : List UInt8) (W : BitVec 32) (b : Bool), t = .bool b ∧ Own wr w1.heap.size (some ⟨g2, 0, none⟩) m c2 ys ∧ Burst k (8 * m - F) ys W b ∧ Kp w1 wr) (fun _ i _ => 32 - (intOf i).toNat)
  case atStart => exact ⟨0, by omega, rfl, _, 0#32, false, rfl, ho2, Burst.start _ _, hk2⟩
  case round =>
    obtain ⟨k, hk, rfl, ys, W, b, rfl, hown, hbu, hkp⟩ := hrel
    by_cases hlt : k < 32
    · obtain ⟨q, hq⟩ : ∃ q, bits BinOp.and IntKind.u32 (u / 2 ^ k) 1 = q := ⟨_, rfl⟩
      by_cases hin : F + k < 8 * m
      · cases hb : (q == 1)
        · go_wp2
          go_roundw
          case rel => exact ⟨k + 1, by omega, by go_num, ys, W, b, rfl, hown, hbu.keep, hkp⟩
          case measure => simp [intOf]; omega
        · obtain ⟨z, hz, hcz⟩ := hown.at ((F + k) / 8) (by omega)
          have hfz := hown.2.frozenAt ((F + k) / 8)
          have HZ := Lib.hid hz
          have hz0 := hz.lo
          have hz1 := hz.hi
          clear hz
          go_wp2
          go_region
          go_wp2
          go_roundw
          case rel => exact ⟨k + 1, by omega, by go_num, _, _, true, rfl, hown.stored _ _ _ (Is8.xor HZ.out (is8_bit _ (Nat.mod_lt _ (by omega)))), hbu.turn hlt hown.1 hin, (Below.setCell hkp hown.base _).drew⟩
          case measure => simp [intOf]; omega
      · cases hb : (q == 1)
        · go_wp2
          go_roundw
          case rel => exact ⟨k + 1, by omega, by go_num, ys, W, b, rfl, hown, hbu.keep, hkp⟩
          case measure => simp [intOf]; omega
        · go_wp2
          go_roundw
          case rel => exact ⟨k + 1, by omega, by go_num, ys, W, b, rfl, hown, hbu.keep, hkp⟩
          case measure => simp [intOf]; omega
    · obtain rfl : k = 32 := by omega
      cases b
      · go_wp2_with fail
        refine (open_ok _ m c2 ys _ hown.shape hown.rd (by omega) hm2 hbu.zero).mono ?_
        rintro e w4 ⟨a4, c4, rfl, ho4, hb4⟩
        go_wp2
        go_ret
        exact ⟨rfl, hb1.trans ((Kp.out (hkp.trans hb4)).mono hb1.size)⟩
      · go_wp2_with fail
        refine (open_bad _ m c2 ys _ hown.rd (by omega) (Or.inr hbu.nonzero)).mono ?_
        rintro e w4 ⟨rfl, hb4⟩
        go_wp2
        go_ret
        exact ⟨rfl, hb1.trans ((Kp.out (hkp.trans hb4)).mono hb1.size)⟩
end Go.Proofs.Ythhfhiiiniogdaa
