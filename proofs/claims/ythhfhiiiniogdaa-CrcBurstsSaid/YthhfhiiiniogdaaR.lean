/-
  PROVED: the reference's step, More and Of compute the same sum, bit by bit (step_any, refMore_any, refOf_any). Conditions: the slice reads as the bytes l; at most 100000 of them.
-/
import Derived.Test.YthhfhiiiniogdaaS
namespace Go.Proofs.Ythhfhiiiniogdaa
open Go.RowKit Crc
/-- warpref02.step -/
theorem step_any (s : Int) (x : BitVec 32) (hs : Is s x) (t : Int) (b : Bool) (ht : IsB t b) (w : World) :
    Calls Try.prog 20 #[.int .u32 s, .int .u8 t] w (RetU (bitStp x b) w) := by
  have h0 := hs.lo
  have h1 := hs.hi
  have h2 := ht.lo
  have h3 := ht.hi
  have he := hs.top.eq ht
  cases hb : (x.msb == b)
  · rw [hb] at he
    have hn : (s / 2147483648 != t) = true := by simp [bne, he]
    have HB := Lib.hid hb
    clear hb
    go_enter Try.func20, Try.ntmps20
    go_wp2
    go_ret
    refine ⟨_, ?_, rfl, rfl⟩
    rw [bitStp_diff HB.out]
    exact hs.shl1.xor Is.poly
  · rw [hb] at he
    have hn : (s / 2147483648 != t) = false := by simp [bne, he]
    have HB := Lib.hid hb
    clear hb
    go_enter Try.func20, Try.ntmps20
    go_wp2
    go_ret
    refine ⟨_, ?_, rfl, rfl⟩
    rw [bitStp_same HB.out]
    exact hs.shl1
theorem refTo_succ1 (k : Nat) (s : BitVec 32) (c : BitVec 8) : (refTo (k + 1) s c).1 = bitStp (refTo k s c).1 (refTo k s c).2.msb := rfl
theorem refTo_succ2 (k : Nat) (s : BitVec 32) (c : BitVec 8) : (refTo (k + 1) s c).2 = (refTo k s c).2 <<< 1 := rfl
set_option maxRecDepth 100000 in
/-- warpref02.More -/
theorem refMore_any (s : Int) (x : BitVec 32) (hs : Is s x) (a : Option Addr) (n cap : Nat) (l : List UInt8) (w : World) (hr : Rd w a n l) (hn : n ≤ 100000) :
    Calls Try.prog 14 #[.int .u32 s, .slice a n cap] w (RetU (more x l) w) := by
  go_enter Try.func14, Try.ntmps14
  go_wp2_with fail
  go_loop [0, 5, 6, 7] (fun s i _ _ => ∃ k : Nat, k ≤ n ∧ i = .int .i64 k ∧ ∃ m : Int, Is m (more x (l.take k)) ∧ s = .int .u32 m) (fun _ i _ _ => n - (intOf i).toNat)
  case atStart => exact ⟨0, by omega, rfl, s, hs, rfl⟩
  case round =>
    obtain ⟨k, hk, rfl, m, hm, rfl⟩ := hrel
    by_cases hlt : k < n
    · obtain ⟨b, off, rfl, hbl, hcell⟩ := hr.2 (by omega)
      have hck := hcell k hlt
      clear hcell
      have HM := Lib.hid (more_snoc x l k (by rw [hr.1]; exact hlt))
      obtain ⟨c, hc⟩ : ∃ c : UInt8, c = l.getD k 0 := ⟨_, rfl⟩
      rw [← hc] at hck HM
      have HCC := Lib.hid hc
      clear hc
      obtain ⟨v, hv⟩ : ∃ v : Int, Is8 v c := ⟨_, rfl⟩
      have hv0 := hv.lo
      have hv1 := hv.hi
      have hck' : w.cell? ⟨b, off + k, none⟩ = some (.int .u8 v) := by rw [hck]; exact congrArg (fun z => some (Value.int IntKind.u8 z)) hv.symm
      clear hck
      go_wp2_with fail
      go_loop [0, 6, 7] (fun s c' j => ∃ q : Nat, q ≤ 8 ∧ j = .int .i64 q ∧ (∃ m : Int, Is m (refTo q (more x (l.take k)) c.toBitVec).1 ∧ s = .int .u32 m) ∧ ∃ u : Int, Is8 u ⟨(refTo q (more x (l.take k)) c.toBitVec).2⟩ ∧ c' = .int .u8 u) (fun _ _ j => 8 - (intOf j).toNat)
      case atStart => exact ⟨0, by omega, rfl, ⟨m, hm, rfl⟩, v, hv, rfl⟩
      case round =>
        obtain ⟨q, hq, rfl, ⟨m', hm', rfl⟩, u, hu, rfl⟩ := hrel
        have hu0 := hu.lo
        have hu1 := hu.hi
        by_cases hlt8 : q < 8
        · go_wp2_with fail
          refine (step_any _ _ hm' _ _ hu.top _).mono ?_
          rintro e w' ⟨r, hr2, rfl, rfl⟩
          go_wp2
          go_round
          case rel => exact ⟨q + 1, by omega, by go_num, ⟨r, by rw [refTo_succ1]; exact hr2, rfl⟩, _, by rw [refTo_succ2]; exact hu.shl1, rfl⟩
          case measure => simp [intOf]; omega
        · obtain rfl : q = 8 := by omega
          go_wp2
          go_round
          case rel => exact ⟨k + 1, by omega, by go_num, m', by rw [HM.out, ← ref_byte]; exact hm', rfl⟩
          case measure => simp [intOf]; omega
    · go_wp2
      go_ret
      obtain rfl : k = n := by omega
      refine ⟨m, ?_, rfl, rfl⟩
      rw [List.take_of_length_le (by rw [hr.1]; exact Nat.le_refl _)] at hm
      exact hm
/-- warpref02.Of -/
theorem refOf_any (a : Option Addr) (n cap : Nat) (l : List UInt8) (w : World) (hr : Rd w a n l) (hn : n ≤ 100000) :
    Calls Try.prog 12 #[.slice a n cap] w (RetU (more first l) w) := by
  go_enter Try.func12, Try.ntmps12
  go_wp2_with fail
  refine (refMore_any 4294967295 first rfl a n cap l _ hr hn).mono ?_
  rintro e w1 ⟨r, h, rfl, rfl⟩
  go_wp2
  go_ret
  exact ⟨r, h, rfl, rfl⟩
end Go.Proofs.Ythhfhiiiniogdaa
