/-
  PROVED: the closure inside crc.made sends a number of 32 bits to what comes of it when eight bits 0 go in (turn_any). Conditions: none.
-/
import Derived.Test.YthhfhiiiniogdaaRows
import Derived.Test.YthhfhiiiniogdaaBridge
import Derived.WalkKit
import Derived.Lib.Hide
namespace Go.Proofs.Ythhfhiiiniogdaa
open Go.RowKit Crc
theorem stpN_succ (k : Nat) (x : BitVec 32) : stpN (k + 1) x = stp (stpN k x) := stpN_add k 1 x
/-- the call returns the 32 bits x, and leaves the world as it was -/
def RetU (x : BitVec 32) (w : World) (e : Ending) (w' : World) : Prop := ∃ r : Int, Is r x ∧ e = .returned (.int .u32 r) ∧ w = w'
/-- crc.made$1: what comes of a number when eight bits 0 go in. -/
theorem turn_any (n : Int) (x : BitVec 32) (hn : Is n x) (w : World) :
    Calls Try.prog 21 #[.int .u32 n] w (RetU (stpN 8 x) w) := by
  have hb0 := hn.lo
  have hb1 := hn.hi
  go_enter Try.func21, Try.ntmps21
  go_wp2
  go_loop [0, 3, 4] (fun n t i => ∃ k : Nat, k ≤ 8 ∧ i = .int .i64 k ∧ ∃ m : Int, Is m (stpN k x) ∧ n = .int .u32 m) (fun _ _ i => 8 - (intOf i).toNat)
  case atStart => exact ⟨0, by omega, rfl, n, hn, rfl⟩
  case round =>
    obtain ⟨k, hk, rfl, m, hm, rfl⟩ := hrel
    have hb2 := hm.lo
    have hb3 := hm.hi
    by_cases hlt : k < 8
    · go_wp2
      go_round
      case rel => exact ⟨k + 1, by omega, by go_num, _, by rw [stpN_succ]; exact hm.stp, rfl⟩
      case measure => simp [intOf]; omega
    · go_wp2
      go_ret
      obtain rfl : k = 8 := by omega
      exact ⟨m, hm, rfl, rfl⟩
end Go.Proofs.Ythhfhiiiniogdaa
