/- THE BRIDGE: the model's integers (Int, wrapped) and the plain laws' bits (BitVec). -/
import Derived.Test.YthhfhiiiniogdaaPlain
import Derived.Laws.BitsAllLaws
namespace Go.Proofs.Ythhfhiiiniogdaa
namespace Crc
/-- the model's number m is the 32 bits x -/
def Is (m : Int) (x : BitVec 32) : Prop := m = (x.toNat : Int)
/-- the model's number m is the 8 bits c -/
def Is8 (m : Int) (c : UInt8) : Prop := m = (c.toNat : Int)
theorem Is.lo {m : Int} {x : BitVec 32} (h : Is m x) : 0 ≤ m := by unfold Is at h; omega
theorem Is.hi {m : Int} {x : BitVec 32} (h : Is m x) : m < 4294967296 := by unfold Is at h; have := x.isLt; omega
theorem Is8.lo {m : Int} {x : UInt8} (h : Is8 m x) : 0 ≤ m := by unfold Is8 at h; omega
theorem Is8.hi {m : Int} {x : UInt8} (h : Is8 m x) : m < 256 := by unfold Is8 at h; have := x.toNat_lt; omega
theorem toNat_stp (x : BitVec 32) : (stp x).toNat = (x.toNat * 2 % 4294967296) ^^^ (x.toNat / 2147483648 * 2168537515) := by
  have hx := x.isLt
  unfold stp
  rw [BitVec.toNat_xor, BitVec.toNat_shiftLeft, Nat.shiftLeft_eq]
  congr 1
  by_cases h : x.toNat < 2147483648
  · have hm : x.msb = false := by rw [BitVec.msb_eq_decide]; simp; omega
    rw [hm, Nat.div_eq_of_lt h]; simp
  · have hm : x.msb = true := by rw [BitVec.msb_eq_decide]; simp; omega
    have : x.toNat / 2147483648 = 1 := by omega
    rw [hm, this]; simp [poly]
theorem Is.stp {m : Int} {x : BitVec 32} (h : Is m x) : Is (bits .xor .u32 (m * 2 % 4294967296) (m / 2147483648 * 2168537515)) (stp x) := by
  have hx := x.isLt
  unfold Is at *
  subst h
  have e1 : ((x.toNat : Int) * 2 % 4294967296) = ((x.toNat * 2 % 4294967296 : Nat) : Int) := by omega
  have e2 : ((x.toNat : Int) / 2147483648 * 2168537515) = ((x.toNat / 2147483648 * 2168537515 : Nat) : Int) := by omega
  rw [e1, e2, u32_xor_nat _ _ (by omega) (by omega), toNat_stp]
/-- the entry of the table that a round takes -/
def ent (x : BitVec 32) (c : UInt8) : BitVec 8 := (x >>> 24).setWidth 8 ^^^ c.toBitVec
theorem Is.ent {m v : Int} {x : BitVec 32} {c : UInt8} (h : Is m x) (k : Is8 v c) : bits .xor .u8 (m / 16777216) v = ((ent x c).toNat : Int) := by
  have hx := x.isLt
  have hc := c.toNat_lt
  unfold Is at h
  unfold Is8 at k
  subst h
  subst k
  have e1 : ((x.toNat : Int) / 16777216) = ((x.toNat / 16777216 : Nat) : Int) := by omega
  rw [e1, u8_xor_nat _ _ (by omega) (by omega)]
  unfold Crc.ent
  rw [BitVec.toNat_xor, BitVec.toNat_setWidth, BitVec.toNat_ushiftRight, Nat.shiftRight_eq_div_pow]
  congr 2
  omega
theorem Is.xor {m r : Int} {x y : BitVec 32} (h : Is m x) (k : Is r y) : Is (bits .xor .u32 m r) (x ^^^ y) := by
  have hx := x.isLt
  have hy := y.isLt
  unfold Is at *
  subst h
  subst k
  rw [u32_xor_nat _ _ (by omega) (by omega), BitVec.toNat_xor]
theorem Is.shl8 {m : Int} {x : BitVec 32} (h : Is m x) : Is (m * 256 % 4294967296) (x <<< 8) := by
  unfold Is at *
  subst h
  rw [BitVec.toNat_shiftLeft, Nat.shiftLeft_eq]
  omega
theorem Is.byteStp {m r : Int} {x : BitVec 32} {c : UInt8} (h : Is m x) (k : Is r (tab (Crc.ent x c))) : Is (bits .xor .u32 (m * 256 % 4294967296) r) (byteStp x c.toBitVec) :=
  h.shl8.xor k
theorem more_snoc (s : BitVec 32) (l : List UInt8) (k : Nat) (h : k < l.length) : more s (l.take (k + 1)) = byteStp (more s (l.take k)) (l.getD k 0).toBitVec := by
  rw [List.take_succ_eq_append_getElem h, more_append, List.getD_eq_getElem?_getD, List.getElem?_eq_getElem h]
  rfl
/-- the model's number t is the bit b -/
def IsB (t : Int) (b : Bool) : Prop := t = if b then 1 else 0
theorem IsB.lo {t : Int} {b : Bool} (h : IsB t b) : 0 ≤ t := by unfold IsB at h; split at h <;> omega
theorem IsB.hi {t : Int} {b : Bool} (h : IsB t b) : t ≤ 1 := by unfold IsB at h; split at h <;> omega
theorem Is.top {m : Int} {x : BitVec 32} (h : Is m x) : IsB (m / 2147483648) x.msb := by
  have hx := x.isLt
  unfold Is at h
  unfold IsB
  subst h
  rw [BitVec.msb_eq_decide]
  by_cases e : 2 ^ (32 - 1) ≤ x.toNat
  · simp only [e, decide_true, if_true]; omega
  · simp only [e, decide_false]; simp; omega
theorem Is8.top {v : Int} {c : BitVec 8} (h : Is8 v ⟨c⟩) : IsB (v / 128) c.msb := by
  have hx := c.isLt
  unfold Is8 at h
  unfold IsB
  subst h
  show (c.toNat : Int) / 128 = _
  rw [BitVec.msb_eq_decide]
  by_cases e : 2 ^ (8 - 1) ≤ c.toNat
  · simp only [e, decide_true, if_true]; omega
  · simp only [e, decide_false]; simp; omega
theorem Is8.shl1 {v : Int} {c : BitVec 8} (h : Is8 v ⟨c⟩) : Is8 (v * 2 % 256) ⟨c <<< 1⟩ := by
  unfold Is8 at *
  subst h
  show (c.toNat : Int) * 2 % 256 = ((c <<< 1).toNat : Int)
  rw [BitVec.toNat_shiftLeft, Nat.shiftLeft_eq]
  omega
theorem IsB.eq {t u : Int} {b c : Bool} (h : IsB t b) (k : IsB u c) : (t == u) = (b == c) := by
  unfold IsB at *
  subst h
  subst k
  cases b <;> cases c <;> rfl
theorem Is.shl1 {m : Int} {x : BitVec 32} (h : Is m x) : Is (m * 2 % 4294967296) (x <<< 1) := by
  unfold Is at *
  subst h
  rw [BitVec.toNat_shiftLeft, Nat.shiftLeft_eq]
  omega
theorem Is.poly : Is 2168537515 poly := rfl
theorem bitStp_diff {x : BitVec 32} {b : Bool} (h : (x.msb == b) = false) : bitStp x b = x <<< 1 ^^^ Crc.poly := by
  unfold bitStp
  cases hx : x.msb <;> cases b <;> simp_all
theorem bitStp_same {x : BitVec 32} {b : Bool} (h : (x.msb == b) = true) : bitStp x b = x <<< 1 := by
  unfold bitStp
  cases hx : x.msb <;> cases b <;> simp_all
end Crc
end Go.Proofs.Ythhfhiiiniogdaa
