/-
  PROVED: crc.More and crc.Of compute the sum of a slice of bytes (more_any, of_any). Conditions: the slice reads as the bytes l; at most 100000 of them.
-/
import Derived.Test.YthhfhiiiniogdaaT
namespace Go.Proofs.Ythhfhiiiniogdaa
open Go.RowKit Crc
/-- the first n places from a on read as the bytes l -/
def Rd (w : World) (a : Option Addr) (n : Nat) (l : List UInt8) : Prop :=
  l.length = n ∧ (0 < n → ∃ b off, a = some ⟨b, off, none⟩ ∧ b < w.heap.size ∧ ∀ i, i < n → w.cell? ⟨b, off + i, none⟩ = some (.int .u8 ((l.getD i 0).toNat : Int)))
/-- the call returns the 32 bits x; nothing that was there is other -/
def RetV (x : BitVec 32) (w : World) (e : Ending) (w' : World) : Prop := ∃ r : Int, Is r x ∧ e = .returned (.int .u32 r) ∧ Below w.heap.size w w'
theorem Rd.below {w w' : World} {a : Option Addr} {n : Nat} {l : List UInt8} (h : Rd w a n l) (hb : Below w.heap.size w w') : Rd w' a n l := by
  refine ⟨h.1, fun hn => ?_⟩
  obtain ⟨b, off, ha, hlt, hc⟩ := h.2 hn
  exact ⟨b, off, ha, Nat.lt_of_lt_of_le hlt hb.size, fun i hi => by rw [hb.cell (p := ⟨b, off + i, none⟩) hlt]; exact hc i hi⟩
set_option maxRecDepth 100000 in
theorem more_any (s : Int) (x : BitVec 32) (hs : Is s x) (a : Option Addr) (n cap : Nat) (l : List UInt8) (w : World) (hr : Rd w a n l) (hn : n ≤ 100000) :
    Calls Try.prog 13 #[.int .u32 s, .slice a n cap] w (RetV (more x l) w) := by
  have hb0 := hs.lo
  have hb1 := hs.hi
  go_enter Try.func13, Try.ntmps13
  go_wp2_with fail
  refine (made_any _).mono ?_
  rintro e w1 ⟨rfl, ⟨cs, hcs, htb⟩, hbel, hsz⟩
  have hr1 := hr.below hbel
  have HC := Lib.hid hcs
  have HS := Lib.hid hsz
  clear hcs hsz
  go_wp2_with fail
  go_loop [0, 7, 11] (fun s _ i => ∃ k : Nat, k ≤ n ∧ i = .int .i64 k ∧ ∃ m : Int, Is m (more x (l.take k)) ∧ s = .int .u32 m) (fun _ _ i => n - (intOf i).toNat)
  case atStart => exact ⟨0, by omega, rfl, s, hs, rfl⟩
  case round =>
    obtain ⟨k, hk, rfl, m, hm, rfl⟩ := hrel
    have hb2 := hm.lo
    have hb3 := hm.hi
    by_cases hlt : k < n
    · obtain ⟨b, off, rfl, hbl, hcell⟩ := hr1.2 (by omega)
      have hck := hcell k hlt
      clear hcell
      have HM := Lib.hid (more_snoc x l k (by rw [hr.1]; exact hlt))
      obtain ⟨c, hc⟩ : ∃ c : UInt8, c = l.getD k 0 := ⟨_, rfl⟩
      rw [← hc] at hck HM
      have HCC := Lib.hid hc
      clear hc
      obtain ⟨v, hv⟩ : ∃ v : Int, Is8 v c := ⟨_, rfl⟩
      have hv0 := hv.lo
      have hv1 := hv.hi
      have hck' : w1.cell? ⟨b, off + k, none⟩ = some (.int .u8 v) := by rw [hck]; exact congrArg (fun z => some (Value.int IntKind.u8 z)) hv.symm
      clear hck
      have he := hm.ent hv
      have hq0 : 0 ≤ bits .xor .u8 (m / 16777216) v := by rw [he]; omega
      have hq1 : bits .xor .u8 (m / 16777216) v < 256 := by rw [he]; have := (ent (more x (l.take k)) c).isLt; omega
      obtain ⟨r, hr1, hr2, hr3, hr4⟩ := htb.2 (ent (more x (l.take k)) c).toNat (ent (more x (l.take k)) c).isLt
      have hr5 := hr4 (ent (more x (l.take k)) c).isLt
      have ht : w1.cell? ⟨w.heap.size, (bits .xor .u8 (m / 16777216) v).toNat, none⟩ = some (.int .u32 r) := by
        rw [he, Int.toNat_natCast, cell_of_row w1 w.heap.size _ cs 41 (0, 0) HC.out]; exact hr1
      clear he hr1 hr4
      go_wp2
      go_round
      case rel => exact ⟨k + 1, by omega, by go_num, _, by rw [HM.out]; refine hm.byteStp ?_; simpa using hr5, rfl⟩
      case measure => simp [intOf]; omega
    · go_wp2
      go_ret
      obtain rfl : k = n := by omega
      refine ⟨m, ?_, rfl, hbel⟩
      rw [List.take_of_length_le (by rw [hr.1]; exact Nat.le_refl _)] at hm
      exact hm
/-- crc.Of -/
theorem of_any (a : Option Addr) (n cap : Nat) (l : List UInt8) (w : World) (hr : Rd w a n l) (hn : n ≤ 100000) :
    Calls Try.prog 11 #[.slice a n cap] w (RetV (more first l) w) := by
  go_enter Try.func11, Try.ntmps11
  go_wp2_with fail
  refine (more_any 4294967295 first rfl a n cap l _ hr hn).mono ?_
  rintro e w1 ⟨r, h, rfl, hb⟩
  go_wp2
  go_ret
  exact ⟨r, h, rfl, hb⟩
end Go.Proofs.Ythhfhiiiniogdaa
