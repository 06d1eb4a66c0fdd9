/-
  PROVED: a slice of bytes that came in reads as some bytes l (IsRow.rd). Conditions: none.
-/
import Derived.Test.YthhfhiiiniogdaaH
import Derived.Test.YthhfhiiiniogdaaR
import Derived.ProofKit
namespace Go.Proofs.Ythhfhiiiniogdaa
open Go.RowKit Crc
/-- a slice of integers that came in (the shell's own words): nil, or a row of numbers that fit their kind -/
def IsRow (k : IntKind) (w : World) (a : Option Addr) (len cap : Nat) (zs : List Int) : Prop :=
  (a = none ∧ len = 0 ∧ cap = 0 ∧ zs = []) ∨
  ∃ x, a = some x ∧ len ≤ cap ∧ cap ≤ maxLen ∧ zs.length = cap ∧ (∀ i, i < zs.length → w.cell? (x.add i) = some (.int k (zs.getD i 0))) ∧ ∀ n ∈ zs, (Lit.int k n).wf = true
theorem IsRow.rd {w : World} {a : Option Addr} {len cap : Nat} {zs : List Int} (h : IsRow .u8 w a len cap zs) : Shape a len cap ∧ ∃ l, Rd w a len l := by
  rcases h with ⟨rfl, rfl, rfl, rfl⟩ | ⟨x, rfl, hl, hm, hz, hcell, hwz⟩
  · exact ⟨⟨Nat.le_refl _, by omega, fun _ => ⟨rfl, rfl⟩, fun x hx _ => by cases hx⟩, [], Rd.nil _ _⟩
  · have hspot : 0 < cap → x.spot = none := fun h0 => by
      have := hcell 0 (by omega)
      simpa [Addr.add] using World.cell?_spot this
    refine ⟨⟨hl, by unfold maxLen at hm; exact hm, fun hx => by (cases hx), fun y hy h0 => by (cases hy; exact hspot h0)⟩, (zs.take len).map (fun n => UInt8.ofNat n.toNat), ?_, fun h0 => ?_⟩
    · simp; omega
    · obtain ⟨b, off, s⟩ := x
      obtain rfl := hspot (by omega)
      have hc0 := hcell 0 (by omega)
      refine ⟨b, off, rfl, ?_, fun i hi => ?_⟩
      · simp only [Addr.add, if_true] at hc0
        exact block_lt_of_cell hc0
      · have hci := hcell i (by omega)
        have hw := hwz (zs.getD i 0) (by rw [List.getD_eq_getElem?_getD, List.getElem?_eq_getElem (show i < zs.length by omega)]; exact List.getElem_mem _)
        simp [Lit.wf, IntKind.min, IntKind.max, IntKind.signed, IntKind.bits] at hw
        have e : (⟨b, off, none⟩ : Addr).add i = ⟨b, off + i, none⟩ := by simp [Addr.add]
        rw [e] at hci
        rw [hci]
        have hg : ((zs.take len).map (fun n => UInt8.ofNat n.toNat)).getD i 0 = UInt8.ofNat (zs.getD i 0).toNat := by
          simp [List.getD_eq_getElem?_getD, hi, List.getElem?_eq_getElem (show i < zs.length by omega)]
        rw [hg]
        rw [← List.getD_eq_getElem?_getD] at hw
        generalize zs.getD i 0 = y at *
        have e2 : ((UInt8.ofNat y.toNat).toNat : Int) = y := by
          rw [UInt8.toNat_ofNat']
          omega
        rw [e2]
theorem wf_u32 {n : Int} (h : (Lit.int .u32 n).wf = true) : ∃ x, Is n x := by
  simp [Lit.wf, IntKind.min, IntKind.max, IntKind.signed, IntKind.bits] at h
  refine ⟨BitVec.ofNat 32 n.toNat, ?_⟩
  unfold Is
  rw [BitVec.toNat_ofNat]
  omega
theorem Is.same {m r : Int} {x : BitVec 32} (h : Is m x) (k : Is r x) : r = m := by unfold Is at *; omega
theorem Rd.take {w : World} {a : Option Addr} {n : Nat} {l : List UInt8} (h : Rd w a n l) (k : Nat) (hk : k ≤ n) : Rd w a k (l.take k) := by
  refine ⟨by rw [List.length_take, h.1]; omega, fun h0 => ?_⟩
  obtain ⟨b, off, ha, hb, hc⟩ := h.2 (by omega)
  refine ⟨b, off, ha, hb, fun i hi => ?_⟩
  rw [hc i (by omega)]
  simp [List.getD_eq_getElem?_getD, hi]
theorem fewN_le (n : Nat) : fewN n ≤ n ∧ fewN n ≤ 5000 := by unfold fewN; split <;> omega
theorem Shape.less {a : Option Addr} {n cap : Nat} (h : Shape a n cap) (k : Nat) (hk : k ≤ n) : Shape a k cap :=
  ⟨by have := h.1; omega, h.2.1, fun e => by have := h.2.2.1 e; omega, h.2.2.2⟩
end Go.Proofs.Ythhfhiiiniogdaa
