/-
  PROVED: slices of bytes, of acts and of rows that came in read as what the walks are told of them (bytes_in, acts_in, rows_in). Conditions: none.
-/
import Derived.Test.YtbmndojfemekdaaAll
import Derived.ProofKit
import Derived.Deep.SlicePairs
import Derived.Deep.Strs
namespace Go.Proofs.Ytbmndojfemekdaa
open Go.RowKit
theorem addr_at {x : Addr} (hs : x.spot = none) (i : Nat) : x.add i = ⟨x.block, x.off + i, none⟩ := by
  obtain ⟨b, o, s⟩ := x
  obtain rfl : s = none := hs
  unfold Addr.add
  split
  · rename_i h; subst h; rfl
  · rfl
theorem block_lt {W : World} {b o : Nat} {v : Value} (h : W.cell? ⟨b, o, none⟩ = some v) : b < W.heap.size := World.block_lt_of_cell? W ⟨b, o, none⟩ h
theorem addr_self {x : Addr} (hs : x.spot = none) : some x = some ⟨x.block, x.off, none⟩ := by
  obtain ⟨b, o, s⟩ := x
  obtain rfl : s = none := hs
  rfl
theorem bytes_in {W : World} {x : Addr} {len cap : Nat} {zs : List Int} (hl : len ≤ cap) (hm : cap ≤ maxLen) (hz : zs.length = cap) (hcell : ∀ i, i < zs.length → W.cell? (x.add i) = some (.int .u8 (zs.getD i 0)))
    (hwz : ∀ n ∈ zs, (Lit.int .u8 n).wf = true) : len ≤ 9223372036854775807 ∧ BRd W (some x) len := by
  refine ⟨by unfold maxLen at hm; omega, fun i hi => ?_⟩
  have hc0 := hcell 0 (by omega)
  have hs : x.spot = none := by simpa [Addr.add] using World.cell?_spot hc0
  have hci := hcell i (by omega)
  rw [addr_at hs] at hci
  have hw := hwz (zs.getD i 0) (by rw [List.getD_eq_getElem?_getD, List.getElem?_eq_getElem (show i < zs.length by omega)]; exact List.getElem_mem _)
  generalize zs.getD i 0 = v at *
  simp [Lit.wf, IntKind.min, IntKind.max, IntKind.signed, IntKind.bits] at hw
  exact ⟨x.block, x.off, v, addr_self hs, block_lt hci, by omega, by omega, hci⟩
/-- the first n places from a on hold acts -/
def ARd (w : World) (a : Option Addr) (n : Nat) : Prop := ∀ i, i < n → ∃ b off k v, a = some ⟨b, off, none⟩ ∧ b < w.heap.size ∧ (Lit.int .i64 v).wf = true ∧ w.cell? ⟨b, off + i * 2, none⟩ = some (.bool k) ∧ w.cell? ⟨b, off + i * 2 + 1, none⟩ = some (.int .i64 v)
theorem ARd.below {w w' : World} {a : Option Addr} {n : Nat} (h : ARd w a n) (hb : Below w.heap.size w w') : ARd w' a n := fun i hi => by
  obtain ⟨b, off, k, v, ha, hlt, hwf, h1, h2⟩ := h i hi
  exact ⟨b, off, k, v, ha, Nat.lt_of_lt_of_le hlt hb.size, hwf, by rw [hb.cell (p := ⟨b, off + i * 2, none⟩) hlt]; exact h1, by rw [hb.cell (p := ⟨b, off + i * 2 + 1, none⟩) hlt]; exact h2⟩
theorem acts_in {H : Type} {enc : TypeId × Value → H} {W : World} {a : Option Addr} {len cap fuel : Nat} {x : DataW H × List MemPlace}
    (hf : DataW.trod enc Try.prog W 0 (fun _ => true) true fuel 32 (Value.slice a len cap).cells.toList = some x) : len ≤ 9223372036854775807 ∧ ARd W a len := by
  rcases Deep.open_slice_pairs Try.underlying32 Try.underlying37 (by kernel_rfl) rfl rfl (by kernel_rfl) (by kernel_rfl) hf with ⟨hcs, _⟩ | ⟨y, l, c, m, n, V0, V1, D0, D1, P0, P1, hcs, _, hl, hm, hmm, _, hx⟩
  · simp [Value.cells] at hcs
    obtain ⟨rfl, rfl, rfl⟩ := hcs
    exact ⟨by omega, fun i hi => by omega⟩
  · simp [Value.cells] at hcs
    obtain ⟨rfl, rfl, rfl⟩ := hcs
    simp at hmm
    refine ⟨by unfold maxLen at hm; omega, fun i hi => ?_⟩
    have h0 := (hx 0 (by omega)).1
    have hs : y.spot = none := by simpa [Addr.add] using World.cell?_spot h0
    obtain ⟨h1, h2, h3, h4⟩ := hx i (by omega)
    rw [addr_at hs] at h1 h2
    obtain ⟨k, hk, _⟩ := DataW.trod_bool Try.underlying4 h3
    obtain ⟨v, hv, _, hwf⟩ := DataW.trod_int Try.underlying3 h4
    simp only [List.cons.injEq, and_true] at hk hv
    rw [hk] at h1
    rw [hv] at h2
    exact ⟨y.block, y.off, k, v, addr_self hs, block_lt h1, hwf, h1, h2⟩
/-- the first n places from a on hold rows: each is a slice whose values have texts of some sizes -/
def RRd (w : World) (a : Option Addr) (n : Nat) : Prop := ∀ i, i < n → ∃ b off ra rn rc l, a = some ⟨b, off, none⟩ ∧ b < w.heap.size ∧ w.cell? ⟨b, off + i, none⟩ = some (.slice ra rn rc) ∧ rn ≤ 9223372036854775807 ∧ VRd w ra rn l
theorem RRd.below {w w' : World} {a : Option Addr} {n : Nat} (h : RRd w a n) (hb : Below w.heap.size w w') : RRd w' a n := fun i hi => by
  obtain ⟨b, off, ra, rn, rc, l, ha, hlt, hc, hm, hv⟩ := h i hi
  exact ⟨b, off, ra, rn, rc, l, ha, Nat.lt_of_lt_of_le hlt hb.size, by rw [hb.cell (p := ⟨b, off + i, none⟩) hlt]; exact hc, hm, hv.below hb⟩
def Shape (a : Option Addr) (n cap : Nat) : Prop := n ≤ cap ∧ cap ≤ 9223372036854775807 ∧ (a = none → n = 0 ∧ cap = 0)
theorem values_in {H : Type} {enc : TypeId × Value → H} {W : World} {cs : List Value} {fuel : Nat} {x : DataW H × List MemPlace}
    (hf : DataW.trod enc Try.prog W 0 (fun _ => true) true fuel 46 cs = some x) : ∃ ra rn rc l, cs = [.slice ra rn rc] ∧ rn ≤ 9223372036854775807 ∧ VRd W ra rn l := by
  rcases Deep.open_slice Try.underlying46 hf with ⟨hcs, _⟩ | ⟨y, l, c, m, n, D, Pl, hcs, _, hl, hm, hmm, _, hx⟩
  · exact ⟨none, 0, 0, [], hcs, by omega, rfl, fun i hi => by omega⟩
  · simp at hmm
    have each : ∀ i, i < l → ∃ k N s, W.cell? (y.add (i * 3)) = some (.int .u8 k) ∧ W.cell? (y.add (i * 3 + 1)) = some (.int .i64 N) ∧ W.cell? (y.add (i * 3 + 2)) = some (.string s) := by
      intro i hi
      obtain ⟨cs', h1, h2⟩ := hx i (by omega)
      have ce : Try.prog.cellsOf 51 = 3 := by kernel_rfl
      rw [ce] at h1
      obtain ⟨_, hlen, hcell⟩ := World.cells?_some h1
      have h51 := Try.underlying51
      obtain ⟨xs, k, hk, hxy, _, hxl, hf⟩ := DataW.trod_struct h51 h2
      match xs, hxl, cs', hlen with
      | [y0, y1, y2], _, [v0, v1, v2], _ =>
        have g0 := hf 0 _ rfl
        have g1 := hf 1 _ rfl
        have g2 := hf 2 _ rfl
        have c5 : Try.prog.cellsOf 5 = 1 := by kernel_rfl
        have c3 : Try.prog.cellsOf 3 = 1 := by kernel_rfl
        have c9 : Try.prog.cellsOf 9 = 1 := by kernel_rfl
        simp [c5, c3, c9] at g0 g1 g2
        obtain ⟨kk, e0, _⟩ := DataW.trod_int Try.underlying5 g0
        obtain ⟨NN, e1, _⟩ := DataW.trod_int Try.underlying3 g1
        obtain ⟨ss, e2, _⟩ := DataW.trod_string Try.underlying9 g2
        simp only [List.cons.injEq, and_true] at e0 e1 e2
        subst e0 e1 e2
        have f0 := hcell 0 (by omega)
        have f1 := hcell 1 (by omega)
        have f2 := hcell 2 (by omega)
        rw [Deep.add_add] at f0 f1 f2
        exact ⟨kk, NN, ss, by simpa using f0, by simpa using f1, by simpa using f2⟩
    obtain ⟨q, hq⟩ : ∃ q : Nat → Nat, ∀ i, i < l → ∃ k N s, ByteArray.size s = q i ∧ W.cell? (y.add (i * 3)) = some (.int .u8 k) ∧ W.cell? (y.add (i * 3 + 1)) = some (.int .i64 N) ∧ W.cell? (y.add (i * 3 + 2)) = some (.string s) := by
      refine Deep.choose_lt (p := fun i (z : Nat) => ∃ k N s, ByteArray.size s = z ∧ W.cell? (y.add (i * 3)) = some (.int .u8 k) ∧ W.cell? (y.add (i * 3 + 1)) = some (.int .i64 N) ∧ W.cell? (y.add (i * 3 + 2)) = some (.string s)) (fun i hi => ?_)
      obtain ⟨k, N, s, a1, a2, a3⟩ := each i hi
      exact ⟨_, k, N, s, rfl, a1, a2, a3⟩
    refine ⟨some y, l, c, (List.range l).map q, hcs, by unfold maxLen at hm; omega, by simp, fun i hi => ?_⟩
    obtain ⟨k, N, s, a0, a1, a2, a3⟩ := hq i hi
    obtain ⟨_, _, _, _, b1, _, _⟩ := hq 0 (by omega)
    have hs : y.spot = none := by simpa [Addr.add] using World.cell?_spot b1
    rw [addr_at hs] at a1 a2 a3
    exact ⟨y.block, y.off, k, N, s, addr_self hs, block_lt a1, by simp [a0, List.getD_eq_getElem?_getD, hi], a1, a2, a3⟩
theorem rows_in {H : Type} {enc : TypeId × Value → H} {W : World} {a : Option Addr} {len cap fuel : Nat} {x : DataW H × List MemPlace}
    (hf : DataW.trod enc Try.prog W 0 (fun _ => true) true fuel 44 (Value.slice a len cap).cells.toList = some x) : Shape a len cap ∧ RRd W a len := by
  rcases Deep.open_slice Try.underlying44 hf with ⟨hcs, _⟩ | ⟨y, l, c, m, n, D, Pl, hcs, _, hl, hm, hmm, _, hx⟩
  · simp [Value.cells] at hcs
    obtain ⟨rfl, rfl, rfl⟩ := hcs
    exact ⟨⟨Nat.le_refl _, by omega, fun _ => ⟨rfl, rfl⟩⟩, fun i hi => by omega⟩
  · simp [Value.cells] at hcs
    obtain ⟨rfl, rfl, rfl⟩ := hcs
    simp at hmm
    refine ⟨⟨hl, by unfold maxLen at hm; omega, fun e => by cases e⟩, fun i hi => ?_⟩
    have ce : Try.prog.cellsOf 46 = 1 := by kernel_rfl
    have each : ∀ i, i < len → ∃ ra rn rc l, W.cell? (y.add i) = some (.slice ra rn rc) ∧ rn ≤ 9223372036854775807 ∧ VRd W ra rn l := by
      intro i hi
      obtain ⟨cs', h1, h2⟩ := hx i (by omega)
      rw [ce, Nat.mul_one] at h1
      obtain ⟨_, hlen, hcell⟩ := World.cells?_some h1
      obtain ⟨ra, rn, rc, l, rfl, hm, hv⟩ := values_in h2
      have f0 := hcell 0 (by omega)
      rw [Deep.add_add] at f0
      exact ⟨ra, rn, rc, l, by simpa using f0, hm, hv⟩
    obtain ⟨ra, rn, rc, l, h1, h2, h3⟩ := each i hi
    obtain ⟨_, _, _, _, b1, _, _⟩ := each 0 (by omega)
    have hs : y.spot = none := by simpa [Addr.add] using World.cell?_spot b1
    rw [addr_at hs] at h1
    exact ⟨y.block, y.off, ra, rn, rc, l, addr_self hs, block_lt h1, h1, h2, h3⟩
end Go.Proofs.Ytbmndojfemekdaa
