/-
  PROVED: Row of the program and of the reference count a row alike (row_any, refRow_any). Conditions: the row reads as values whose texts have the sizes l.
-/
import Derived.Test.YtbmndojfemekdaaB
namespace Go.Proofs.Ytbmndojfemekdaa
open Go.RowKit
/-- the n values from a on have texts of the sizes l -/
def VRd (w : World) (a : Option Addr) (n : Nat) (l : List Nat) : Prop :=
  l.length = n ∧ ∀ i, i < n → ∃ b off k N s, a = some ⟨b, off, none⟩ ∧ b < w.heap.size ∧ ByteArray.size s = l.getD i 0 ∧
    w.cell? ⟨b, off + i * 3, none⟩ = some (.int .u8 k) ∧ w.cell? ⟨b, off + i * 3 + 1, none⟩ = some (.int .i64 N) ∧ w.cell? ⟨b, off + i * 3 + 2, none⟩ = some (.string s)
theorem VRd.below {w w' : World} {a : Option Addr} {n : Nat} {l : List Nat} (h : VRd w a n l) (hb : Below w.heap.size w w') : VRd w' a n l := by
  refine ⟨h.1, fun i hi => ?_⟩
  obtain ⟨b, off, k, N, s, ha, hlt, hs, h1, h2, h3⟩ := h.2 i hi
  exact ⟨b, off, k, N, s, ha, Nat.lt_of_lt_of_le hlt hb.size, hs, by rw [hb.cell (p := ⟨b, off + i * 3, none⟩) hlt]; exact h1, by rw [hb.cell (p := ⟨b, off + i * 3 + 1, none⟩) hlt]; exact h2, by rw [hb.cell (p := ⟨b, off + i * 3 + 2, none⟩) hlt]; exact h3⟩
/-- how much a row counts -/
def rowN (l : List Nat) : Int := l.foldl (fun n (s : Nat) => wrap64 (n + wrap64 (8 + s))) 8
theorem rowN_snoc (l : List Nat) (k : Nat) (h : k < l.length) : rowN (l.take (k + 1)) = wrap64 (rowN (l.take k) + wrap64 (8 + (l.getD k 0 : Nat))) := by
  unfold rowN
  rw [List.take_succ_eq_append_getElem h, List.foldl_append]
  simp [List.getD_eq_getElem?_getD, List.getElem?_eq_getElem h]
theorem rowN_ref (x y : Int) : wrap64 (wrap64 (x + 8) + y) = wrap64 (x + wrap64 (8 + y)) := by unfold wrap64; omega
def RetR (v : Int) (w : World) (e : Ending) (w' : World) : Prop := e = .returned (.int .i64 v) ∧ Below w.heap.size w w'
set_option maxRecDepth 100000 in
theorem row_any (a : Option Addr) (n cap : Nat) (l : List Nat) (w : World) (h : VRd w a n l) (hn : n ≤ 1000000) :
    Calls Try.prog 18 #[.slice a n cap] w (RetR (rowN l) w) := by
  go_enter Try.func18, Try.ntmps18
  go_wp2
  go_loopw [3, 8] (fun t i wr => ∃ k : Nat, k ≤ n ∧ i = .int .i64 k ∧ t = .int .i64 (rowN (l.take k)) ∧ Below w.heap.size w wr) (fun _ i _ => n - (intOf i).toNat)
  case atStart => exact ⟨0, by omega, rfl, rfl, Below.refl _ _⟩
  case round =>
    obtain ⟨k, hk, rfl, rfl, hb⟩ := hrel
    by_cases hlt : k < n
    · obtain ⟨b, off, kk, N, s, rfl, hbl, hs, h1, h2, h3⟩ := (h.below hb).2 k hlt
      have hsn := rowN_snoc l k (by rw [h.1]; exact hlt)
      rw [← hs] at hsn
      have HS := Lib.hid hsn
      clear hsn hs
      go_wp2
      go_roundw
      case rel => exact ⟨k + 1, by omega, by go_num, by rw [HS.out], hb.alloc hb.size _⟩
      case measure => simp [intOf]; omega
    · go_wp2
      go_ret
      obtain rfl : k = n := by omega
      exact ⟨by rw [List.take_of_length_le (by rw [h.1]; exact Nat.le_refl _)]; rfl, hb⟩
set_option maxRecDepth 100000 in
theorem refRow_any (a : Option Addr) (n cap : Nat) (l : List Nat) (w : World) (h : VRd w a n l) (hn : n ≤ 1000000) :
    Calls Try.prog 19 #[.slice a n cap] w (RetR (rowN l) w) := by
  go_enter Try.func19, Try.ntmps19
  go_wp2
  go_loop [3, 4] (fun t i => ∃ k : Nat, k ≤ n ∧ i = .int .i64 k ∧ t = .int .i64 (rowN (l.take k))) (fun _ i => n - (intOf i).toNat)
  case atStart => exact ⟨0, by omega, rfl, rfl⟩
  case round =>
    obtain ⟨k, hk, rfl, rfl⟩ := hrel
    by_cases hlt : k < n
    · obtain ⟨b, off, kk, N, s, rfl, hbl, hs, h1, h2, h3⟩ := h.2 k hlt
      have hsn := rowN_snoc l k (by rw [h.1]; exact hlt)
      rw [← hs, ← rowN_ref] at hsn
      have HS := Lib.hid hsn
      clear hsn hs
      go_wp2
      go_round
      case rel => exact ⟨k + 1, by omega, by go_num, by rw [HS.out]⟩
      case measure => simp [intOf]; omega
    · go_wp2
      go_ret
      obtain rfl : k = n := by omega
      exact ⟨by rw [List.take_of_length_le (by rw [h.1]; exact Nat.le_refl _)]; rfl, Below.refl _ _⟩
end Go.Proofs.Ytbmndojfemekdaa
