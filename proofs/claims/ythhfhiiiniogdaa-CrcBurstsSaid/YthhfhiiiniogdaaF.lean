/-
  PROVED: warplaw02.few cuts a slice to its first 5000 places (few_any). Conditions: the slice is nil or has its length within its capacity.
-/
import Derived.Test.YthhfhiiiniogdaaM
namespace Go.Proofs.Ythhfhiiiniogdaa
open Go.RowKit Crc
/-- a slice's shape: nil, or somewhere -/
def Shape (a : Option Addr) (n cap : Nat) : Prop := n ≤ cap ∧ cap ≤ 9223372036854775807 ∧ (a = none → n = 0 ∧ cap = 0) ∧ ∀ x, a = some x → 0 < cap → x.spot = none
def fewN (n : Nat) : Nat := if n ≤ 5000 then n else 5000
/-- warplaw02.few -/
theorem few_any (a : Option Addr) (n cap : Nat) (w : World) (hs : Shape a n cap) :
    Calls Try.prog 9 #[.slice a n cap] w fun e w' => e = .returned (.slice a (fewN n) cap) ∧ w = w' := by
  obtain ⟨h1, h2, h3, h4⟩ := hs
  cases a with
  | none =>
    obtain ⟨rfl, rfl⟩ := h3 rfl
    clear h1 h2 h3 h4
    go_enter Try.func9, Try.ntmps9
    go_wp2
    go_ret
    exact ⟨rfl, rfl⟩
  | some x =>
    by_cases hz : cap = 0
    · subst hz
      obtain rfl : n = 0 := by omega
      clear h1 h2 h3 h4
      go_enter Try.func9, Try.ntmps9
      go_wp2
      go_ret
      exact ⟨rfl, rfl⟩
    obtain ⟨b, off, s⟩ := x
    obtain rfl := h4 _ rfl (by omega)
    clear h3 h4
    by_cases hn : n ≤ 5000
    · have HF := Lib.hid (show fewN n = n by simp [fewN, hn])
      go_enter Try.func9, Try.ntmps9
      go_wp2
      go_ret
      exact ⟨by rw [HF.out]; rfl, rfl⟩
    · have HF := Lib.hid (show fewN n = 5000 by simp [fewN, hn])
      go_enter Try.func9, Try.ntmps9
      go_wp2
      go_ret
      exact ⟨by rw [HF.out]; rfl, rfl⟩
end Go.Proofs.Ythhfhiiiniogdaa
