/-
  PROVED: the walk of the law PurseAll: it returns true and changes nothing that was there (all_walk). Conditions: the slice reads as some bytes.
-/
import Derived.Test.YtbmndojfemekdaaS
namespace Go.Proofs.Ytbmndojfemekdaa
open Go.RowKit
/-- the first n places from a on hold bytes -/
def BRd (w : World) (a : Option Addr) (n : Nat) : Prop := ∀ i, i < n → ∃ b off v, a = some ⟨b, off, none⟩ ∧ b < w.heap.size ∧ 0 ≤ v ∧ v < 256 ∧ w.cell? ⟨b, off + i, none⟩ = some (.int .u8 v)
theorem BRd.below {w w' : World} {a : Option Addr} {n : Nat} (h : BRd w a n) (hb : Below w.heap.size w w') : BRd w' a n := fun i hi => by
  obtain ⟨b, off, v, ha, hlt, h0, h1, hc⟩ := h i hi
  exact ⟨b, off, v, ha, Nat.lt_of_lt_of_le hlt hb.size, h0, h1, by rw [hb.cell (p := ⟨b, off + i, none⟩) hlt]; exact hc⟩
theorem retP_cast {b : Nat} {E E' M L L' S S' : Int} {w : World} (h : E = E') (k : L = L') (m : S = S') : RetP b E M L S w = RetP b E' M L' S' w := by rw [h, k, m]
set_option maxRecDepth 100000 in
theorem all_walk (m : Int) (h0 : 0 ≤ m) (h1 : m < 65536) (a : Option Addr) (len cap : Nat) (hl : len ≤ 9223372036854775807) (w : World) (hr : BRd w a len) :
    Calls Try.prog 3 #[.int .u16 m, .slice a len cap] w fun e w' => e = .returned (.bool true) ∧ Below w.heap.size w w' := by
  have e1 : ∀ n : Int, 0 ≤ n → takeE n (n + 1) = 5 := fun n h => by simp [takeE]; omega
  have e2 : ∀ n : Int, 0 ≤ n → takeL n (n + 1) = n := fun n h => by simp [takeL]; omega
  have e3 : ∀ n : Int, 0 ≤ n → takeS n n (n + 1) = n := fun n h => by simp [takeS]; omega
  have e4 : ∀ n : Int, 0 ≤ n → takeE n n = 0 := fun n h => by simp [takeE]; omega
  have e5 : ∀ n : Int, 0 ≤ n → takeL n n = 0 := fun n h => by simp [takeL]; omega
  have e6 : ∀ n : Int, 0 ≤ n → takeS n n n = 0 := fun n h => by simp [takeS]; omega
  have s1 : ∀ b n w, 0 ≤ n → n ≤ 2000 → Held w b 53 n n n → Calls Try.prog 10 #[.pointer (some ⟨b, 0, none⟩), .int .i64 (n + 1)] w (RetP b 5 n n n w) := fun b n w h h2 hh => by
    have := take_any b n n n (n + 1) w hh ⟨h, by omega, by omega, by omega⟩
    rw [e1 n h, e2 n h, e3 n h] at this
    exact this
  have s2 : ∀ b n w, 0 ≤ n → n ≤ 2000 → Held w b 53 n n n → Calls Try.prog 10 #[.pointer (some ⟨b, 0, none⟩), .int .i64 n] w (RetP b 0 n 0 0 w) := fun b n w h h2 hh => by
    have := take_any b n n n n w hh ⟨h, by omega, by omega, by omega⟩
    rw [e4 n h, e5 n h, e6 n h] at this
    exact this
  have s3 : ∀ b n w, 0 ≤ n → n ≤ 2000 → Held w b 53 n 0 0 → Calls Try.prog 10 #[.pointer (some ⟨b, 0, none⟩), .int .i64 1] w (RetP b 5 n 0 0 w) := fun b n w h h2 hh => take_any b n 0 0 1 w hh ⟨by omega, by omega, by omega, by omega⟩
  have s4 : ∀ b n w, 0 ≤ n → n ≤ 2000 → Held w b 53 n 0 0 → Calls Try.prog 10 #[.pointer (some ⟨b, 0, none⟩), .int .i64 0] w (RetP b 0 n 0 0 w) := fun b n w h h2 hh => take_any b n 0 0 0 w hh ⟨by omega, by omega, by omega, by omega⟩
  have S1 := Lib.hid s1
  have S2 := Lib.hid s2
  have S3 := Lib.hid s3
  have S4 := Lib.hid s4
  clear e1 e2 e3 e4 e5 e6 s1 s2 s3 s4
  have hn0 : 0 ≤ m % 2001 := by omega
  have hn1 : m % 2001 ≤ 2000 := by omega
  go_enter Try.func3, Try.ntmps3
  go_wp2_with fail
  refine (shown_any _).mono ?_
  rintro e w1 ⟨rfl, hb1⟩
  go_wp2_with fail
  generalize m % 2001 = n at *
  refine (new_ok n _ hn0 (by omega)).mono ?_
  rintro e w2 ⟨rfl, rfl⟩
  have hh0 := Lib.hid (Held.new w1 53 n n n)
  have b2 : Below w.heap.size w (w1.alloc (.cells #[.int .i64 n, .int .i64 n, .int .i64 n] 53)) := hb1.alloc hb1.size _
  have hbs : w.heap.size ≤ w1.heap.size := hb1.size
  generalize w1.alloc (.cells #[.int .i64 n, .int .i64 n, .int .i64 n] 53) = w2 at *
  generalize w1.heap.size = b at *
  go_wp2_with fail
  refine (S1.out b n _ hn0 hn1 hh0.out).mono ?_
  rintro e w3 ⟨rfl, h, u⟩
  have hh1 := Lib.hid h
  have b3 := b2.trans (u.2.1.mono hbs)
  clear h u
  go_wp2_with fail
  refine (S2.out b n _ hn0 hn1 hh1.out).mono ?_
  rintro e w4 ⟨rfl, h, u⟩
  have hh2 := Lib.hid h
  have b4 := b3.trans (u.2.1.mono hbs)
  clear h u
  go_wp2_with fail
  refine (S3.out b n _ hn0 hn1 hh2.out).mono ?_
  rintro e w5 ⟨rfl, h, u⟩
  have hh3 := Lib.hid h
  have b5 := b4.trans (u.2.1.mono hbs)
  clear h u
  go_wp2_with fail
  refine (S4.out b n _ hn0 hn1 hh3.out).mono ?_
  rintro e w6 ⟨rfl, h, u⟩
  have hh4 := Lib.hid h
  have b6 := b5.trans (u.2.1.mono hbs)
  clear h u
  clear hh0 hh1 hh2 hh3
  go_wp2_with fail
  go_loopw [9, 53] (fun t i wr => ∃ k : Nat, k ≤ len ∧ i = .int .i64 k ∧ ∃ lf : Int, 0 ≤ lf ∧ lf ≤ n ∧ t = .int .i64 lf ∧ Held wr b 53 n (n - lf) 0 ∧ Below w.heap.size w wr) (fun _ i _ => len - (intOf i).toNat)
  case atStart => exact ⟨0, by omega, rfl, n, hn0, by omega, rfl, by rw [Int.sub_self]; exact hh4.out, b6⟩
  case round =>
    obtain ⟨k, hk, rfl, lf, hf0, hf1, rfl, hh, hbel⟩ := hrel
    have HH := Lib.hid hh
    clear hh
    by_cases hlt : k < len
    · obtain ⟨ba, off, v, rfl, hba, hv0, hv1, hc⟩ := (hr.below hbel) k hlt
      by_cases hle : v ≤ lf
      · have g := give_any b n (n - lf) 0 v wr HH.out ⟨by omega, by omega, by omega, by omega⟩
        rw [retP_cast (show giveE n (n - lf) v = 0 by simp [giveE]; omega) (show giveL n (n - lf) v = n - (lf - v) by simp [giveL]; omega) rfl] at g
        have G := Lib.hid g
        clear g
        go_wp2_with fail
        refine G.out.mono ?_
        rintro e w7 ⟨rfl, h, u⟩
        have HH2 := Lib.hid h
        have b7 := hbel.trans (u.2.1.mono hbs)
        clear h u
        go_wp2
        go_roundw
        case rel => exact ⟨k + 1, by omega, by go_num, lf - v, by omega, by omega, rfl, HH2.out, b7⟩
        case measure => simp [intOf]; omega
      · have g := give_any b n (n - lf) 0 v wr HH.out ⟨by omega, by omega, by omega, by omega⟩
        rw [retP_cast (show giveE n (n - lf) v = 1 by simp [giveE]; omega) (show giveL n (n - lf) v = n - lf by simp [giveL]; omega) rfl] at g
        have G := Lib.hid g
        clear g
        go_wp2_with fail
        refine G.out.mono ?_
        rintro e w7 ⟨rfl, h, u⟩
        have HH2 := Lib.hid h
        have b7 := hbel.trans (u.2.1.mono hbs)
        clear h u
        go_wp2
        go_roundw
        case rel => exact ⟨k + 1, by omega, by go_num, lf, by omega, by omega, rfl, HH2.out, b7⟩
        case measure => simp [intOf]; omega
    · have g := give_any b n (n - lf) 0 lf wr HH.out ⟨by omega, by omega, by omega, by omega⟩
      rw [retP_cast (show giveE n (n - lf) lf = 0 by simp [giveE]; omega) (show giveL n (n - lf) lf = n by simp [giveL]; omega) rfl] at g
      have G := Lib.hid g
      clear g
      go_wp2_with fail
      refine G.out.mono ?_
      rintro e w7 ⟨rfl, h, u⟩
      have HH2 := Lib.hid h
      have b7 := hbel.trans (u.2.1.mono hbs)
      clear h u
      have g := now_any b n n 0 w7 HH2.out ⟨by omega, by omega, by omega, by omega⟩
      rw [Int.sub_self] at g
      have G2 := Lib.hid g
      clear g
      go_wp2_with fail
      refine G2.out.mono ?_
      rintro e w8 ⟨rfl, h, u⟩
      have HH3 := Lib.hid h
      have b8 := b7.trans (u.2.1.mono hbs)
      clear h u
      have g := peak_any b n n 0 w8 HH3.out ⟨by omega, by omega, by omega, by omega⟩
      rw [Int.sub_zero] at g
      have G3 := Lib.hid g
      clear g
      go_wp2_with fail
      refine G3.out.mono ?_
      rintro e w9 ⟨rfl, h, u⟩
      have HH4 := Lib.hid h
      have b9 := b8.trans (u.2.1.mono hbs)
      clear h u
      have g := give_any b n n 0 1 w9 HH4.out ⟨by omega, by omega, by omega, by omega⟩
      rw [retP_cast (show giveE n n 1 = 1 by simp [giveE]) (show giveL n n 1 = n by simp [giveL]) rfl] at g
      have G4 := Lib.hid g
      clear g
      go_wp2_with fail
      refine G4.out.mono ?_
      rintro e w10 ⟨rfl, h, u⟩
      have b10 := b9.trans (u.2.1.mono hbs)
      clear h u
      go_wp2
      go_ret
      exact ⟨rfl, b10⟩
end Go.Proofs.Ytbmndojfemekdaa
