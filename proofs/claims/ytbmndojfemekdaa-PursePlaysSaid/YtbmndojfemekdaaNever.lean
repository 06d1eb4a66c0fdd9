/-
  PROVED: the walk of the law PurseNever: it returns true and changes nothing that was there (never_walk). Conditions: the slice reads as acts.
-/
import Derived.Test.YtbmndojfemekdaaIn
namespace Go.Proofs.Ytbmndojfemekdaa
open Go.RowKit
theorem Held.alloc {w : World} {b : Nat} {t : TypeId} {x y z : Int} (h : Held w b t x y z) (o : Obj) : Held (w.alloc o) b t x y z := h.below ((Below.refl _ _).alloc (Nat.le_refl _) o)
set_option maxRecDepth 100000 in
set_option maxHeartbeats 1000000 in
theorem never_walk (m : Int) (h0 : 0 ≤ m) (h1 : m < 18446744073709551616) (a : Option Addr) (len cap : Nat) (hl : len ≤ 9223372036854775807) (w : World) (hr : ARd w a len) :
    Calls Try.prog 5 #[.int .u64 m, .slice a len cap] w fun e w' => e = .returned (.bool true) ∧ Below w.heap.size w w' := by
  have hn0 : 0 ≤ m % 1048577 := by omega
  have hn1 : m % 1048577 ≤ 1048576 := by omega
  go_enter Try.func5, Try.ntmps5
  go_wp2_with fail
  refine (shown_any _).mono ?_
  rintro e w1 ⟨rfl, hb1⟩
  go_wp2_with fail
  generalize m % 1048577 = n at *
  refine (new_ok n _ hn0 hn1).mono ?_
  rintro e w2 ⟨rfl, rfl⟩
  have hh0 := Lib.hid (Held.new w1 53 n n n)
  have b2 : Below w.heap.size w (w1.alloc (.cells #[.int .i64 n, .int .i64 n, .int .i64 n] 53)) := hb1.alloc hb1.size _
  have hbs : w.heap.size ≤ w1.heap.size := hb1.size
  generalize w1.alloc (.cells #[.int .i64 n, .int .i64 n, .int .i64 n] 53) = w2 at *
  generalize w1.heap.size = b at *
  go_wp2_with fail
  go_loopw [9, 10, 30] (fun hd pk i wr => ∃ k : Nat, k ≤ len ∧ i = .int .i64 k ∧ ∃ hv pv : Int, 0 ≤ hv ∧ hv ≤ pv ∧ pv ≤ n ∧ hd = .int .i64 hv ∧ pk = .int .i64 pv ∧ Held wr b 53 n (n - hv) (n - pv) ∧ Below w.heap.size w wr) (fun _ _ i _ => len - (intOf i).toNat)
  case atStart => exact ⟨0, by omega, rfl, 0, 0, by omega, by omega, by omega, rfl, rfl, by rw [Int.sub_zero]; exact hh0.out, b2⟩
  case round =>
    obtain ⟨k, hk, rfl, hv, pv, hv0, hvp, hpn, rfl, rfl, hh, hbel⟩ := hrel
    have HH := Lib.hid hh
    clear hh hh0
    by_cases hlt : k < len
    · obtain ⟨ba, off, bk, v, rfl, hba, hwf, hc0, hc1⟩ := (hr.below hbel) k hlt
      by_cases h300 : 300 ≤ k
      · go_wp2_with fail
        go_ret
        exact ⟨rfl, hbel.alloc hbel.size _⟩
      · have hha := Lib.hid (HH.out.alloc (.cells #[.bool bk, .int .i64 v] 37))
        have b3 : Below w.heap.size w (wr.alloc (.cells #[.bool bk, .int .i64 v] 37)) := hbel.alloc hbel.size _
        have hx0 : (wr.alloc (.cells #[.bool bk, .int .i64 v] 37)).cell? ⟨wr.heap.size, 1, none⟩ = some (.int .i64 v) := by rw [World.cell?_alloc_at _ _ _ _ rfl]; rfl
        have hxl : wr.heap.size < (wr.alloc (.cells #[.bool bk, .int .i64 v] 37)).heap.size := by rw [World.size_alloc]; exact Nat.lt_succ_self _
        have hbw : b < wr.heap.size := HH.out.lt
        have hvb : -9223372036854775808 ≤ v ∧ v ≤ 9223372036854775807 := by
          simp [Lit.wf, IntKind.min, IntKind.max, IntKind.signed, IntKind.bits] at hwf; omega
        clear hwf hba
        cases bk
        · have hxx := hc0
          clear hxx
          by_cases hok : 0 ≤ v ∧ v ≤ n - hv
          · by_cases hmx : hv + v ≤ pv
            · obtain ⟨hok1, hok2⟩ := hok
              have g := take_any b n (n - hv) (n - pv) v (wr.alloc (.cells #[.bool false, .int .i64 v] 37)) hha.out ⟨by omega, by omega, by omega, by omega⟩
              rw [retP_cast (show takeE (n - hv) v = 0 by simp [takeE]; omega) (show takeL (n - hv) v = n - (hv + v) by simp [takeL]; omega) (show takeS (n - hv) (n - pv) v = n - pv by simp [takeS]; omega)] at g
              have G := Lib.hid g
              clear g
              go_wp2_with fail
              refine G.out.mono ?_
              rintro e w5 ⟨rfl, h, u⟩
              have HH5 := Lib.hid h
              have b5 := b3.trans (u.2.1.mono hbs)
              have hx5 := (u.2.2 wr.heap.size (by omega))
              have hy5 : w5.cell? ⟨wr.heap.size, 1, none⟩ = some (.int .i64 v) := by rw [← hx0]; exact World.cell?_of_block hx5
              clear h u hx5
              have G1 := Lib.hid (now_any b n (n - (hv + v)) (n - pv) w5 HH5.out ⟨by omega, by omega, by omega, by omega⟩)
              rw [retP_cast (show n - (n - (hv + v)) = hv + v by omega) rfl rfl] at G1
              go_wp2_with fail
              refine G1.out.mono ?_
              rintro e w6 ⟨rfl, h, u⟩
              have HH6 := Lib.hid h
              have b6 := b5.trans (u.2.1.mono hbs)
              clear h u
              go_wp2_with fail
              refine (left_any b n (n - (hv + v)) (n - pv) w6 HH6.out).mono ?_
              rintro e w7 ⟨rfl, h, u⟩
              have HH7 := Lib.hid h
              have b7 := b6.trans (u.2.1.mono hbs)
              clear h u
              have G3 := Lib.hid (peak_any b n (n - (hv + v)) (n - pv) w7 HH7.out ⟨by omega, by omega, by omega, by omega⟩)
              rw [retP_cast (show n - (n - pv) = pv by omega) rfl rfl] at G3
              go_wp2_with fail
              refine G3.out.mono ?_
              rintro e w8 ⟨rfl, h, u⟩
              have HH8 := Lib.hid h
              have b8 := b7.trans (u.2.1.mono hbs)
              clear h u
              go_wp2
              go_roundw
              case rel => exact ⟨k + 1, by omega, by go_num, hv + v, pv, by omega, by omega, by omega, rfl, rfl, HH8.out, b8⟩
              case measure => simp [intOf]; omega
            · obtain ⟨hok1, hok2⟩ := hok
              have g := take_any b n (n - hv) (n - pv) v (wr.alloc (.cells #[.bool false, .int .i64 v] 37)) hha.out ⟨by omega, by omega, by omega, by omega⟩
              rw [retP_cast (show takeE (n - hv) v = 0 by simp [takeE]; omega) (show takeL (n - hv) v = n - (hv + v) by simp [takeL]; omega) (show takeS (n - hv) (n - pv) v = n - (hv + v) by simp [takeS]; omega)] at g
              have G := Lib.hid g
              clear g
              go_wp2_with fail
              refine G.out.mono ?_
              rintro e w5 ⟨rfl, h, u⟩
              have HH5 := Lib.hid h
              have b5 := b3.trans (u.2.1.mono hbs)
              have hx5 := (u.2.2 wr.heap.size (by omega))
              have hy5 : w5.cell? ⟨wr.heap.size, 1, none⟩ = some (.int .i64 v) := by rw [← hx0]; exact World.cell?_of_block hx5
              clear h u hx5
              have G1 := Lib.hid (now_any b n (n - (hv + v)) (n - (hv + v)) w5 HH5.out ⟨by omega, by omega, by omega, by omega⟩)
              rw [retP_cast (show n - (n - (hv + v)) = hv + v by omega) rfl rfl] at G1
              go_wp2_with fail
              refine G1.out.mono ?_
              rintro e w6 ⟨rfl, h, u⟩
              have HH6 := Lib.hid h
              have b6 := b5.trans (u.2.1.mono hbs)
              clear h u
              go_wp2_with fail
              refine (left_any b n (n - (hv + v)) (n - (hv + v)) w6 HH6.out).mono ?_
              rintro e w7 ⟨rfl, h, u⟩
              have HH7 := Lib.hid h
              have b7 := b6.trans (u.2.1.mono hbs)
              clear h u
              have G3 := Lib.hid (peak_any b n (n - (hv + v)) (n - (hv + v)) w7 HH7.out ⟨by omega, by omega, by omega, by omega⟩)
              rw [retP_cast (show n - (n - (hv + v)) = hv + v by omega) rfl rfl] at G3
              go_wp2_with fail
              refine G3.out.mono ?_
              rintro e w8 ⟨rfl, h, u⟩
              have HH8 := Lib.hid h
              have b8 := b7.trans (u.2.1.mono hbs)
              clear h u
              go_wp2
              go_roundw
              case rel => exact ⟨k + 1, by omega, by go_num, hv + v, hv + v, by omega, by omega, by omega, rfl, rfl, HH8.out, b8⟩
              case measure => simp [intOf]; omega
          · by_cases hneg : v < 0
            · clear hok
              have g := take_any b n (n - hv) (n - pv) v (wr.alloc (.cells #[.bool false, .int .i64 v] 37)) hha.out ⟨by omega, by omega, by omega, by omega⟩
              rw [retP_cast (show takeE (n - hv) v = 1 by simp [takeE]; omega) (show takeL (n - hv) v = n - hv by simp [takeL]; omega) (show takeS (n - hv) (n - pv) v = n - pv by simp [takeS]; omega)] at g
              have G := Lib.hid g
              clear g
              go_wp2_with fail
              refine G.out.mono ?_
              rintro e w5 ⟨rfl, h, u⟩
              have HH5 := Lib.hid h
              have b5 := b3.trans (u.2.1.mono hbs)
              have hx5 := (u.2.2 wr.heap.size (by omega))
              have hy5 : w5.cell? ⟨wr.heap.size, 1, none⟩ = some (.int .i64 v) := by rw [← hx0]; exact World.cell?_of_block hx5
              clear h u hx5
              have G1 := Lib.hid (now_any b n (n - hv) (n - pv) w5 HH5.out ⟨by omega, by omega, by omega, by omega⟩)
              rw [retP_cast (show n - (n - hv) = hv by omega) rfl rfl] at G1
              go_wp2_with fail
              refine G1.out.mono ?_
              rintro e w6 ⟨rfl, h, u⟩
              have HH6 := Lib.hid h
              have b6 := b5.trans (u.2.1.mono hbs)
              clear h u
              go_wp2_with fail
              refine (left_any b n (n - hv) (n - pv) w6 HH6.out).mono ?_
              rintro e w7 ⟨rfl, h, u⟩
              have HH7 := Lib.hid h
              have b7 := b6.trans (u.2.1.mono hbs)
              clear h u
              have G3 := Lib.hid (peak_any b n (n - hv) (n - pv) w7 HH7.out ⟨by omega, by omega, by omega, by omega⟩)
              rw [retP_cast (show n - (n - pv) = pv by omega) rfl rfl] at G3
              go_wp2_with fail
              refine G3.out.mono ?_
              rintro e w8 ⟨rfl, h, u⟩
              have HH8 := Lib.hid h
              have b8 := b7.trans (u.2.1.mono hbs)
              clear h u
              go_wp2
              go_roundw
              case rel => exact ⟨k + 1, by omega, by go_num, hv, pv, by omega, by omega, by omega, rfl, rfl, HH8.out, b8⟩
              case measure => simp [intOf]; omega
            · have hbig : n - hv < v := by omega
              clear hok
              have g := take_any b n (n - hv) (n - pv) v (wr.alloc (.cells #[.bool false, .int .i64 v] 37)) hha.out ⟨by omega, by omega, by omega, by omega⟩
              rw [retP_cast (show takeE (n - hv) v = 5 by simp [takeE]; omega) (show takeL (n - hv) v = n - hv by simp [takeL]; omega) (show takeS (n - hv) (n - pv) v = n - pv by simp [takeS]; omega)] at g
              have G := Lib.hid g
              clear g
              go_wp2_with fail
              refine G.out.mono ?_
              rintro e w5 ⟨rfl, h, u⟩
              have HH5 := Lib.hid h
              have b5 := b3.trans (u.2.1.mono hbs)
              have hx5 := (u.2.2 wr.heap.size (by omega))
              have hy5 : w5.cell? ⟨wr.heap.size, 1, none⟩ = some (.int .i64 v) := by rw [← hx0]; exact World.cell?_of_block hx5
              clear h u hx5
              have G1 := Lib.hid (now_any b n (n - hv) (n - pv) w5 HH5.out ⟨by omega, by omega, by omega, by omega⟩)
              rw [retP_cast (show n - (n - hv) = hv by omega) rfl rfl] at G1
              go_wp2_with fail
              refine G1.out.mono ?_
              rintro e w6 ⟨rfl, h, u⟩
              have HH6 := Lib.hid h
              have b6 := b5.trans (u.2.1.mono hbs)
              clear h u
              go_wp2_with fail
              refine (left_any b n (n - hv) (n - pv) w6 HH6.out).mono ?_
              rintro e w7 ⟨rfl, h, u⟩
              have HH7 := Lib.hid h
              have b7 := b6.trans (u.2.1.mono hbs)
              clear h u
              have G3 := Lib.hid (peak_any b n (n - hv) (n - pv) w7 HH7.out ⟨by omega, by omega, by omega, by omega⟩)
              rw [retP_cast (show n - (n - pv) = pv by omega) rfl rfl] at G3
              go_wp2_with fail
              refine G3.out.mono ?_
              rintro e w8 ⟨rfl, h, u⟩
              have HH8 := Lib.hid h
              have b8 := b7.trans (u.2.1.mono hbs)
              clear h u
              go_wp2
              go_roundw
              case rel => exact ⟨k + 1, by omega, by go_num, hv, pv, by omega, by omega, by omega, rfl, rfl, HH8.out, b8⟩
              case measure => simp [intOf]; omega
        · have hxx := hc0
          clear hxx
          by_cases hok : 0 ≤ v ∧ v ≤ hv
          · obtain ⟨hok1, hok2⟩ := hok
            have g := give_any b n (n - hv) (n - pv) v (wr.alloc (.cells #[.bool true, .int .i64 v] 37)) hha.out ⟨by omega, by omega, by omega, by omega⟩
            rw [retP_cast (show giveE n (n - hv) v = 0 by simp [giveE]; omega) (show giveL n (n - hv) v = n - (hv - v) by simp [giveL]; omega) rfl] at g
            have G := Lib.hid g
            clear g
            go_wp2_with fail
            refine G.out.mono ?_
            rintro e w5 ⟨rfl, h, u⟩
            have HH5 := Lib.hid h
            have b5 := b3.trans (u.2.1.mono hbs)
            have hx5 := (u.2.2 wr.heap.size (by omega))
            have hy5 : w5.cell? ⟨wr.heap.size, 1, none⟩ = some (.int .i64 v) := by rw [← hx0]; exact World.cell?_of_block hx5
            clear h u hx5
            have G1 := Lib.hid (now_any b n (n - (hv - v)) (n - pv) w5 HH5.out ⟨by omega, by omega, by omega, by omega⟩)
            rw [retP_cast (show n - (n - (hv - v)) = hv - v by omega) rfl rfl] at G1
            go_wp2_with fail
            refine G1.out.mono ?_
            rintro e w6 ⟨rfl, h, u⟩
            have HH6 := Lib.hid h
            have b6 := b5.trans (u.2.1.mono hbs)
            clear h u
            go_wp2_with fail
            refine (left_any b n (n - (hv - v)) (n - pv) w6 HH6.out).mono ?_
            rintro e w7 ⟨rfl, h, u⟩
            have HH7 := Lib.hid h
            have b7 := b6.trans (u.2.1.mono hbs)
            clear h u
            have G3 := Lib.hid (peak_any b n (n - (hv - v)) (n - pv) w7 HH7.out ⟨by omega, by omega, by omega, by omega⟩)
            rw [retP_cast (show n - (n - pv) = pv by omega) rfl rfl] at G3
            go_wp2_with fail
            refine G3.out.mono ?_
            rintro e w8 ⟨rfl, h, u⟩
            have HH8 := Lib.hid h
            have b8 := b7.trans (u.2.1.mono hbs)
            clear h u
            go_wp2
            go_roundw
            case rel => exact ⟨k + 1, by omega, by go_num, hv - v, pv, by omega, by omega, by omega, rfl, rfl, HH8.out, b8⟩
            case measure => simp [intOf]; omega
          · have hbad : v < 0 ∨ n - (n - hv) < v := by omega
            have HB := Lib.hid hbad
            clear hbad hok
            have g := give_any b n (n - hv) (n - pv) v (wr.alloc (.cells #[.bool true, .int .i64 v] 37)) hha.out ⟨by omega, by omega, by omega, by omega⟩
            rw [retP_cast (show giveE n (n - hv) v = 1 by simp only [giveE, if_pos HB.out]) (show giveL n (n - hv) v = n - hv by simp only [giveL, if_pos HB.out]) rfl] at g
            have G := Lib.hid g
            clear g
            go_wp2_with fail
            refine G.out.mono ?_
            rintro e w5 ⟨rfl, h, u⟩
            have HH5 := Lib.hid h
            have b5 := b3.trans (u.2.1.mono hbs)
            have hx5 := (u.2.2 wr.heap.size (by omega))
            have hy5 : w5.cell? ⟨wr.heap.size, 1, none⟩ = some (.int .i64 v) := by rw [← hx0]; exact World.cell?_of_block hx5
            clear h u hx5
            have G1 := Lib.hid (now_any b n (n - hv) (n - pv) w5 HH5.out ⟨by omega, by omega, by omega, by omega⟩)
            rw [retP_cast (show n - (n - hv) = hv by omega) rfl rfl] at G1
            go_wp2_with fail
            refine G1.out.mono ?_
            rintro e w6 ⟨rfl, h, u⟩
            have HH6 := Lib.hid h
            have b6 := b5.trans (u.2.1.mono hbs)
            clear h u
            go_wp2_with fail
            refine (left_any b n (n - hv) (n - pv) w6 HH6.out).mono ?_
            rintro e w7 ⟨rfl, h, u⟩
            have HH7 := Lib.hid h
            have b7 := b6.trans (u.2.1.mono hbs)
            clear h u
            have G3 := Lib.hid (peak_any b n (n - hv) (n - pv) w7 HH7.out ⟨by omega, by omega, by omega, by omega⟩)
            rw [retP_cast (show n - (n - pv) = pv by omega) rfl rfl] at G3
            go_wp2_with fail
            refine G3.out.mono ?_
            rintro e w8 ⟨rfl, h, u⟩
            have HH8 := Lib.hid h
            have b8 := b7.trans (u.2.1.mono hbs)
            clear h u
            go_wp2
            go_roundw
            case rel => exact ⟨k + 1, by omega, by go_num, hv, pv, by omega, by omega, by omega, rfl, rfl, HH8.out, b8⟩
            case measure => simp [intOf]; omega
    · go_wp2
      go_ret
      exact ⟨rfl, hbel⟩
end Go.Proofs.Ytbmndojfemekdaa
