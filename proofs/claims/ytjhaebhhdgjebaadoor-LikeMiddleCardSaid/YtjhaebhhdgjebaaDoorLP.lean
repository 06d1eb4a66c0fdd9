/-
  PROVED: the walk of the law LikeParts: it returns true and changes nothing that was there (parts_walk). Conditions: the library's tables lie as they are laid; the texts are no longer than the machine allows.
-/
import Derived.Test.YtjhaebhhdgjebaaDoorRQ
import Derived.Test.YtjhaebhhdgjebaaDoorValid
namespace Go.Proofs.YtjhaebhhdgjebaaDoor
open Go.RowKit Like
theorem valid_any (l : L) (w : World) (hl : l.length ≤ 100000) (hT : Tabs w) :
    Calls Tryd.prog 13 #[.string (str l)] w fun e w' => e = .returned (.bool (Lib.validD l)) ∧ Below w.heap.size w w' := by
  have h := Tryd.utf8_ValidString (str l) w (by rw [str_size]; omega) hT
  rw [str_toList] at h
  exact h
theorem four_rd (w : World) (a b c d : L) : SRd (w.alloc (.cells #[.string (str a), .string (str b), .string (str c), .string (str d)] 9)) (some ⟨w.heap.size, 0, none⟩) 4 [a, b, c, d] := by
  have hrow := World.ownsRow_lit (base := 0) (e := 9) (size := 1) w #[.string (str a), .string (str b), .string (str c), .string (str d)] 4 (Nat.zero_le _) (by unfold maxLen; omega) rfl
  have h : OwnS (w.alloc (.cells #[.string (str a), .string (str b), .string (str c), .string (str d)] 9)) 0 (some ⟨w.heap.size, 0, none⟩) 4 4 [a, b, c, d] := ⟨rfl, hrow⟩
  exact h.rd
set_option maxRecDepth 100000 in
set_option maxHeartbeats 1000000 in
theorem parts_walk (p s q t : L) (hp : p.length ≤ 9223372036854775807) (hs : s.length ≤ 9223372036854775807) (hq : q.length ≤ 9223372036854775807) (ht : t.length ≤ 9223372036854775807) (w : World) (hT : Tabs w) :
    Calls Tryd.prog 6 #[.string (str p), .string (str s), .string (str q), .string (str t)] w (RetI true w) := by
  have la := few_length p
  have lb := few_length s
  have lc := few_length q
  have ld := few_length t
  have FA := Lib.hid (fun w => few_any p w hp)
  have FB := Lib.hid (fun w => few_any s w hs)
  have FC := Lib.hid (fun w => few_any q w hq)
  have FD := Lib.hid (fun w => few_any t w ht)
  generalize few p = a at *
  generalize few s = b at *
  generalize few q = c at *
  generalize few t = d at *
  go_enter Tryd.func6, Tryd.ntmps6
  go_wp2_with fail
  refine (shown_any _).mono ?_
  rintro e w1 ⟨rfl, b1⟩
  go_wp2_with fail
  refine (FA.out _).mono ?_
  rintro e w2 ⟨rfl, rfl⟩
  go_wp2_with fail
  refine (FB.out _).mono ?_
  rintro e w2 ⟨rfl, rfl⟩
  go_wp2_with fail
  refine (FC.out _).mono ?_
  rintro e w2 ⟨rfl, rfl⟩
  go_wp2_with fail
  refine (FD.out _).mono ?_
  rintro e w2 ⟨rfl, rfl⟩
  have hr := four_rd w1 a b c d
  have b2 := b1.alloc b1.size (.cells #[.string (str a), .string (str b), .string (str c), .string (str d)] 9)
  go_wp2_with fail
  generalize w1.alloc (.cells #[.string (str a), .string (str b), .string (str c), .string (str d)] 9) = w3 at *
  go_loopw [31] (fun i wr => ∃ k : Nat, k ≤ 4 ∧ i = .int .i64 k ∧ Hid (∀ j x, j < k → [a, b, c, d][j]? = some x → Lib.validD x = true) ∧ Below w3.heap.size w3 wr) (fun i _ => 4 - (intOf i).toNat)
  case atStart => exact ⟨0, by omega, rfl, fun j x hj => absurd hj (Nat.not_lt_zero _), Below.refl _ _⟩
  case round =>
    obtain ⟨k, hk, rfl, HV, hb⟩ := hrel
    have b2s := b2.size
    have bw := b2.trans (hb.mono b2s)
    by_cases hlt : k < 4
    · obtain ⟨bb, x, hx, rfl', hbb, hcx⟩ := (hr.below hb).at k hlt
      have hxl : x.length ≤ 300 := by
        match k, hlt, hx with
        | 0, _, hx => cases hx; exact la
        | 1, _, hx => cases hx; exact lb
        | 2, _, hx => cases hx; exact lc
        | 3, _, hx => cases hx; exact ld
      cases rfl'
      have VX := Lib.hid (valid_any x wr (by omega) (hT.below bw))
      cases hv : Lib.validD x with
      | false =>
        rw [hv] at VX
        clear hv HV
        go_wp2_with fail
        refine VX.out.mono ?_
        rintro e w4 ⟨rfl, hb4⟩
        go_wp2
        go_ret
        exact ⟨rfl, bw.trans (hb4.mono bw.size)⟩
      | true =>
        rw [hv] at VX
        have HV2 : Hid (∀ j y, j < k + 1 → [a, b, c, d][j]? = some y → Lib.validD y = true) := by
          intro j y hj hy
          by_cases he : j = k
          · subst he
            rw [hx] at hy
            cases hy
            exact hv
          · exact HV.out j y (by omega) hy
        clear hv HV
        go_wp2_with fail
        refine VX.out.mono ?_
        rintro e w4 ⟨rfl, hb4⟩
        go_wp2
        go_roundw
        case rel => exact ⟨k + 1, by omega, by go_num, HV2, hb.trans (hb4.mono hb.size)⟩
        case measure => simp [intOf]; omega
    · obtain rfl : k = 4 := by omega
      have va := HV.out 0 a (by omega) rfl
      have vb := HV.out 1 b (by omega) rfl
      have hap := like_append a b c d va vb
      have hsa : (str a).size = a.length := rfl
      have hsb : (str b).size = b.length := rfl
      have hsc : (str c).size = c.length := rfl
      have hsd : (str d).size = d.length := rfl
      have h1 : str a ++ str c = str (a ++ c) := str_append _ _
      have h2 : str b ++ str d = str (b ++ d) := str_append _ _
      have lac : (a ++ c).length ≤ 100000 := by rw [List.length_append]; omega
      have lbd : (b ++ d).length ≤ 100000 := by rw [List.length_append]; omega
      have I1 := Lib.hid (fun w => is_any a b w (by omega) (by omega))
      have I2 := Lib.hid (fun w => is_any c d w (by omega) (by omega))
      have I3 := Lib.hid (fun w => is_any (a ++ c) (b ++ d) w lac lbd)
      clear va vb HV lac lbd
      generalize like (a ++ c) (b ++ d) = m3 at *
      generalize like a b = m1 at *
      generalize like c d = m2 at *
      cases m1 with
      | false =>
        go_wp2_with fail
        refine (I1.out _).mono ?_
        rintro e w4 ⟨rfl, hb4⟩
        go_wp2
        go_ret
        exact ⟨rfl, bw.trans (hb4.mono bw.size)⟩
      | true =>
        cases m2 with
        | false =>
          go_wp2_with fail
          refine (I1.out _).mono ?_
          rintro e w4 ⟨rfl, hb4⟩
          have b4 := bw.trans (hb4.mono bw.size)
          go_wp2_with fail
          refine (I2.out _).mono ?_
          rintro e w5 ⟨rfl, hb5⟩
          go_wp2
          go_ret
          exact ⟨rfl, b4.trans (hb5.mono b4.size)⟩
        | true =>
          obtain rfl : m3 = true := hap rfl rfl
          clear hap
          go_wp2_with fail
          refine (I1.out _).mono ?_
          rintro e w4 ⟨rfl, hb4⟩
          have b4 := bw.trans (hb4.mono bw.size)
          go_wp2_with fail
          refine (I2.out _).mono ?_
          rintro e w5 ⟨rfl, hb5⟩
          have b5 := b4.trans (hb5.mono b4.size)
          go_wp2_with fail
          refine (I3.out _).mono ?_
          rintro e w6 ⟨rfl, hb6⟩
          go_wp2
          go_ret
          exact ⟨rfl, b5.trans (hb6.mono b5.size)⟩
end Go.Proofs.YtjhaebhhdgjebaaDoor
