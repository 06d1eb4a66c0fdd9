/-
  PROVED: the walk of the law LikeMiddle: it returns true and changes nothing that was there (middle_walk). Conditions: the library's tables lie as they are laid; the texts are no longer than the machine allows.
-/
import Derived.Test.YtjhaebhhdgjebaaDoorLP
namespace Go.Proofs.YtjhaebhhdgjebaaDoor
open Go.RowKit Like
/-! ### plain -/
theorem take_flat_length (ls : List L) (n : Nat) : (ls.take n).flatten.length ≤ ls.flatten.length := by
  have h := congrArg (fun x : List L => x.flatten.length) (List.take_append_drop n ls)
  simp only [List.flatten_append, List.length_append] at h
  omega
theorem drop_flat_length (ls : List L) (n : Nat) : (ls.drop n).flatten.length ≤ ls.flatten.length := by
  have h := congrArg (fun x : List L => x.flatten.length) (List.take_append_drop n ls)
  simp only [List.flatten_append, List.length_append] at h
  omega
theorem at_flat_length {ls : List L} {n : Nat} {c : L} (h : ls[n]? = some c) : (ls.take n).flatten.length + c.length ≤ ls.flatten.length := by
  have h1 := take_flat_length ls (n + 1)
  rw [List.take_add_one, h] at h1
  simp only [List.flatten_append, List.length_append] at h1
  simpa using h1
/-- the letters before the i-th, of the first n -/
def headX (ls : List L) (i n : Nat) : L := ((ls.take n).take i).flatten
/-- the letters from the k-th on, of the first n -/
def tailY (ls : List L) (k n : Nat) : L := ((ls.take n).drop k).flatten
theorem headX_zero (ls : List L) (i : Nat) : headX ls i 0 = [] := by simp [headX]
theorem tailY_zero (ls : List L) (k : Nat) : tailY ls k 0 = [] := by simp [tailY]
theorem headX_length (ls : List L) (i n : Nat) : (headX ls i n).length ≤ (ls.take n).flatten.length := take_flat_length _ _
theorem tailY_length (ls : List L) (k n : Nat) : (tailY ls k n).length ≤ (ls.take n).flatten.length := drop_flat_length _ _
theorem headX_in {ls : List L} {i n : Nat} {c : L} (hn : ls[n]? = some c) (hi : n < i) : headX ls i (n + 1) = headX ls i n ++ c := by
  have hl : n < ls.length := (List.getElem?_eq_some_iff.1 hn).1
  unfold headX
  rw [List.take_take, List.take_take, Nat.min_eq_right (by omega), Nat.min_eq_right (by omega), List.take_add_one, hn]
  simp
theorem headX_out {ls : List L} {i n : Nat} {c : L} (hn : ls[n]? = some c) (hi : ¬ n < i) : headX ls i (n + 1) = headX ls i n := by
  have hl : n < ls.length := (List.getElem?_eq_some_iff.1 hn).1
  unfold headX
  rw [List.take_take, List.take_take, Nat.min_eq_left (by omega), Nat.min_eq_left (by omega)]
theorem tailY_in {ls : List L} {k n : Nat} {c : L} (hn : ls[n]? = some c) (hk : k ≤ n) : tailY ls k (n + 1) = tailY ls k n ++ c := by
  have hl : n < ls.length := (List.getElem?_eq_some_iff.1 hn).1
  unfold tailY
  rw [List.take_add_one, hn, List.drop_append_of_le_length (by rw [List.length_take]; omega)]
  simp
theorem tailY_out {ls : List L} {k n : Nat} (hk : ¬ k ≤ n) : tailY ls k (n + 1) = tailY ls k n := by
  unfold tailY
  rw [List.drop_of_length_le (by rw [List.length_take]; omega), List.drop_of_length_le (by rw [List.length_take]; omega)]
theorem headX_all (ls : List L) (i : Nat) : headX ls i ls.length = (ls.take i).flatten := by unfold headX; rw [List.take_length]
theorem tailY_all (ls : List L) (k : Nat) : tailY ls k ls.length = (ls.drop k).flatten := by unfold tailY; rw [List.take_length]
/-- has a pair before (i, k) been right? -/
def Seen (a b : L) (ls : List L) (i k : Nat) (sv : Bool) : Prop :=
  sv = true ↔ ∃ i' k', i' ≤ k' ∧ k' ≤ ls.length ∧ (i' < i ∨ i' = i ∧ k' < k) ∧ like a (ls.take i').flatten = true ∧ like b (ls.drop k').flatten = true
theorem Seen.start (a b : L) (ls : List L) : Seen a b ls 0 0 false := by
  constructor
  · intro h; cases h
  · rintro ⟨i', k', _, _, h | ⟨_, h⟩, _⟩ <;> omega
theorem Seen.step {a b : L} {ls : List L} {i k : Nat} {sv m : Bool} (h : Seen a b ls i k sv) (hik : i ≤ k) (hk : k ≤ ls.length)
    (hm : (sv || (like a (ls.take i).flatten && like b (ls.drop k).flatten)) = m) : Seen a b ls i (k + 1) m := by
  unfold Seen at *
  rw [← hm, Bool.or_eq_true, h, Bool.and_eq_true]
  constructor
  · rintro (⟨i', k', h1, h2, h3, h4⟩ | h4)
    · exact ⟨i', k', h1, h2, by omega, h4⟩
    · exact ⟨i, k, hik, hk, by omega, h4⟩
  · rintro ⟨i', k', h1, h2, h3, h4⟩
    by_cases he : i' = i ∧ k' = k
    · obtain ⟨rfl, rfl⟩ := he
      exact Or.inr h4
    · exact Or.inl ⟨i', k', h1, h2, by omega, h4⟩
theorem Seen.next {a b : L} {ls : List L} {i : Nat} {sv : Bool} (h : Seen a b ls i (ls.length + 1) sv) : Seen a b ls (i + 1) (i + 1) sv := by
  unfold Seen at *
  rw [h]
  constructor
  · rintro ⟨i', k', h1, h2, h3, h4⟩; exact ⟨i', k', h1, h2, by omega, h4⟩
  · rintro ⟨i', k', h1, h2, h3, h4⟩; exact ⟨i', k', h1, h2, by omega, h4⟩
theorem Seen.end {a b t : L} {sv : Bool} (h : Seen a b (letters t) ((letters t).length + 1) ((letters t).length + 1) sv) (ha : Lib.validD a = true) (ht : Lib.validD t = true) (h1 : (parse (letters a)).2 = true) (h2 : (parse (letters b)).2 = true) :
    like (a ++ 37 :: b) t = sv := by
  rw [Bool.eq_iff_iff, like_middle a b t ha ht h1 h2]
  unfold Seen at h
  rw [h]
  constructor
  · rintro ⟨i, k, h1, h2, h3⟩; exact ⟨i, k, h1, h2, by omega, h3⟩
  · rintro ⟨i, k, h1, h2, _, h3⟩; exact ⟨i, k, h1, h2, h3⟩
theorem cut_min (l : L) (m : Nat) : (str l).extract 0 (min (l.length : Int) (m : Int)).toNat = str (l.take m) := by
  have e : (min (l.length : Int) (m : Int)).toNat = min l.length m := by omega
  rw [e, extract_str, List.drop_zero, Nat.sub_zero]
  congr 1
  by_cases h : l.length ≤ m
  · rw [Nat.min_eq_left h, List.take_length, List.take_of_length_le h]
  · rw [Nat.min_eq_right (by omega)]
/-! ### the walk -/
set_option maxRecDepth 100000 in
set_option maxHeartbeats 4000000 in
theorem middle_walk (p q s : L) (hp : p.length ≤ 9223372036854775807) (hq : q.length ≤ 9223372036854775807) (hs : s.length ≤ 9223372036854775807) (w : World) (hT : Tabs w) :
    Calls Tryd.prog 4 #[.string (str p), .string (str q), .string (str s)] w (RetI true w) := by
  have hsp : ((str p).size : Int) = (p.length : Int) := rfl
  have hsq : ((str q).size : Int) = (q.length : Int) := rfl
  have hss : ((str s).size : Int) = (s.length : Int) := rfl
  have ep : (str p).extract 0 (min (p.length : Int) 100).toNat = str (p.take 100) := cut_min p 100
  have eq : (str q).extract 0 (min (q.length : Int) 100).toNat = str (q.take 100) := cut_min q 100
  have es : (str s).extract 0 (min (s.length : Int) 60).toNat = str (s.take 60) := cut_min s 60
  have la : (p.take 100).length ≤ 100 := by rw [List.length_take]; omega
  have lb : (q.take 100).length ≤ 100 := by rw [List.length_take]; omega
  have lt : (s.take 60).length ≤ 60 := by rw [List.length_take]; omega
  generalize p.take 100 = a at *
  generalize q.take 100 = b at *
  generalize s.take 60 = t at *
  have CA := Lib.hid (fun w => check_any a w (by omega))
  have CB := Lib.hid (fun w => check_any b w (by omega))
  have VA := Lib.hid (fun w hT => valid_any a w (by omega) hT)
  have VB := Lib.hid (fun w hT => valid_any b w (by omega) hT)
  have VT := Lib.hid (fun w hT => valid_any t w (by omega) hT)
  go_enter Tryd.func4, Tryd.ntmps4
  go_wp2_with fail
  refine (shown_any _).mono ?_
  rintro e w1 ⟨rfl, b1⟩
  go_wp2_with fail
  go_region
  clear ep eq es hsp hsq hss
  have b2 := b1.drew
  generalize w1.drew = w2 at *
  rcases checkN_cases a with ⟨ha, oka⟩ | ⟨ha, _⟩
  · rw [ha] at CA
    clear ha
    go_wp2_with fail
    refine (CA.out _).mono ?_
    rintro e w3 ⟨rfl, hb3⟩
    have b3 := b2.trans (hb3.mono b2.size)
    rcases checkN_cases b with ⟨hb, okb⟩ | ⟨hb, _⟩
    · rw [hb] at CB
      clear hb
      go_wp2_with fail
      refine (CB.out _).mono ?_
      rintro e w4 ⟨rfl, hb4⟩
      have b4 := b3.trans (hb4.mono b3.size)
      cases hva : Lib.validD a with
      | true =>
        rw [hva] at VA
        go_wp2_with fail
        refine (VA.out _ (hT.below b4)).mono ?_
        rintro e w5 ⟨rfl, hb5⟩
        have b5 := b4.trans (hb5.mono b4.size)
        cases hvb : Lib.validD b with
        | true =>
          rw [hvb] at VB
          go_wp2_with fail
          refine (VB.out _ (hT.below b5)).mono ?_
          rintro e w6 ⟨rfl, hb6⟩
          have b6 := b5.trans (hb6.mono b5.size)
          cases hvt : Lib.validD t with
          | true =>
            rw [hvt] at VT
            go_wp2_with fail
            refine (VT.out _ (hT.below b6)).mono ?_
            rintro e w7 ⟨rfl, hb7⟩
            have b7 := b6.trans (hb7.mono b6.size)
            have HEND : Hid (∀ sv, Seen a b (letters t) ((letters t).length + 1) ((letters t).length + 1) sv → like (a ++ 37 :: b) t = sv) := Lib.hid (fun sv h => h.end hva hvt oka okb)
            clear CA CB VA VB VT hva hvb hvt oka okb hb3 hb4 hb5 hb6 hb7 b1 b2 b3 b4 b5 b6 hT
            go_wp2_with fail
            refine (letters_any t _ (by omega)).mono ?_
            rintro e w8 ⟨xa, ln, lc, rfl, hol, hb8⟩
            have b8 := b7.trans (hb8.mono b7.size)
            have hrl := hol.rd
            have hll : (letters t).length = ln := hol.1
            have hfl : (letters t).flatten.length = t.length := by rw [letters_flat]
            have hlt := letters_length t
            clear hol hb8 b7
            go_wp2_with fail
            go_loopw [12, 13] (fun sm i wr => ∃ (i0 : Nat) (sv : Bool), i0 ≤ ln + 1 ∧ sm = .bool sv ∧ i = .int .i64 i0 ∧ Hid (Seen a b (letters t) i0 i0 sv) ∧ Below w8.heap.size w8 wr) (fun _ i _ => ln + 1 - (intOf i).toNat)
            case atStart => exact ⟨0, false, by omega, rfl, rfl, Seen.start _ _ _, Below.refl _ _⟩
            case round =>
              obtain ⟨i, sv, hi, rfl, rfl, HS, hbo⟩ := hrel
              obtain ⟨wo, rfl⟩ : ∃ x, x = wr := ⟨_, rfl⟩
              have hbos := hbo.size
              by_cases hil : i < ln + 1
              · have hile : decide (i ≤ ln) = true := by simp; omega
                have hile2 : decide ((i : Int) ≤ (ln : Int)) = true := by simp; omega
                go_wp2_with fail
                go_loopw [12, 14] (fun sm kk wr => ∃ (k : Nat) (sv : Bool), i ≤ k ∧ k ≤ ln + 1 ∧ sm = .bool sv ∧ kk = .int .i64 k ∧ Hid (Seen a b (letters t) i k sv) ∧ Below wo.heap.size wo wr) (fun _ kk _ => ln + 1 - (intOf kk).toNat)
                case atStart => exact ⟨i, sv, by omega, by omega, rfl, rfl, HS, Below.refl _ _⟩
                case round =>
                  clear HS
                  obtain ⟨k, sv2, hik, hk, rfl, rfl, HS2, hbm⟩ := hrel
                  obtain ⟨wm, rfl⟩ : ∃ x, x = wr := ⟨_, rfl⟩
                  have hbms := hbm.size
                  have hbw := hbo.trans (hbm.mono hbos)
                  by_cases hkl : k < ln + 1
                  · have hrm := hrl.below hbw
                    have hkle : decide (k ≤ ln) = true := by simp; omega
                    have hkle2 : decide ((k : Int) ≤ (ln : Int)) = true := by simp; omega
                    go_wp2_with fail
                    go_loopw [15, 16, 76] (fun x y nn wr => ∃ n : Nat, n ≤ ln ∧ x = .string (str (headX (letters t) i n)) ∧ y = .string (str (tailY (letters t) k n)) ∧ nn = .int .i64 n ∧ Below wm.heap.size wm wr) (fun _ _ nn _ => ln - (intOf nn).toNat)
                    case atStart => exact ⟨0, by omega, by rw [headX_zero]; rfl, by rw [tailY_zero]; rfl, rfl, Below.refl _ _⟩
                    case round =>
                      obtain ⟨n, hn, rfl, rfl, rfl, hbi⟩ := hrel
                      have hbis := hbi.size
                      by_cases hnl : n < ln
                      · obtain ⟨bb, c, hc, rfl, hbb, hcc⟩ := (hrm.below hbi).at n hnl
                        have hlc := at_flat_length hc
                        have hx := headX_length (letters t) i n
                        have hy := tailY_length (letters t) k n
                        have hsc : (str c).size = c.length := rfl
                        by_cases hni : n < i
                        · have hkn : ¬ k ≤ n := by omega
                          have hX : str (headX (letters t) i n) ++ str c = str (headX (letters t) i (n + 1)) := by rw [headX_in hc hni]; exact str_append _ _
                          have hsx : (str (headX (letters t) i n)).size = (headX (letters t) i n).length := rfl
                          have hY : tailY (letters t) k (n + 1) = tailY (letters t) k n := tailY_out hkn
                          clear hc HS2
                          go_wp2
                          go_roundw
                          case rel => exact ⟨n + 1, by omega, by first | rfl | rw [hX], by first | rfl | rw [hY], by go_num, hbi⟩
                          case measure => simp [intOf]; omega
                        · by_cases hkn : k ≤ n
                          · have hX : headX (letters t) i (n + 1) = headX (letters t) i n := headX_out hc hni
                            have hY : str (tailY (letters t) k n) ++ str c = str (tailY (letters t) k (n + 1)) := by rw [tailY_in hc hkn]; exact str_append _ _
                            have hsy : (str (tailY (letters t) k n)).size = (tailY (letters t) k n).length := rfl
                            clear hc HS2
                            go_wp2
                            go_roundw
                            case rel => exact ⟨n + 1, by omega, by first | rfl | rw [hX], by first | rfl | rw [hY], by go_num, hbi⟩
                            case measure => simp [intOf]; omega
                          · have hX : headX (letters t) i (n + 1) = headX (letters t) i n := headX_out hc hni
                            have hY : tailY (letters t) k (n + 1) = tailY (letters t) k n := tailY_out hkn
                            clear hc HS2
                            go_wp2
                            go_roundw
                            case rel => exact ⟨n + 1, by omega, by first | rfl | rw [hX], by first | rfl | rw [hY], by go_num, hbi⟩
                            case measure => simp [intOf]; omega
                      · obtain rfl : n = ln := by omega
                        have hx := headX_length (letters t) i n
                        have hy := tailY_length (letters t) k n
                        have hz := take_flat_length (letters t) n
                        have hX := headX_all (letters t) i
                        have hY := tailY_all (letters t) k
                        rw [hll] at hX hY
                        have hst := fun m => HS2.out.step (m := m) hik (by omega)
                        rw [← hX, ← hY] at hst
                        clear hX hY HS2
                        generalize headX (letters t) i n = X at *
                        generalize tailY (letters t) k n = Y at *
                        have I1 := Lib.hid (fun w => is_any a X w (by omega) (by omega))
                        have I2 := Lib.hid (fun w => is_any b Y w (by omega) (by omega))
                        generalize like a X = m1 at *
                        generalize like b Y = m2 at *
                        have hbn := hbm.trans (hbi.mono hbms)
                        have HST := Lib.hid hst
                        clear hst
                        cases sv2 with
                        | true =>
                          have HN := Lib.hid (HST.out true rfl)
                          clear I1 I2 HST
                          go_wp2
                          go_roundw
                          case rel => exact ⟨k + 1, true, by omega, by omega, rfl, by go_num, HN, hbn⟩
                          case measure => simp [intOf]; omega
                        | false =>
                          cases m1 with
                          | false =>
                            have HN := Lib.hid (HST.out false rfl)
                            clear I2 HST
                            go_wp2_with fail
                            refine (I1.out _).mono ?_
                            rintro e w9 ⟨rfl, hb9⟩
                            have b9 := hbn.trans (hb9.mono hbn.size)
                            clear I1 hb9
                            go_wp2
                            go_roundw
                            case rel => exact ⟨k + 1, false, by omega, by omega, rfl, by go_num, HN, b9⟩
                            case measure => simp [intOf]; omega
                          | true =>
                            have HN : Hid (Seen a b (letters t) i (k + 1) m2) := Lib.hid (HST.out m2 (by cases m2 <;> rfl))
                            clear HST
                            go_wp2_with fail
                            refine (I1.out _).mono ?_
                            rintro e w9 ⟨rfl, hb9⟩
                            have b9 := hbn.trans (hb9.mono hbn.size)
                            clear I1 hb9
                            go_wp2_with fail
                            refine (I2.out _).mono ?_
                            rintro e w10 ⟨rfl, hb10⟩
                            have b10 := b9.trans (hb10.mono b9.size)
                            clear I2 hb10
                            go_wp2
                            go_roundw
                            case rel => exact ⟨k + 1, m2, by omega, by omega, rfl, by go_num, HN, b10⟩
                            case measure => simp [intOf]; omega
                  · obtain rfl : k = ln + 1 := by omega
                    rw [← hll] at HS2
                    have HN := Lib.hid HS2.out.next
                    clear HS2
                    go_wp2
                    go_roundw
                    case rel => exact ⟨i + 1, sv2, by omega, rfl, by go_num, HN, hbw⟩
                    case measure => simp [intOf]; omega
              · obtain rfl : i = ln + 1 := by omega
                rw [← hll] at HS
                have he := HEND.out sv HS.out
                have hs1 : (str a).size = a.length := rfl
                have hs2 : (str b).size = b.length := rfl
                have hs3 : (str (a ++ [37])).size = a.length + 1 := by rw [str_size, List.length_append]; rfl
                have hc1 : str a ++ { data := #[37] } = str (a ++ [37]) := str_append a [37]
                have hc2 : str (a ++ [37]) ++ str b = str (a ++ 37 :: b) := by rw [str_append, List.append_assoc]; rfl
                have II := Lib.hid (fun w => is_at (a ++ 37 :: b) t sv he (by rw [List.length_append, List.length_cons]; omega) (by omega) w)
                have bo := b8.trans (hbo.mono b8.size)
                clear he HS HEND
                go_wp2_with fail
                refine (II.out _).mono ?_
                rintro e w9 ⟨rfl, hb9⟩
                have b9 := bo.trans (hb9.mono bo.size)
                cases sv
                · go_wp2
                  go_ret
                  exact ⟨rfl, b9⟩
                · go_wp2
                  go_ret
                  exact ⟨rfl, b9⟩
          | false =>
            rw [hvt] at VT
            go_wp2_with fail
            refine (VT.out _ (hT.below b6)).mono ?_
            rintro e w7 ⟨rfl, hb7⟩
            go_wp2
            go_ret
            exact ⟨rfl, b6.trans (hb7.mono b6.size)⟩
        | false =>
          rw [hvb] at VB
          go_wp2_with fail
          refine (VB.out _ (hT.below b5)).mono ?_
          rintro e w6 ⟨rfl, hb6⟩
          go_wp2
          go_ret
          exact ⟨rfl, b5.trans (hb6.mono b5.size)⟩
      | false =>
        rw [hva] at VA
        go_wp2_with fail
        refine (VA.out _ (hT.below b4)).mono ?_
        rintro e w5 ⟨rfl, hb5⟩
        go_wp2
        go_ret
        exact ⟨rfl, b4.trans (hb5.mono b4.size)⟩
    · rw [hb] at CB
      clear hb
      go_wp2_with fail
      refine (CB.out _).mono ?_
      rintro e w4 ⟨rfl, hb4⟩
      go_wp2
      go_ret
      exact ⟨rfl, b3.trans (hb4.mono b3.size)⟩
  · rw [ha] at CA
    clear ha
    go_wp2_with fail
    refine (CA.out _).mono ?_
    rintro e w3 ⟨rfl, hb3⟩
    go_wp2
    go_ret
    exact ⟨rfl, b2.trans (hb3.mono b2.size)⟩
end Go.Proofs.YtjhaebhhdgjebaaDoor
