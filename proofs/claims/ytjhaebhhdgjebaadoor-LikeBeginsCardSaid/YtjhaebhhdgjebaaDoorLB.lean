/-
  PROVED: the walk of the law LikeBegins: it returns true and changes nothing that was there (begins_walk). Conditions: the library's tables lie as they are laid; the texts are no longer than the machine allows.
-/
import Derived.Test.YtjhaebhhdgjebaaDoorLP
namespace Go.Proofs.YtjhaebhhdgjebaaDoor
open Go.RowKit Like
theorem begins_bad (a b : L) (la : a.length ≤ 300) (w : World) (hok : (parse (letters a)).2 = false) (p s : L) (FA : ∀ w, Calls Tryd.prog 9 #[.string (str p)] w fun e w' => e = .returned (.string (str a)) ∧ w = w') (FB : ∀ w, Calls Tryd.prog 9 #[.string (str s)] w fun e w' => e = .returned (.string (str b)) ∧ w = w') :
    Calls Tryd.prog 3 #[.string (str p), .string (str s)] w (RetI true w) := by
  have hc : checkN a = 30 := by unfold checkN; rw [hok]; rfl
  have CA := Lib.hid (fun w => check_any a w (by omega))
  have FX := Lib.hid (fun w => fixed_bad a w (by omega) hok)
  rw [hc] at CA
  have FA' := Lib.hid FA
  have FB' := Lib.hid FB
  clear hc hok FA FB
  go_enter Tryd.func3, Tryd.ntmps3
  go_wp2_with fail
  refine (shown_any _).mono ?_
  rintro e w1 ⟨rfl, b1⟩
  go_wp2_with fail
  refine (FA'.out _).mono ?_
  rintro e w2 ⟨rfl, rfl⟩
  go_wp2_with fail
  refine (FB'.out _).mono ?_
  rintro e w2 ⟨rfl, rfl⟩
  go_wp2_with fail
  refine (FX.out _).mono ?_
  rintro e w2 ⟨rfl, hb2⟩
  have b2 := b1.trans (hb2.mono b1.size)
  go_wp2_with fail
  refine (CA.out _).mono ?_
  rintro e w3 ⟨rfl, hb3⟩
  go_wp2
  go_ret
  exact ⟨rfl, b2.trans (hb3.mono b2.size)⟩
set_option maxRecDepth 100000 in
set_option maxHeartbeats 4000000 in
theorem begins_ok (a b : L) (la : a.length ≤ 300) (lb : b.length ≤ 300) (w : World) (hT : Tabs w) (hok : (parse (letters a)).2 = true) (p s : L) (FA : ∀ w, Calls Tryd.prog 9 #[.string (str p)] w fun e w' => e = .returned (.string (str a)) ∧ w = w') (FB : ∀ w, Calls Tryd.prog 9 #[.string (str s)] w fun e w' => e = .returned (.string (str b)) ∧ w = w') :
    Calls Tryd.prog 3 #[.string (str p), .string (str s)] w (RetI true w) := by
  have FX := Lib.hid (fun w => fixed_ok a w (by omega) hok)
  have hfl := fixedOf_length a
  have hbp := begins_prefix a b
  have hba := begins_alone a hok
  have FA' := Lib.hid FA
  have FB' := Lib.hid FB
  have IY := Lib.hid (fun w => is_any a b w (by omega) (by omega))
  have VA := Lib.hid (fun w hT => valid_any a w (by omega) hT)
  clear FA FB hok
  generalize hfd : (fixedOf a).1 = f at *
  generalize (fixedOf a).2 = al at *
  have hqf := quote_length f
  have hqb := quote_length b
  have hqs := like_quote_self f
  have QF := Lib.hid (fun w => quote_any f w (by omega))
  have QB := Lib.hid (fun w => quote_any b w (by omega))
  have IQ := Lib.hid (fun w => is_at (quote f) f true hqs (by omega) (by omega) w)
  have hcq : checkN (quote b) = 0 := by unfold checkN; rw [parse_quote]; rfl
  have CQ := Lib.hid (fun w => check_any (quote b) w (by omega))
  rw [hcq] at CQ
  have hsf : (str f).size = f.length := rfl
  have hsb : (str b).size = b.length := rfl
  have hff : ((str f).toList == (str f).toList) = true := by simp
  clear hqf hqb hqs hcq hfd
  generalize quote f = qf at *
  generalize quote b = qb at *
  go_enter Tryd.func3, Tryd.ntmps3
  go_wp2_with fail
  refine (shown_any _).mono ?_
  rintro e w1 ⟨rfl, b1⟩
  go_wp2_with fail
  refine (FA'.out _).mono ?_
  rintro e w2 ⟨rfl, rfl⟩
  go_wp2_with fail
  refine (FB'.out _).mono ?_
  rintro e w2 ⟨rfl, rfl⟩
  go_wp2_with fail
  refine (FX.out _).mono ?_
  rintro e w2 ⟨rfl, hb2⟩
  have b2 := b1.trans (hb2.mono b1.size)
  clear hb2
  go_wp2_with fail
  refine (IY.out _).mono ?_
  rintro e w3 ⟨rfl, hb3⟩
  have b3 := b2.trans (hb3.mono b2.size)
  clear hb3 IY FX FA' FB'
  cases hy : like a b with
  | true =>
    obtain ⟨r, hr, hr2⟩ := hbp hy
    have hcut : (str b).extract 0 f.length = str f := by
      rw [extract_str, List.drop_zero, Nat.sub_zero, hr, List.take_left']
      rfl
    have hle : f.length ≤ b.length := by rw [hr, List.length_append]; omega
    cases al with
    | true =>
      obtain rfl : r = [] := hr2 rfl
      rw [List.append_nil] at hr
      subst hr
      clear hr2 hbp hba hy
      cases hv : Lib.validD a with
      | true =>
        have VV := VA
        rw [hv] at VV
        clear VA hv
        go_wp2_with fail
        refine (VV.out _ (hT.below b3)).mono ?_
        rintro e w4 ⟨rfl, hb4⟩
        have b4 := b3.trans (hb4.mono b3.size)
        go_wp2_with fail
        refine (QF.out _).mono ?_
        rintro e w5 ⟨rfl, hb5⟩
        have b5 := b4.trans (hb5.mono b4.size)
        go_wp2_with fail
        refine (IQ.out _).mono ?_
        rintro e w6 ⟨rfl, hb6⟩
        have b6 := b5.trans (hb6.mono b5.size)
        go_wp2_with fail
        refine (QB.out _).mono ?_
        rintro e w7 ⟨rfl, hb7⟩
        have b7 := b6.trans (hb7.mono b6.size)
        go_wp2_with fail
        refine (CQ.out _).mono ?_
        rintro e w8 ⟨rfl, hb8⟩
        go_wp2
        go_ret
        exact ⟨rfl, b7.trans (hb8.mono b7.size)⟩
      | false =>
        have VV := VA
        rw [hv] at VV
        clear VA hv
        go_wp2_with fail
        refine (VV.out _ (hT.below b3)).mono ?_
        rintro e w4 ⟨rfl, hb4⟩
        have b4 := b3.trans (hb4.mono b3.size)
        go_wp2_with fail
        refine (QF.out _).mono ?_
        rintro e w5 ⟨rfl, hb5⟩
        have b5 := b4.trans (hb5.mono b4.size)
        go_wp2_with fail
        refine (IQ.out _).mono ?_
        rintro e w6 ⟨rfl, hb6⟩
        have b6 := b5.trans (hb6.mono b5.size)
        go_wp2_with fail
        refine (QB.out _).mono ?_
        rintro e w7 ⟨rfl, hb7⟩
        have b7 := b6.trans (hb7.mono b6.size)
        go_wp2_with fail
        refine (CQ.out _).mono ?_
        rintro e w8 ⟨rfl, hb8⟩
        go_wp2
        go_ret
        exact ⟨rfl, b7.trans (hb8.mono b7.size)⟩
    | false =>
      clear hr hr2 hbp hba hy
      have b4 := b3
      go_wp2_with fail
      refine (QF.out _).mono ?_
      rintro e w5 ⟨rfl, hb5⟩
      have b5 := b4.trans (hb5.mono b4.size)
      go_wp2_with fail
      refine (IQ.out _).mono ?_
      rintro e w6 ⟨rfl, hb6⟩
      have b6 := b5.trans (hb6.mono b5.size)
      go_wp2_with fail
      refine (QB.out _).mono ?_
      rintro e w7 ⟨rfl, hb7⟩
      have b7 := b6.trans (hb7.mono b6.size)
      go_wp2_with fail
      refine (CQ.out _).mono ?_
      rintro e w8 ⟨rfl, hb8⟩
      go_wp2
      go_ret
      exact ⟨rfl, b7.trans (hb8.mono b7.size)⟩
  | false =>
    cases al with
    | true =>
      cases hv : Lib.validD a with
      | true =>
        have hne : b ≠ f := by
          rintro rfl
          rw [hba hv rfl] at hy
          cases hy
        have hbf : ((str b).toList == (str f).toList) = false := by rw [toList_str, toList_str]; simpa using hne
        have VV := VA
        rw [hv] at VV
        clear VA hv hbp hba hy hne
        go_wp2_with fail
        refine (VV.out _ (hT.below b3)).mono ?_
        rintro e w4 ⟨rfl, hb4⟩
        have b4 := b3.trans (hb4.mono b3.size)
        go_wp2_with fail
        refine (QF.out _).mono ?_
        rintro e w5 ⟨rfl, hb5⟩
        have b5 := b4.trans (hb5.mono b4.size)
        go_wp2_with fail
        refine (IQ.out _).mono ?_
        rintro e w6 ⟨rfl, hb6⟩
        have b6 := b5.trans (hb6.mono b5.size)
        go_wp2_with fail
        refine (QB.out _).mono ?_
        rintro e w7 ⟨rfl, hb7⟩
        have b7 := b6.trans (hb7.mono b6.size)
        go_wp2_with fail
        refine (CQ.out _).mono ?_
        rintro e w8 ⟨rfl, hb8⟩
        go_wp2
        go_ret
        exact ⟨rfl, b7.trans (hb8.mono b7.size)⟩
      | false =>
        have VV := VA
        rw [hv] at VV
        clear VA hv hbp hba hy
        go_wp2_with fail
        refine (VV.out _ (hT.below b3)).mono ?_
        rintro e w4 ⟨rfl, hb4⟩
        have b4 := b3.trans (hb4.mono b3.size)
        go_wp2_with fail
        refine (QF.out _).mono ?_
        rintro e w5 ⟨rfl, hb5⟩
        have b5 := b4.trans (hb5.mono b4.size)
        go_wp2_with fail
        refine (IQ.out _).mono ?_
        rintro e w6 ⟨rfl, hb6⟩
        have b6 := b5.trans (hb6.mono b5.size)
        go_wp2_with fail
        refine (QB.out _).mono ?_
        rintro e w7 ⟨rfl, hb7⟩
        have b7 := b6.trans (hb7.mono b6.size)
        go_wp2_with fail
        refine (CQ.out _).mono ?_
        rintro e w8 ⟨rfl, hb8⟩
        go_wp2
        go_ret
        exact ⟨rfl, b7.trans (hb8.mono b7.size)⟩
    | false =>
      clear hbp hba hy
      have b4 := b3
      go_wp2_with fail
      refine (QF.out _).mono ?_
      rintro e w5 ⟨rfl, hb5⟩
      have b5 := b4.trans (hb5.mono b4.size)
      go_wp2_with fail
      refine (IQ.out _).mono ?_
      rintro e w6 ⟨rfl, hb6⟩
      have b6 := b5.trans (hb6.mono b5.size)
      go_wp2_with fail
      refine (QB.out _).mono ?_
      rintro e w7 ⟨rfl, hb7⟩
      have b7 := b6.trans (hb7.mono b6.size)
      go_wp2_with fail
      refine (CQ.out _).mono ?_
      rintro e w8 ⟨rfl, hb8⟩
      go_wp2
      go_ret
      exact ⟨rfl, b7.trans (hb8.mono b7.size)⟩
theorem begins_walk (p s : L) (hp : p.length ≤ 9223372036854775807) (hs : s.length ≤ 9223372036854775807) (w : World) (hT : Tabs w) :
    Calls Tryd.prog 3 #[.string (str p), .string (str s)] w (RetI true w) := by
  cases hok : (parse (letters (few p))).2 with
  | true => exact begins_ok (few p) (few s) (few_length p) (few_length s) w hT hok p s (fun w => few_any p w hp) (fun w => few_any s w hs)
  | false => exact begins_bad (few p) (few s) (few_length p) w hok p s (fun w => few_any p w hp) (fun w => few_any s w hs)
end Go.Proofs.YtjhaebhhdgjebaaDoor
