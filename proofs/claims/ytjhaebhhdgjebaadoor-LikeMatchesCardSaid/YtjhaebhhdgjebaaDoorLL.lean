/-
  PROVED: the walks of the laws LikeLetters and LikeMatches: they return true and change nothing that was there (letters_walk, matches_walk). Conditions: the library's tables lie as they are laid; the texts are no longer than the machine allows.
-/
import Derived.Test.YtjhaebhhdgjebaaDoorRM
namespace Go.Proofs.YtjhaebhhdgjebaaDoor
open Go.RowKit Like
set_option maxRecDepth 100000 in
set_option maxHeartbeats 1000000 in
theorem letters_walk (s : L) (hs : s.length ≤ 9223372036854775807) (w : World) (hT : Tabs w) :
    Calls Tryd.prog 7 #[.string (str s)] w (RetI true w) := by
  have ha := few_length s
  have FA := Lib.hid (fun w => few_any s w hs)
  generalize few s = a at *
  have hql := quote_length a
  have HQ : ((str (quote a)).toList == (str (quote a)).toList) = true := by simp
  have HC : (checkN a == checkN a) = true := by simp
  have QT := Lib.hid (fun w => quote_any a w (by omega))
  have QR := Lib.hid (fun w hT => refQuote_any a w (by omega) hT)
  have CT := Lib.hid (fun w => check_any a w (by omega))
  have CR := Lib.hid (fun w hT => refCheck_any a w (by omega) hT)
  generalize quote a = q at *
  generalize checkN a = n at *
  go_enter Tryd.func7, Tryd.ntmps7
  go_wp2_with fail
  refine (FA.out _).mono ?_
  rintro e w1 ⟨rfl, rfl⟩
  go_wp2_with fail
  refine (shown_any _).mono ?_
  rintro e w1 ⟨rfl, b1⟩
  go_wp2_with fail
  refine (letters_any a _ (by omega)).mono ?_
  rintro e w2 ⟨a1, n1, c1, rfl, ho1, hb2⟩
  have b2 := b1.trans (hb2.mono b1.size)
  have hr1 := ho1.rd
  clear hb2 ho1
  go_wp2_with fail
  refine (refLetters_any a _ (by omega) (hT.below b2)).mono ?_
  rintro e w3 ⟨a2, n2, c2, rfl, ho2, hb3⟩
  have b3 := b2.trans (hb3.mono b2.size)
  have hr2 := ho2.rd
  replace hr1 := hr1.below hb3
  have hn1 : n1 = (letters a).length := hr1.1.symm
  have hn2 : n2 = (letters a).length := hr2.1.symm
  subst hn1
  subst hn2
  have hll := letters_length a
  clear hb3 ho2
  go_wp2_with fail
  refine (same_any _ _ _ _ _ _ _ hr1 hr2 (by omega)).mono ?_
  rintro e w4 ⟨rfl, hb4⟩
  have b4 := b3.trans (hb4.mono b3.size)
  clear hb4 hr1 hr2 hll
  go_wp2_with fail
  refine (CT.out _).mono ?_
  rintro e w5 ⟨rfl, hb5⟩
  have b5 := b4.trans (hb5.mono b4.size)
  clear hb5
  go_wp2_with fail
  refine (CR.out _ (hT.below b5)).mono ?_
  rintro e w6 ⟨rfl, hb6⟩
  have b6 := b5.trans (hb6.mono b5.size)
  clear hb6
  go_wp2_with fail
  refine (QT.out _).mono ?_
  rintro e w7 ⟨rfl, hb7⟩
  have b7 := b6.trans (hb7.mono b6.size)
  clear hb7
  go_wp2_with fail
  refine (QR.out _ (hT.below b7)).mono ?_
  rintro e w8 ⟨rfl, hb8⟩
  have b8 := b7.trans (hb8.mono b7.size)
  clear hb8
  go_wp2
  go_ret
  exact ⟨rfl, b8⟩
set_option maxRecDepth 100000 in
set_option maxHeartbeats 1000000 in
theorem matches_walk (p s : L) (hp : p.length ≤ 9223372036854775807) (hs : s.length ≤ 9223372036854775807) (w : World) (hT : Tabs w) :
    Calls Tryd.prog 5 #[.string (str p), .string (str s)] w (RetI true w) := by
  have ha := few_length p
  have hb := few_length s
  have FA := Lib.hid (fun w => few_any p w hp)
  have FB := Lib.hid (fun w => few_any s w hs)
  generalize few p = a at *
  generalize few s = b at *
  have M1 := Lib.hid (fun w => match_any a b w (by omega) (by omega))
  have M2 := Lib.hid (fun w hT => refMatch_any a b w (by omega) (by omega) hT)
  have F12 : ∃ (f : L) (x : Bool) (n : Int), (∀ w, Calls Tryd.prog 10 #[.string (str a)] w (RetF f x n w)) ∧ (∀ w, Tabs w → Calls Tryd.prog 18 #[.string (str a)] w (RetF f x n w)) := by
    cases hok : (parse (letters a)).2 with
    | true => exact ⟨_, _, _, fun w => fixed_ok a w (by omega) hok, fun w hT => refFixed_ok a w (by omega) hT hok⟩
    | false => exact ⟨_, _, _, fun w => fixed_bad a w (by omega) hok, fun w hT => refFixed_bad a w (by omega) hT hok⟩
  obtain ⟨f, x, n, F1, F2⟩ := F12
  have F1' := Lib.hid F1
  have F2' := Lib.hid F2
  have HM : (like a b == like a b) = true := by simp
  have HN : (checkN a == checkN a) = true := by simp
  have HF : ((str f).toList == (str f).toList) = true := by simp
  have HX : (x == x) = true := by simp
  have HN2 : (n == n) = true := by simp
  clear F1 F2
  generalize like a b = m at *
  generalize checkN a = cn at *
  go_enter Tryd.func5, Tryd.ntmps5
  go_wp2_with fail
  refine (FA.out _).mono ?_
  rintro e w1 ⟨rfl, rfl⟩
  go_wp2_with fail
  refine (FB.out _).mono ?_
  rintro e w1 ⟨rfl, rfl⟩
  go_wp2_with fail
  refine (M1.out _).mono ?_
  rintro e w1 ⟨rfl, b1⟩
  go_wp2_with fail
  refine (FA.out _).mono ?_
  rintro e w2 ⟨rfl, rfl⟩
  go_wp2_with fail
  refine (FB.out _).mono ?_
  rintro e w2 ⟨rfl, rfl⟩
  go_wp2_with fail
  refine (M2.out _ (hT.below b1)).mono ?_
  rintro e w2 ⟨rfl, hb2⟩
  have b2 := b1.trans (hb2.mono b1.size)
  clear hb2
  go_wp2_with fail
  refine (FA.out _).mono ?_
  rintro e w3 ⟨rfl, rfl⟩
  go_wp2_with fail
  refine (F1'.out _).mono ?_
  rintro e w3 ⟨rfl, hb3⟩
  have b3 := b2.trans (hb3.mono b2.size)
  clear hb3
  go_wp2_with fail
  refine (FA.out _).mono ?_
  rintro e w4 ⟨rfl, rfl⟩
  go_wp2_with fail
  refine (F2'.out _ (hT.below b3)).mono ?_
  rintro e w4 ⟨rfl, hb4⟩
  have b4 := b3.trans (hb4.mono b3.size)
  clear hb4
  go_wp2_with fail
  refine (shown_any _).mono ?_
  rintro e w5 ⟨rfl, hb5⟩
  have b5 := b4.trans (hb5.mono b4.size)
  clear hb5
  go_wp2
  go_ret
  exact ⟨rfl, b5⟩
end Go.Proofs.YtjhaebhhdgjebaaDoor
