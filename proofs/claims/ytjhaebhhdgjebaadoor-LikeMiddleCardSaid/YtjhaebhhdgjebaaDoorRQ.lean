/-
  PROVED: the reference's Check, Fixed and Quote give what the plain laws say (refCheck_any, refFixed_any, refQuote_any). Conditions: the library's tables lie as they are laid; the texts have at most 100000 bytes.
-/
import Derived.Test.YtjhaebhhdgjebaaDoorRP
namespace Go.Proofs.YtjhaebhhdgjebaaDoor
open Go.RowKit Like
theorem str_append (a b : L) : str a ++ str b = str (a ++ b) := by
  apply ByteArray.ext
  apply Array.toList_inj.1
  simp [str]
theorem few_length (l : L) : (few l).length ≤ 300 := by unfold few; rw [List.length_take]; omega
theorem escL_length : ∀ ls : List L, (ls.flatMap escL).flatten.length ≤ ls.flatten.length + ls.length
  | [] => Nat.le_refl _
  | x :: r => by
    have ih := escL_length r
    rw [List.flatMap_cons, List.flatten_append, List.length_append, List.flatten_cons, List.length_append, List.length_cons]
    have : (escL x).flatten.length ≤ 1 + x.length := by
      unfold escL
      split
      · simp; omega
      · simp
    omega
theorem quote_length (l : L) : (quote l).length ≤ 2 * l.length := by
  have h1 := escL_length (letters l)
  have h2 := letters_length l
  rw [letters_flat] at h1
  unfold quote
  omega
theorem refCheck_any (p : L) (w : World) (hp : p.length ≤ 100000) (hT : Tabs w) : Calls Tryd.prog 21 #[.string (str p)] w (RetN (checkN p) w) := by
  rcases checkN_cases p with ⟨h, hok⟩ | ⟨h, hok⟩
  · rw [h]
    go_enter Tryd.func21, Tryd.ntmps21
    go_wp2_with fail
    refine (refParts_any p _ hp hT).mono ?_
    rintro e w1 ⟨pa, pn, pc, rfl, hop, hb1⟩
    rw [hok]
    clear hop
    go_wp2
    go_ret
    exact ⟨rfl, hb1⟩
  · rw [h]
    go_enter Tryd.func21, Tryd.ntmps21
    go_wp2_with fail
    refine (refParts_any p _ hp hT).mono ?_
    rintro e w1 ⟨pa, pn, pc, rfl, hop, hb1⟩
    rw [hok]
    clear hop
    go_wp2
    go_ret
    exact ⟨rfl, hb1⟩
/-! ### Fixed -/
theorem refFixed_bad (p : L) (w : World) (hp : p.length ≤ 100000) (hT : Tabs w) (hok : (parse (letters p)).2 = false) :
    Calls Tryd.prog 18 #[.string (str p)] w (RetF [] false 30 w) := by
  go_enter Tryd.func18, Tryd.ntmps18
  go_wp2_with fail
  refine (refParts_any p _ hp hT).mono ?_
  rintro e w1 ⟨pa, pn, pc, rfl, hop, hb1⟩
  rw [hok]
  clear hop
  go_wp2
  go_ret3
  exact ⟨rfl, hb1⟩
set_option maxRecDepth 100000 in
set_option maxHeartbeats 1000000 in
theorem refFixed_ok (p : L) (w : World) (hp : p.length ≤ 100000) (hT : Tabs w) (hok : (parse (letters p)).2 = true) :
    Calls Tryd.prog 18 #[.string (str p)] w (RetF (fixedOf p).1 (fixedOf p).2 0 w) := by
  have hfl := fixedOf_length p
  unfold fixedOf at hfl ⊢
  have hpl := parse_length p
  go_enter Tryd.func18, Tryd.ntmps18
  go_wp2_with fail
  refine (refParts_any p _ hp hT).mono ?_
  rintro e w1 ⟨xa, pn, pc, rfl, hop, hb1⟩
  replace hop := hop hok
  rw [hok]
  generalize (parse (letters p)).1 = ps at *
  have hpr := hop.rd
  have hpn : ps.length = pn := hop.1
  have hb1s := hb1.size
  clear hop hok
  go_wp2_with fail
  go_loopw [7, 8] (fun s i wr => ∃ (k : Nat) (acc : L), k ≤ pn ∧ s = .string (str acc) ∧ i = .int .i64 k ∧ Hid (acc ++ (fixed (ps.drop k)).1 = (fixed ps).1 ∧ (fixed (ps.drop k)).2 = (fixed ps).2) ∧ Below w1.heap.size w1 wr) (fun _ i _ => pn - (intOf i).toNat)
  case atStart => exact ⟨0, [], by omega, rfl, rfl, ⟨rfl, rfl⟩, Below.refl _ _⟩
  case round =>
    obtain ⟨k, acc, hk, rfl, rfl, HF, hb⟩ := hrel
    have hbs := hb.size
    have hacc : acc.length ≤ 100000 := by
      have := congrArg List.length HF.out.1
      rw [List.length_append] at this
      omega
    by_cases hlt : k < pn
    · obtain ⟨pb, q, hqi, rfl, hpb, hqc, hqd, hqe⟩ := (hpr.below hb).at k hlt
      have hd := drop_at hqi
      cases q with
      | any =>
        have hqc' : wr.cell? ⟨pb, k * 3, none⟩ = some (.bool true) := hqc
        rw [hd] at HF
        have e1 : acc = (fixed ps).1 := by have := HF.out.1; simpa [fixed] using this
        have e2 : (fixed ps).2 = false := HF.out.2.symm
        have E1 := Lib.hid e1
        have E2 := Lib.hid e2
        clear hqc hqd hqe hd HF e1 e2
        go_wp2
        go_ret3
        exact ⟨by rw [← E1.out, E2.out]; rfl, hb1.trans (hb.mono hb1s)⟩
      | one =>
        have hqc' : wr.cell? ⟨pb, k * 3, none⟩ = some (.bool false) := hqc
        have hqd' : wr.cell? ⟨pb, k * 3 + 1, none⟩ = some (.bool true) := hqd
        rw [hd] at HF
        have e1 : acc = (fixed ps).1 := by have := HF.out.1; simpa [fixed] using this
        have e2 : (fixed ps).2 = false := HF.out.2.symm
        have E1 := Lib.hid e1
        have E2 := Lib.hid e2
        clear hqc hqd hqe hd HF e1 e2
        go_wp2
        go_ret3
        exact ⟨by rw [← E1.out, E2.out]; rfl, hb1.trans (hb.mono hb1s)⟩
      | lit x =>
        have hqc' : wr.cell? ⟨pb, k * 3, none⟩ = some (.bool false) := hqc
        have hqd' : wr.cell? ⟨pb, k * 3 + 1, none⟩ = some (.bool false) := hqd
        have hqe' : wr.cell? ⟨pb, k * 3 + 2, none⟩ = some (.string (str x)) := hqe
        rw [hd] at HF
        have e1 : (acc ++ x) ++ (fixed (ps.drop (k + 1))).1 = (fixed ps).1 := by have := HF.out.1; simpa [fixed] using this
        have e2 : (fixed (ps.drop (k + 1))).2 = (fixed ps).2 := HF.out.2
        have hxl : acc.length + x.length ≤ 100000 := by
          have := congrArg List.length e1
          rw [List.length_append, List.length_append] at this
          omega
        have E := Lib.hid (And.intro e1 e2)
        have hsa : (str acc).size = acc.length := rfl
        have hsx : (str x).size = x.length := rfl
        have hcc := str_append acc x
        clear hqc hqd hqe hd HF e1 e2
        go_wp2
        go_roundw
        case rel => exact ⟨k + 1, acc ++ x, by omega, by rw [← hcc], by go_num, E, hb⟩
        case measure => simp [intOf]; omega
    · obtain rfl : k = pn := by omega
      rw [fixed_end (Nat.le_of_eq hpn)] at HF
      have e1 : acc = (fixed ps).1 := by have := HF.out.1; simpa using this
      have e2 : (fixed ps).2 = true := HF.out.2.symm
      have E1 := Lib.hid e1
      have E2 := Lib.hid e2
      clear HF e1 e2
      go_wp2
      go_ret3
      exact ⟨by rw [← E1.out, E2.out]; rfl, hb1.trans (hb.mono hb1s)⟩
/-! ### Quote -/
theorem refQuo_next {l : L} {k : Nat} {acc : L} {t : L} (h : acc ++ (((letters l).drop k).flatMap escL).flatten = quote l) (hi : (letters l)[k]? = some t) : (acc ++ (escL t).flatten) ++ (((letters l).drop (k + 1)).flatMap escL).flatten = quote l := by
  rw [drop_at hi, List.flatMap_cons, List.flatten_append, ← List.append_assoc] at h
  exact h
set_option maxRecDepth 100000 in
set_option maxHeartbeats 1000000 in
theorem refQuote_any (l : L) (w : World) (hl : l.length ≤ 100000) (hT : Tabs w) :
    Calls Tryd.prog 22 #[.string (str l)] w (RetT (quote l) w) := by
  have hql := quote_length l
  go_enter Tryd.func22, Tryd.ntmps22
  go_wp2_with fail
  refine (refLetters_any l _ hl hT).mono ?_
  rintro e w1 ⟨la, ln, lc, rfl, hol, hb1⟩
  have hrl := hol.rd
  have hll : (letters l).length = ln := hol.1
  have hlll := letters_length l
  have hbs1 := hb1.size
  clear hol
  go_wp2_with fail
  go_loopw [4, 5] (fun s i wr => ∃ (k : Nat) (acc : L), k ≤ ln ∧ s = .string (str acc) ∧ i = .int .i64 k ∧ Hid (acc ++ (((letters l).drop k).flatMap escL).flatten = quote l) ∧ Below w1.heap.size w1 wr) (fun _ i _ => ln - (intOf i).toNat)
  case atStart => exact ⟨0, [], by omega, rfl, rfl, rfl, Below.refl _ _⟩
  case round =>
    obtain ⟨k, acc, hk, rfl, rfl, HA, hb⟩ := hrel
    have hbs := hb.size
    by_cases hlt : k < ln
    · obtain ⟨b, t, hi, rfl, hlb, hlc⟩ := (hrl.below hb).at k hlt
      have hnx := refQuo_next HA.out hi
      have hnl := congrArg List.length hnx
      rw [List.length_append, List.length_append] at hnl
      by_cases hsp : special t = true
      · have he : (escL t).flatten = 92 :: t := by rw [escL, if_pos hsp]; simp
        rw [he] at hnx hnl
        rw [List.length_cons] at hnl
        have hN := Lib.hid hnx
        have hsa : (str acc).size = acc.length := rfl
        have hsx : (str t).size = t.length := rfl
        have hc1 : str acc ++ { data := #[92] } = str (acc ++ [92]) := str_append acc [92]
        have hsb : (str (acc ++ [92])).size = acc.length + 1 := by rw [str_size, List.length_append]; rfl
        have hcc : str (acc ++ [92]) ++ str t = str (acc ++ 92 :: t) := by rw [str_append, List.append_assoc]; rfl
        have hsp2 : t = [37] ∨ t = [95] ∨ t = [92] := by simp only [special, Bool.or_eq_true, beq_iff_eq] at hsp; rcases hsp with (h | h) | h <;> simp [h]
        clear hnx hsp he HA
        rcases hsp2 with h | h | h
        · have f1 : ((str t).toList == [37]) = true := by rw [toList_str, h]; rfl
          clear h
          go_wp2
          go_roundw
          case rel => exact ⟨k + 1, acc ++ 92 :: t, by omega, by first | rfl | rw [← hcc], by go_num, hN, hb⟩
          case measure => simp [intOf]; omega
        · have f1 : ((str t).toList == [37]) = false := by rw [toList_str, h]; rfl
          have f2 : ((str t).toList == [95]) = true := by rw [toList_str, h]; rfl
          clear h
          go_wp2
          go_roundw
          case rel => exact ⟨k + 1, acc ++ 92 :: t, by omega, by first | rfl | rw [← hcc], by go_num, hN, hb⟩
          case measure => simp [intOf]; omega
        · have f1 : ((str t).toList == [37]) = false := by rw [toList_str, h]; rfl
          have f2 : ((str t).toList == [95]) = false := by rw [toList_str, h]; rfl
          have f3 : ((str t).toList == [92]) = true := by rw [toList_str, h]; rfl
          clear h
          go_wp2
          go_roundw
          case rel => exact ⟨k + 1, acc ++ 92 :: t, by omega, by first | rfl | rw [← hcc], by go_num, hN, hb⟩
          case measure => simp [intOf]; omega
      · have he : (escL t).flatten = t := by rw [escL, if_neg hsp]; simp
        rw [he] at hnx hnl
        have hN := Lib.hid hnx
        have hsa : (str acc).size = acc.length := rfl
        have hsx : (str t).size = t.length := rfl
        have hcc : str acc ++ str t = str (acc ++ t) := str_append _ _
        simp only [special, Bool.or_eq_true, beq_iff_eq, not_or] at hsp
        obtain ⟨⟨h1, h2⟩, h3⟩ := hsp
        have f1 : ((str t).toList == [37]) = false := by rw [toList_str]; simpa using h1
        have f2 : ((str t).toList == [95]) = false := by rw [toList_str]; simpa using h2
        have f3 : ((str t).toList == [92]) = false := by rw [toList_str]; simpa using h3
        clear hnx he HA h1 h2 h3
        go_wp2
        go_roundw
        case rel => exact ⟨k + 1, acc ++ t, by omega, by first | rfl | rw [← hcc], by go_num, hN, hb⟩
        case measure => simp [intOf]; omega
    · obtain rfl : k = ln := by omega
      have he : acc = quote l := by have := HA.out; rw [← hll, List.drop_length] at this; simpa using this
      have hE := Lib.hid he
      clear he HA
      go_wp2
      go_ret
      exact ⟨by rw [← hE.out]; rfl, hb1.trans (hb.mono hbs1)⟩
end Go.Proofs.YtjhaebhhdgjebaaDoor
