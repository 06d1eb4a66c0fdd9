/-
  PROVED: the reference's Letters gives a text letter by letter (refLetters_any), Same tells lists alike (same_any), Quote gives a text's quote (refQuote_any); like.Check (check_any). Conditions: the library's tables lie as they are laid; the texts have at most 100000 bytes.
-/
import Derived.Test.YtjhaebhhdgjebaaDoorS
namespace Go.Proofs.YtjhaebhhdgjebaaDoor
open Go.RowKit Like
def Tabs (w : World) : Prop := Lib.Utf8Tabs 0 1 w
theorem Tabs.below {w w' : World} (h : Tabs w) (hb : Below w.heap.size w w') : Tabs w' := Utf8Tabs_below h hb
def RetN (n : Int) (w : World) (e : Ending) (w' : World) : Prop := e = .returned (.int .i64 n) ∧ Below w.heap.size w w'
theorem check_any (p : L) (w : World) (hp : p.length ≤ 100000) : Calls Tryd.prog 11 #[.string (str p)] w (RetN (checkN p) w) := by
  rcases checkN_cases p with ⟨h, hok⟩ | ⟨h, hok⟩
  · rw [h]
    go_enter Tryd.func11, Tryd.ntmps11
    go_wp2_with fail
    refine (parts_any p _ hp).mono ?_
    rintro e w1 ⟨pa, pn, pc, rfl, hop, hb1⟩
    rw [hok]
    clear hop
    go_wp2
    go_ret
    exact ⟨rfl, hb1⟩
  · rw [h]
    go_enter Tryd.func11, Tryd.ntmps11
    go_wp2_with fail
    refine (parts_any p _ hp).mono ?_
    rintro e w1 ⟨pa, pn, pc, rfl, hop, hb1⟩
    rw [hok]
    clear hop
    go_wp2
    go_ret
    exact ⟨rfl, hb1⟩
theorem decode_any (l : L) (hne : l ≠ []) (w : World) (hT : Tabs w) :
    Calls Tryd.prog 29 #[.string (str l)] w fun e w' => e = .returned (.tuple #[.int .i32 (Lib.decodeL l).1, .int .i64 (Lib.decodeL l).2]) ∧ Below w.heap.size w w' := by
  have h := Tryd.utf8_DecodeRuneInString (str l) w hT
  have hs : (str l).size ≠ 0 := by rw [str_size]; exact fun h => hne (List.eq_nil_of_length_eq_zero h)
  have e : Lib.decodeGo (str l) = Lib.decodeL l := by
    unfold Lib.decodeGo
    rw [if_neg hs, decode_str, List.drop_zero]
  rw [e] at h
  exact h
def strLen : Value → Nat
  | .string s => s.size
  | _ => 0
set_option maxRecDepth 100000 in
theorem refLetters_any (l : L) (w : World) (hl : l.length ≤ 100000) (hT : Tabs w) :
    Calls Tryd.prog 20 #[.string (str l)] w (RetL l w) := by
  go_enter Tryd.func20, Tryd.ntmps20
  go_wp2
  go_loopw [0, 3] (fun s x wr => ∃ (r : L) (acc : List L), s = .string (str r) ∧ Hid (acc ++ letters r = letters l) ∧ acc.length + r.length ≤ l.length ∧ Below w.heap.size w wr ∧ ∃ a n c, x = .slice a n c ∧ OwnS wr w.heap.size a n c acc) (fun s _ _ => strLen s)
  case atStart => exact ⟨l, [], rfl, rfl, by simp, Below.refl _ _, none, 0, 0, rfl, OwnS.nil _ _⟩
  case round =>
    obtain ⟨r, acc, rfl, HA, hal, hb, xa, n, c, rfl, hown⟩ := hrel
    have hn : acc.length = n := hown.1
    have hbs := hb.size
    have hsz : ((str r).size : Int) = (r.length : Int) := rfl
    by_cases h0 : 0 < r.length
    · have hne : r ≠ [] := List.length_pos_iff.1 h0
      have hw := Lib.decodeL_width r
      have hle := Lib.decodeL_le r hne
      have hnext : (acc ++ [r.take (Lib.decodeL r).2]) ++ letters (r.drop (Lib.decodeL r).2) = letters l := by
        rw [← HA.out, letters_step r hne, List.append_assoc]
        rfl
      have HN := Lib.hid hnext
      have hcut1 := fun w => run_subTo r (Lib.decodeL r).2 ((Lib.decodeL r).2 : Int) rfl hle w
      have hcut2 := fun w => run_subFrom r (Lib.decodeL r).2 hle w
      have hD := Lib.hid (decode_any r hne wr (hT.below hb))
      have hlen : (r.drop (Lib.decodeL r).2).length = r.length - (Lib.decodeL r).2 := List.length_drop ..
      have hls : strLen (.string (str (r.drop (Lib.decodeL r).2))) = r.length - (Lib.decodeL r).2 := hlen
      clear hnext HA hne
      generalize r.take (Lib.decodeL r).2 = t at *
      generalize r.drop (Lib.decodeL r).2 = r2 at *
      generalize (Lib.decodeL r).2 = wd at *
      generalize (Lib.decodeL r).1 = rn at *
      go_wp2_with fail
      refine hD.out.mono ?_
      rintro e w2 ⟨rfl, hb2⟩
      have ho2 := hown.of_below hb2
      have hb2' := hb.trans (hb2.mono hbs)
      have hbs2 := hb2'.size
      clear hD
      go_wp2_with (at_builtin; refine appendS rfl (.tmp 14) (.tmp 18) rfl w.heap.size xa n c acc rfl ho2 _ rfl (by omega) hbs2 ?_; intro a' c' w3 ho3 hg3)
      have hb3 := (ho2.alloc _).below (hb2'.alloc hbs2 _) hg3 (by rw [World.size_alloc]; omega)
      go_wp2
      go_roundw
      case rel => exact ⟨r2, acc ++ [t], rfl, HN, by simp; omega, hb3, a', n + 1, c', rfl, ho3⟩
      case measure =>
        rw [hls]
        show _ < r.length
        omega
    · have hz : r = [] := List.eq_nil_of_length_eq_zero (by omega)
      subst hz
      have he : acc = letters l := by rw [← HA.out, letters_nil, List.append_nil]
      go_wp2
      go_ret
      exact ⟨xa, n, c, rfl, by rw [← he]; exact hown, hb⟩
/-! ### Same -/
set_option maxRecDepth 100000 in
theorem same_any (a1 a2 : Option Addr) (n c1 c2 : Nat) (ts : List L) (w : World) (h1 : SRd w a1 n ts) (h2 : SRd w a2 n ts) (hn : n ≤ 100000) :
    Calls Tryd.prog 19 #[.slice a1 n c1, .slice a2 n c2] w fun e w' => e = .returned (.bool true) ∧ Below w.heap.size w w' := by
  go_enter Tryd.func19, Tryd.ntmps19
  go_wp2_with fail
  go_loopw [5] (fun i wr => ∃ k : Nat, k ≤ n ∧ i = .int .i64 k ∧ Below w.heap.size w wr) (fun i _ => n - (intOf i).toNat)
  case atStart => exact ⟨0, by omega, rfl, Below.refl _ _⟩
  case round =>
    obtain ⟨k, hk, rfl, hb⟩ := hrel
    by_cases hlt : k < n
    · obtain ⟨b1, t, e1, rfl, hb1, hc1⟩ := (h1.below hb).at k hlt
      obtain ⟨b2, t', e2, rfl, hb2, hc2⟩ := (h2.below hb).at k hlt
      obtain rfl : t = t' := by rw [e1] at e2; exact Option.some.inj e2
      clear e1 e2
      go_wp2_with fail
      go_quiet (fail)
      go_wp2
      go_roundw
      case rel => exact ⟨k + 1, by omega, by go_num, hb.dN _⟩
      case measure => simp [intOf]; omega
    · go_wp2
      go_ret
      exact ⟨rfl, hb⟩
end Go.Proofs.YtjhaebhhdgjebaaDoor
