/-
  PROVED: the walk of the law LikeSelf: it returns true and changes nothing that was there (self_walk). Conditions: none beside the texts' form.
-/
import Derived.Test.YtjhaebhhdgjebaaS
namespace Go.Proofs.Ytjhaebhhdgjebaa
open Go.RowKit Like
theorem str_append (a b : L) : str a ++ str b = str (a ++ b) := by
  apply ByteArray.ext
  apply Array.toList_inj.1
  simp [str]
theorem few_length (l : L) : (few l).length ≤ 300 := by unfold few; rw [List.length_take]; omega
theorem escL_length : ∀ ls : List L, (ls.flatMap escL).flatten.length ≤ ls.flatten.length + ls.length
  | [] => Nat.le_refl _
  | x :: r => by
    have ih := escL_length r
    rw [List.flatMap_cons, List.flatten_append, List.length_append, List.flatten_cons, List.length_append, List.length_cons]
    have : (escL x).flatten.length ≤ 1 + x.length := by
      unfold escL
      split
      · simp; omega
      · simp
    omega
theorem quote_length (l : L) : (quote l).length ≤ 2 * l.length := by
  have h1 := escL_length (letters l)
  have h2 := letters_length l
  rw [letters_flat] at h1
  unfold quote
  omega
def WildAt (l : L) (pos n : Nat) : Prop := pos ≤ l.length ∧ n + (letters (l.drop pos)).length = (letters l).length ∧ n ≤ pos
theorem WildAt.next {l : L} {pos n : Nat} (h : WildAt l pos n) (hp : pos < l.length) : WildAt l (pos + (Lib.decodeL (l.drop pos)).2) (n + 1) := by
  have hw := Lib.decodeL_width (l.drop pos)
  refine ⟨ParAt.bound hp, ?_, by have := h.2.2; omega⟩
  have h2 := h.2.1
  rw [letters_step _ (drop_ne hp), List.drop_drop, List.length_cons] at h2
  omega
theorem wild_snoc (n : Nat) : wild n ++ [95] = wild (n + 1) := by unfold wild; rw [List.replicate_succ']
theorem wild_length (n : Nat) : (wild n).length = n := by unfold wild; rw [List.length_replicate]
set_option maxRecDepth 100000 in
set_option maxHeartbeats 1000000 in
theorem self_walk (s t : L) (hs : s.length ≤ 9223372036854775807) (ht : t.length ≤ 9223372036854775807) (w : World) :
    Calls Try.prog 3 #[.string (str s), .string (str t)] w (RetI true w) := by
  have ha := few_length s
  have hb := few_length t
  have FA := Lib.hid (fun w => few_any s w hs)
  have FB := Lib.hid (fun w => few_any t w ht)
  generalize few s = a at *
  generalize few t = b at *
  have hql := quote_length a
  have hqa := like_quote_self a
  have hqb := like_quote_eq a b
  have hal := letters_length a
  have hc : ∀ n, str (wild n) ++ { data := #[95] } = str (wild (n + 1)) := fun n => by rw [← wild_snoc]; exact str_append _ [95]
  have hc3 : ∀ n, str (wild n) ++ { data := #[37] } = str (wild n ++ [37]) := fun n => str_append _ [37]
  have hc4 : ∀ n, { data := #[37] } ++ str (wild n) = str (37 :: wild n) := fun n => str_append [37] _
  have hsz : ∀ n, (str (wild n)).size = n := fun n => by rw [str_size, wild_length]
  have W1 := like_wild1 a
  have W2 := like_wild2 a
  have W3 := like_wild3 a
  have W4 := like_wild4 a
  have W0 := like_some a
  rw [wild_snoc] at W2
  have Q1 := Lib.hid (fun w => is_at (quote a) a true hqa (by omega) (by omega) w)
  have Q2 := Lib.hid (fun w => is_at (quote a) b (a == b) hqb (by omega) (by omega) w)
  have Q3 : Hid (∀ w, Calls Try.prog 7 #[.string { data := #[37] }, .string (str a)] w (RetI true w)) := Lib.hid (fun w => is_at [37] a true W0 (by decide) (by omega) w)
  have Q4 := Lib.hid (fun w => is_at _ a true W1 (by rw [wild_length]; omega) (by omega) w)
  have Q5 := Lib.hid (fun w => is_at _ a false W2 (by rw [wild_length]; omega) (by omega) w)
  have Q6 := Lib.hid (fun w => is_at _ a true W3 (by rw [List.length_append, wild_length]; simp; omega) (by omega) w)
  have Q7 := Lib.hid (fun w => is_at _ a true W4 (by rw [List.length_cons, wild_length]; omega) (by omega) w)
  have QT := Lib.hid (fun w => quote_any a w (by omega))
  have HA : ((str a).toList == (str b).toList) = (a == b) := by rw [toList_str, toList_str]
  clear hqa hqb W0 W1 W2 W3 W4
  generalize quote a = q at *
  go_enter Try.func3, Try.ntmps3
  go_wp2_with fail
  refine (shown_any _).mono ?_
  rintro e w1 ⟨rfl, b1⟩
  go_wp2_with fail
  refine (FA.out _).mono ?_
  rintro e w2 ⟨rfl, rfl⟩
  go_wp2_with fail
  refine (FB.out _).mono ?_
  rintro e w2 ⟨rfl, rfl⟩
  go_wp2_with fail
  refine (QT.out _).mono ?_
  rintro e w2 ⟨rfl, hb2⟩
  have b2 := b1.trans (hb2.mono b1.size)
  clear hb2
  go_wp2_with fail
  go_loopw [9] (fun x wr => ∃ pos n : Nat, x = .string (str (wild n)) ∧ Hid (WildAt a pos n) ∧ n ≤ 300 ∧ pos ≤ a.length ∧ wr.heap[w2.heap.size]? = some (.stringIter (str a) pos) ∧ Below w.heap.size w wr) (fun _ wr => a.length - wr.iterPos w2.heap.size)
  case atStart =>
    refine ⟨0, 0, rfl, ⟨Nat.zero_le _, by simp, Nat.le_refl _⟩, by omega, by omega, ?_, b2.alloc b2.size _⟩
    exact World.iter_heap w2 (str a) 0
  case round =>
    obtain ⟨pos, n, rfl, HW, hn3, hpl, hit, hbw⟩ := hrel
    have hiter : wr.iterPos w2.heap.size = pos := by simp only [World.iterPos, hit]
    have hb2s := b2.size
    by_cases hp : pos < a.length
    · have hnx : ∀ ty, (Instr.next (.pointer (some ⟨w2.heap.size, 0, none⟩)) true ty).run Try.prog wr = _ := fun ty => Lib.run_next_any_at wr w2.heap.size (str a) pos ty hit hp
      rw [decode_str] at hnx
      have hwd := Lib.decodeL_width (a.drop pos)
      have hnext := HW.out.next hp
      have hbound := ParAt.bound hp
      have hnn : n + 1 ≤ 300 := by have := hnext.1; have := hnext.2.2; have := HW.out.2.2; omega
      have HN := Lib.hid hnext
      have hit3 := Lib.iterAt_heap wr w2.heap.size (str a) pos (pos + (Lib.decodeL (a.drop pos)).2) hit
      have hb3 := Lib.below_iterAt hbw (k := w2.heap.size) (by omega) (str a) (pos + (Lib.decodeL (a.drop pos)).2)
      have hcn := hc n
      have hszn := hsz n
      clear hnext HW hit hc hc3 hc4 hsz
      generalize wr.iterAt w2.heap.size (str a) (pos + (Lib.decodeL (a.drop pos)).2) = w3 at *
      generalize (Lib.decodeL (a.drop pos)).2 = wd at *
      go_wp2
      go_roundw
      case rel => exact ⟨pos + wd, n + 1, by first | rfl | rw [hcn], HN, hnn, hbound, hit3, hb3⟩
      case measure =>
        rw [hiter]
        have : w3.iterPos w2.heap.size = pos + wd := by simp only [World.iterPos, hit3]
        omega
    · obtain rfl : pos = a.length := by omega
      have hnx : ∀ ty, (Instr.next (.pointer (some ⟨w2.heap.size, 0, none⟩)) true ty).run Try.prog wr = _ := fun ty => Lib.run_next_end_at wr w2.heap.size (str a) a.length ty hit hp
      have hnl : n = (letters a).length := by
        have := HW.out.2.1
        rw [List.drop_length, letters_nil] at this
        simpa using this
      subst hnl
      have h1 := hc (letters a).length
      have h1s := hsz (letters a).length
      have h3 := hc3 (letters a).length
      have h4 := hc4 (letters a).length
      clear hc hc3 hc4 HW hsz
      generalize (letters a).length = n at *
      go_wp2_with fail
      refine (Q1.out _).mono ?_
      rintro e w3 ⟨rfl, hb⟩
      have b3 := hbw.trans (hb.mono hbw.size)
      clear hb
      go_wp2_with fail
      refine (Q2.out _).mono ?_
      rintro e w4 ⟨rfl, hb⟩
      have b4 := b3.trans (hb.mono b3.size)
      clear hb
      go_wp2_with fail
      refine (Q3.out _).mono ?_
      rintro e w5 ⟨rfl, hb⟩
      have b5 := b4.trans (hb.mono b4.size)
      clear hb
      go_wp2_with fail
      refine (Q4.out _).mono ?_
      rintro e w6 ⟨rfl, hb⟩
      have b6 := b5.trans (hb.mono b5.size)
      clear hb
      go_wp2_with fail
      refine (Q5.out _).mono ?_
      rintro e w7 ⟨rfl, hb⟩
      have b7 := b6.trans (hb.mono b6.size)
      clear hb
      go_wp2_with fail
      refine (Q6.out _).mono ?_
      rintro e w8 ⟨rfl, hb⟩
      have b8 := b7.trans (hb.mono b7.size)
      clear hb
      go_wp2_with fail
      refine (Q7.out _).mono ?_
      rintro e w9 ⟨rfl, hb⟩
      have b9 := b8.trans (hb.mono b8.size)
      clear hb
      go_wp2
      go_ret
      exact ⟨rfl, b9⟩
end Go.Proofs.Ytjhaebhhdgjebaa
