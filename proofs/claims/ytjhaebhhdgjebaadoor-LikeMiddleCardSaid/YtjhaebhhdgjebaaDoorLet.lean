/-
  PROVED: Letters gives a text letter by letter (letters_any); few gives the first 300 bytes (few_any). Conditions: the text has at most 100000 bytes (Letters).
-/
import Derived.Test.YtjhaebhhdgjebaaDoorM
namespace Go.Proofs.YtjhaebhhdgjebaaDoor
open Go.RowKit Like
def few (l : L) : L := l.take 300
theorem few_any (l : L) (w : World) (hl : l.length ≤ 9223372036854775807) :
    Calls Tryd.prog 9 #[.string (str l)] w fun e w' => e = .returned (.string (str (few l))) ∧ w = w' := by
  have hsz : ((str l).size : Int) = (l.length : Int) := rfl
  by_cases h : l.length ≤ 300
  · have hcut := fun w => run_subTo l l.length (l.length : Int) rfl (Nat.le_refl _) w
    rw [List.take_length] at hcut
    have he : few l = l := List.take_of_length_le h
    rw [he]
    clear he
    go_enter Tryd.func9, Tryd.ntmps9
    go_wp2
    go_ret
    exact ⟨rfl, rfl⟩
  · have hcut := fun w => run_subTo l 300 (300 : Int) rfl (by omega) w
    have he : few l = l.take 300 := rfl
    rw [he]
    clear he
    go_enter Tryd.func9, Tryd.ntmps9
    go_wp2
    go_ret
    exact ⟨rfl, rfl⟩
/-- where Letters stands: the iterator at pos, the letter before begins at f -/
def LetAt (l : L) (pos f : Nat) (acc : List L) : Prop := f ≤ pos ∧ pos ≤ l.length ∧ ((pos = 0 ∧ f = 0 ∧ acc = []) ∨ (f < pos ∧ acc ++ ((l.drop f).take (pos - f)) :: letters (l.drop pos) = letters l))
theorem LetAt.first {l : L} (h : 0 < l.length) : LetAt l (Lib.decodeL l).2 0 [] := by
  have hne : l ≠ [] := List.length_pos_iff.1 h
  have hw := Lib.decodeL_width l
  have hle := Lib.decodeL_le l hne
  exact ⟨Nat.zero_le _, hle, Or.inr ⟨hw, by rw [letters_step l hne]; rfl⟩⟩
theorem LetAt.next {l : L} {pos f : Nat} {acc : List L} (h : LetAt l pos f acc) (hf : f < pos) (hp : pos < l.length) : LetAt l (pos + (Lib.decodeL (l.drop pos)).2) pos (acc ++ [(l.drop f).take (pos - f)]) := by
  have hne : l.drop pos ≠ [] := by
    intro h0
    have := congrArg List.length h0
    rw [List.length_drop, List.length_nil] at this
    omega
  have hw := Lib.decodeL_width (l.drop pos)
  have hle := Lib.decodeL_le (l.drop pos) hne
  rw [List.length_drop] at hle
  obtain ⟨h1, h2, ⟨h3, _⟩ | ⟨_, h4⟩⟩ := h
  · omega
  refine ⟨by omega, by omega, Or.inr ⟨by omega, ?_⟩⟩
  rw [← h4, letters_step _ hne, List.append_assoc, List.drop_drop, Nat.add_sub_cancel_left]
  rfl
theorem LetAt.end {l : L} {f : Nat} {acc : List L} (h : LetAt l l.length f acc) (hf : f < l.length) : acc ++ [l.drop f] = letters l := by
  obtain ⟨h1, h2, ⟨h3, h4, _⟩ | ⟨_, h4⟩⟩ := h
  · omega
  rw [List.drop_length, List.take_of_length_le (by rw [List.length_drop]; omega)] at h4
  exact h4
theorem LetAt.empty {l : L} {pos f : Nat} {acc : List L} (h : LetAt l pos f acc) (hf : l.length ≤ f) : acc = letters l ∧ f = pos := by
  obtain ⟨h1, h2, ⟨h3, h4, h5⟩ | ⟨h3, h4⟩⟩ := h
  · have : l = [] := List.eq_nil_of_length_eq_zero (by omega)
    subst this
    exact ⟨h5, by omega⟩
  · omega
/-- the letters of l, in a slice of the call's own -/
def RetL (l : L) (w : World) (e : Ending) (w' : World) : Prop := ∃ a n c, e = .returned (.slice a n c) ∧ OwnS w' w.heap.size a n c (letters l) ∧ Below w.heap.size w w'
set_option maxRecDepth 100000 in
theorem letters_any (l : L) (w : World) (hl : l.length ≤ 100000) :
    Calls Tryd.prog 15 #[.string (str l)] w (RetL l w) := by
  have hsz : ((str l).size : Int) = (l.length : Int) := rfl
  go_enter Tryd.func15, Tryd.ntmps15
  go_wp2
  go_loopw [3, 4] (fun x f wr => ∃ (pos from_ : Nat) (acc : List L), f = .int .i64 from_ ∧ LetAt l pos from_ acc ∧ acc.length ≤ pos ∧ wr.heap[w.heap.size]? = some (.stringIter (str l) pos) ∧ Below w.heap.size w wr ∧ ∃ a n c, x = .slice a n c ∧ OwnS wr w.heap.size a n c acc) (fun _ _ wr => l.length - wr.iterPos w.heap.size)
  case atStart =>
    refine ⟨0, 0, [], rfl, ⟨Nat.le_refl _, Nat.zero_le _, Or.inl ⟨rfl, rfl, rfl⟩⟩, Nat.le_refl _, ?_, (Below.refl _ w).alloc (Nat.le_refl _) _, none, 0, 0, rfl, OwnS.nil _ _⟩
    exact World.iter_heap w (str l) 0
  case round =>
    obtain ⟨pos, f, acc, rfl, hat, hal, hit, hb, xa, n, c, rfl, hown⟩ := hrel
    have hfp : f ≤ pos := hat.1
    have hpl : pos ≤ l.length := hat.2.1
    have hiter : wr.iterPos w.heap.size = pos := by simp only [World.iterPos, hit]
    have hn : acc.length = n := hown.1
    by_cases hp : pos < l.length
    · have hnx : ∀ ty, (Instr.next (.pointer (some ⟨w.heap.size, 0, none⟩)) true ty).run Tryd.prog wr = _ := fun ty => Lib.run_next_any_at wr w.heap.size (str l) pos ty hit hp
      rw [decode_str] at hnx
      have hw := Lib.decodeL_width (l.drop pos)
      have hit2 := Lib.iterAt_heap wr w.heap.size (str l) pos (pos + (Lib.decodeL (l.drop pos)).2) hit
      have hb2 := Lib.below_iterAt hb (k := w.heap.size) (Nat.le_refl _) (str l) (pos + (Lib.decodeL (l.drop pos)).2)
      have hown2 := hown.iterAt hit (pos + (Lib.decodeL (l.drop pos)).2)
      have hbs2 : w.heap.size ≤ (wr.iterAt w.heap.size (str l) (pos + (Lib.decodeL (l.drop pos)).2)).heap.size := hb2.size
      by_cases hf : f < pos
      · have hnext := hat.next hf hp
        have hcut := fun w => run_sub l f pos hfp hpl w
        have HN := Lib.hid hnext
        clear hnext hat
        generalize wr.iterAt w.heap.size (str l) (pos + (Lib.decodeL (l.drop pos)).2) = w2 at *
        generalize (Lib.decodeL (l.drop pos)).2 = wd at *
        go_wp2_with (at_builtin; refine appendS rfl (.tmp 14) (.tmp 19) rfl w.heap.size xa n c acc rfl hown2 _ rfl (by omega) hbs2 ?_; intro a' c' w3 ho3 hg3)
        go_roundw
        case rel =>
          refine ⟨pos + wd, pos, _, rfl, HN.out, by simp; omega, (hown2.alloc _).iter hg3 (alloc_iter hit2 _), ?_, a', n + 1, c', rfl, ho3⟩
          exact (hown2.alloc _).below (hb2.alloc hbs2 _) hg3 (by rw [World.size_alloc]; omega)
        case measure =>
          rw [hiter]
          have : w3.iterPos w.heap.size = pos + wd := by simp only [World.iterPos, (hown2.alloc _).iter hg3 (alloc_iter hit2 _)]
          omega
      · have hz : pos = 0 ∧ f = 0 ∧ acc = [] := by
          rcases hat.2.2 with h | h
          · exact h
          · omega
        obtain ⟨rfl, rfl, rfl⟩ := hz
        have hfirst := LetAt.first hp
        have HN := Lib.hid hfirst
        clear hfirst hat
        rw [List.drop_zero] at *
        generalize wr.iterAt w.heap.size (str l) (0 + (Lib.decodeL l).2) = w2 at *
        generalize (Lib.decodeL l).2 = wd at *
        go_wp2
        go_roundw
        case rel => exact ⟨0 + wd, 0, [], rfl, by rw [Nat.zero_add]; exact HN.out, by simp, hit2, hb2, xa, n, c, rfl, hown2⟩
        case measure =>
          rw [hiter]
          have : w2.iterPos w.heap.size = 0 + wd := by simp only [World.iterPos, hit2]
          omega
    · obtain rfl : pos = l.length := by omega
      have hnx : ∀ ty, (Instr.next (.pointer (some ⟨w.heap.size, 0, none⟩)) true ty).run Tryd.prog wr = _ := fun ty => Lib.run_next_end_at wr w.heap.size (str l) l.length ty hit hp
      have hbs := hb.size
      by_cases hf : f < l.length
      · have hend := hat.end hf
        have hcut := fun w => run_subFrom l f hfp w
        have HE := Lib.hid hend
        clear hend hat
        go_wp2_with (at_builtin; refine appendS rfl (.tmp 26) (.tmp 30) rfl w.heap.size xa n c acc rfl hown _ rfl (by omega) hbs ?_; intro a' c' w3 ho3 hg3)
        go_ret
        refine ⟨a', n + 1, c', rfl, by rw [← HE.out]; exact ho3, ?_⟩
        exact (hown.alloc _).below (hb.alloc hbs _) hg3 (by rw [World.size_alloc]; omega)
      · have hend := hat.empty (by omega)
        go_wp2
        go_ret
        exact ⟨xa, n, c, rfl, by rw [← hend.1]; exact hown, hb⟩
end Go.Proofs.YtjhaebhhdgjebaaDoor
