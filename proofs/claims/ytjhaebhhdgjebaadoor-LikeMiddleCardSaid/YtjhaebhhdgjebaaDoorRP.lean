/-
  PROVED: the reference's Parts gives a pattern's parts, and whether it is one (refParts_any); its Check, Fixed, Quote (refCheck_any, refFixed_any, refQuote_any). Conditions: the library's tables lie as they are laid; the texts have at most 100000 bytes.
-/
import Derived.Test.YtjhaebhhdgjebaaDoorRL
namespace Go.Proofs.YtjhaebhhdgjebaaDoor
open Go.RowKit Like
theorem info_qart : (Tryd.prog.info? 63).map (fun i => (i.zero, i.size, i.bytes)) = some (some (.agg #[.bool false, .bool false, .string { data := #[] }]), 3, 24) := by kernel_rfl
def pa : P → Bool
  | .any => true
  | _ => false
def po : P → Bool
  | .one => true
  | _ => false
def qv (p : P) : List Value := [.bool (pa p), .bool (po p), .string (str (pl p))]
def QRd (w : World) (a : Option Addr) (n : Nat) (ps : List P) : Prop := ps.length = n ∧ ∀ i p, ps[i]? = some p → ∃ b, a = some ⟨b, 0, none⟩ ∧ b < w.heap.size ∧ w.cell? ⟨b, i * 3, none⟩ = some (.bool (pa p)) ∧ w.cell? ⟨b, i * 3 + 1, none⟩ = some (.bool (po p)) ∧ w.cell? ⟨b, i * 3 + 2, none⟩ = some (.string (str (pl p)))
theorem QRd.below {w w' : World} {a : Option Addr} {n : Nat} {ps : List P} (h : QRd w a n ps) (hb : Below w.heap.size w w') : QRd w' a n ps := by
  refine ⟨h.1, fun i p hi => ?_⟩
  obtain ⟨b, ha, hlt, hc, hd, he⟩ := h.2 i p hi
  exact ⟨b, ha, Nat.lt_of_lt_of_le hlt hb.size, by rw [hb.cell (p := ⟨b, i * 3, none⟩) hlt]; exact hc, by rw [hb.cell (p := ⟨b, i * 3 + 1, none⟩) hlt]; exact hd, by rw [hb.cell (p := ⟨b, i * 3 + 2, none⟩) hlt]; exact he⟩
theorem QRd.at {w : World} {a : Option Addr} {n : Nat} {ps : List P} (h : QRd w a n ps) (i : Nat) (hi : i < n) : ∃ b p, ps[i]? = some p ∧ a = some ⟨b, 0, none⟩ ∧ b < w.heap.size ∧ w.cell? ⟨b, i * 3, none⟩ = some (.bool (pa p)) ∧ w.cell? ⟨b, i * 3 + 1, none⟩ = some (.bool (po p)) ∧ w.cell? ⟨b, i * 3 + 2, none⟩ = some (.string (str (pl p))) := by
  have hl : i < ps.length := by rw [h.1]; exact hi
  obtain ⟨b, h1, h2, h3, h4, h5⟩ := h.2 i ps[i] (List.getElem?_eq_getElem hl)
  exact ⟨b, ps[i], List.getElem?_eq_getElem hl, h1, h2, h3, h4, h5⟩
def OwnQ (w : World) (base : Nat) (a : Option Addr) (n c : Nat) (ps : List P) : Prop := ps.length = n ∧ w.ownsRow base 63 3 (.slice a n c) n (ps.flatMap qv)
theorem flatMap_qv_length : ∀ ps : List P, (ps.flatMap qv).length = ps.length * 3
  | [] => rfl
  | p :: r => by
    rw [List.flatMap_cons, List.length_append, flatMap_qv_length r, List.length_cons]
    show 3 + _ = _
    omega
theorem flatMap_qv_at : ∀ (ps : List P) (i : Nat) (p : P), ps[i]? = some p → (ps.flatMap qv)[i * 3]? = some (.bool (pa p)) ∧ (ps.flatMap qv)[i * 3 + 1]? = some (.bool (po p)) ∧ (ps.flatMap qv)[i * 3 + 2]? = some (.string (str (pl p)))
  | [], i, p, h => by simp at h
  | q :: r, 0, p, h => by
    simp at h
    subst h
    exact ⟨rfl, rfl, rfl⟩
  | q :: r, i + 1, p, h => by
    have ih := flatMap_qv_at r i p (by simpa using h)
    rw [List.flatMap_cons]
    have e1 : (i + 1) * 3 = (qv q).length + i * 3 := by show _ = 3 + _; omega
    have e2 : (i + 1) * 3 + 1 = (qv q).length + (i * 3 + 1) := by show _ = 3 + _; omega
    have e3 : (i + 1) * 3 + 2 = (qv q).length + (i * 3 + 2) := by show _ = 3 + _; omega
    rw [e3, e2, e1]
    rw [List.getElem?_append_right (Nat.le_add_right _ _), List.getElem?_append_right (Nat.le_add_right _ _), List.getElem?_append_right (Nat.le_add_right _ _), Nat.add_sub_cancel_left, Nat.add_sub_cancel_left, Nat.add_sub_cancel_left]
    exact ih
theorem OwnQ.nil (w : World) (base : Nat) : OwnQ w base none 0 0 [] := ⟨rfl, World.ownsRow_nil _ _ _ _⟩
theorem OwnQ.alloc {w : World} {base : Nat} {a : Option Addr} {n c : Nat} {ts : List P} (h : OwnQ w base a n c ts) (o : Obj) : OwnQ (w.alloc o) base a n c ts := ⟨h.1, h.2.alloc o⟩
theorem OwnQ.lower {w : World} {base base' : Nat} {a : Option Addr} {n c : Nat} {ts : List P} (h : OwnQ w base a n c ts) (hb : base' ≤ base) : OwnQ w base' a n c ts := by
  refine ⟨h.1, h.2.1, ?_⟩
  rcases h.2.2 with hv | ⟨g, c', cur, hv, hg, r⟩
  · exact Or.inl hv
  · exact Or.inr ⟨g, c', cur, hv, Nat.le_trans hb hg, r⟩
theorem OwnQ.form {w : World} {base : Nat} {v : Value} {n : Nat} {ps : List P} (hl : ps.length = n) (h : w.ownsRow base 63 3 v n (ps.flatMap qv)) : ∃ a c, v = .slice a n c ∧ OwnQ w base a n c ps := by
  have h2 := h
  obtain ⟨_, h3⟩ := h
  rcases h3 with ⟨rfl, rfl⟩ | ⟨g, c, cur, rfl, _⟩
  · exact ⟨none, 0, rfl, hl, h2⟩
  · exact ⟨_, c, rfl, hl, h2⟩
theorem OwnQ.rd {w : World} {base : Nat} {a : Option Addr} {n c : Nat} {ps : List P} (h : OwnQ w base a n c ps) : QRd w a n ps := by
  refine ⟨h.1, fun i p hi => ?_⟩
  have hil : i < ps.length := (List.getElem?_eq_some_iff.1 hi).1
  rcases h.2.2 with ⟨_, h0⟩ | ⟨g, c', cur, hv, _⟩
  · rw [h.1] at hil; omega
  · cases hv
    obtain ⟨e1, e2, e3⟩ := flatMap_qv_at ps i p hi
    have h1 := h.2.cells (g := g) rfl _ _ e1
    have h2 := h.2.cells (g := g) rfl _ _ e2
    have h3 := h.2.cells (g := g) rfl _ _ e3
    rw [add_zero_addr] at h1 h2 h3
    exact ⟨g, rfl, (h.2.lt g rfl).2, h1, h2, h3⟩
theorem OwnQ.below {w w' W : World} {base : Nat} {a : Option Addr} {n c : Nat} {ts : List P} (h : OwnQ w base a n c ts) (hb : Below base W w) (hg : w.grownBy w' (Value.slice a n c).ownBlock) (hbase : base ≤ w.heap.size) : Below base W w' :=
  hb.grown hg hbase (fun k e => (h.2.lt k e).1)
theorem appendQ {w : World} {ops : Array Oper} {rest : List Oper} {o : Oper} {a : Act} {Q : Exit → Act → World → Prop} (hgd : o.guard = none) (s x : Operand)
    (ho : o.op = .call { callee := .builtin .append, args := #[s, x], argTypes := #[58, 58] })
    (base : Nat) (a1 : Option Addr) (n c1 : Nat) (ps : List P) (hs : a.eval s = .slice a1 n c1) (hown : OwnQ w base a1 n c1 ps)
    (p : P) (hx : a.eval x = .slice (some ⟨w.heap.size, 0, none⟩) 1 1) (hb : n ≤ 200000) (hbase : base ≤ w.heap.size)
    (h : ∀ a' c' w', OwnQ w' base a' (n + 1) c' (ps ++ [p]) → (w.alloc (.cells #[.bool (pa p), .bool (po p), .string (str (pl p))] 63)).grownBy w' (Value.slice a1 n c1).ownBlock → wpList Tryd.prog ops Q rest (a.put o.dst (.slice a' (n + 1) c')) w') :
    wpList Tryd.prog ops Q (o :: rest) a (w.alloc (.cells #[.bool (pa p), .bool (po p), .string (str (pl p))] 63)) := by
  obtain ⟨i0, hi, hz0, hz1, hz2⟩ := info_parts info_qart
  have hrow := World.ownsRow_lit (base := 0) (e := 63) (size := 3) w #[.bool (pa p), .bool (po p), .string (str (pl p))] 1 (Nat.zero_le _) (by unfold maxLen; omega) rfl
  refine wpList_append_own _ hgd s x 58 ho base 63 i0 (.agg #[.bool false, .bool false, .string { data := #[] }]) 3 24 Tryd.underlying58 hi hz0 hz1 hz2 rfl (by decide) _ n _ hs (hown.alloc _).2 ⟨w.heap.size, 0, none⟩ 1 1 (qv p) hx rfl (hrow.cells rfl) (by intro u hu; simp [qv] at hu; rcases hu with rfl | rfl | rfl <;> rfl) (by unfold maxLen; omega) (by omega) (by rw [World.size_alloc]; omega) ?_
  intro v' w' ho' hg' _
  obtain ⟨a', c', rfl, hO⟩ := OwnQ.form (n := n + 1) (ps := ps ++ [p]) (by simp [hown.1]) (by rw [List.flatMap_append]; simpa using ho')
  exact h a' c' w' hO hg'
/-- where the reference's Parts stands: i letters behind it -/
def RefAt (ls : List L) (i : Nat) (acc : List P) : Prop := acc ++ (parseE false (ls.drop i)).1 = (parse ls).1 ∧ (parseE false (ls.drop i)).2 = (parse ls).2
theorem RefAt.start (ls : List L) : RefAt ls 0 [] := ⟨rfl, rfl⟩
theorem RefAt.part {ls : List L} {i : Nat} {acc : List P} {t : L} (h : RefAt ls i acc) (hi : ls[i]? = some t) (hx : t ≠ [92]) : RefAt ls (i + 1) (acc ++ [pt t]) := by
  have hs : ∀ r, parseE false (t :: r) = consP (pt t) (parseE false r) := fun r => by simp [parseE, hx]
  obtain ⟨h1, h2⟩ := h
  rw [drop_at hi, hs] at h1 h2
  exact ⟨by rw [← h1, List.append_assoc]; rfl, h2⟩
theorem RefAt.esc {ls : List L} {i : Nat} {acc : List P} {t : L} (h : RefAt ls i acc) (hi : ls[i]? = some [92]) (ht : ls[i + 1]? = some t) : RefAt ls (i + 2) (acc ++ [.lit t]) := by
  have hs : ∀ r, parseE false ([92] :: t :: r) = consP (.lit t) (parseE false r) := fun r => by simp [parseE]
  obtain ⟨h1, h2⟩ := h
  rw [drop_at hi, drop_at ht, hs] at h1 h2
  exact ⟨by rw [← h1, List.append_assoc]; rfl, h2⟩
theorem RefAt.bad {ls : List L} {i : Nat} {acc : List P} (h : RefAt ls i acc) (hi : ls[i]? = some [92]) (hl : i + 1 = ls.length) : (parse ls).2 = false := by
  obtain ⟨h1, h2⟩ := h
  rw [drop_at hi, hl, List.drop_length] at h2
  rw [← h2]
  rfl
theorem RefAt.end {ls : List L} {acc : List P} (h : RefAt ls ls.length acc) : acc = (parse ls).1 ∧ (parse ls).2 = true := by
  obtain ⟨h1, h2⟩ := h
  rw [List.drop_length] at h1 h2
  exact ⟨by simpa [parseE] using h1, h2.symm⟩
/-- the parts, in a slice of the call's own; or none -/
def RetQ (l : L) (w : World) (e : Ending) (w' : World) : Prop := ∃ a n c, e = .returned (.tuple #[.slice a n c, .bool (parse (letters l)).2]) ∧ ((parse (letters l)).2 = true → OwnQ w' w.heap.size a n c (parse (letters l)).1) ∧ Below w.heap.size w w'
set_option maxRecDepth 100000 in
set_option maxHeartbeats 1000000 in
theorem refParts_any (l : L) (w : World) (hl : l.length ≤ 100000) (hT : Tabs w) :
    Calls Tryd.prog 28 #[.string (str l)] w (RetQ l w) := by
  go_enter Tryd.func28, Tryd.ntmps28
  go_wp2_with fail
  refine (refLetters_any l _ hl hT).mono ?_
  rintro e w1 ⟨la, ln, lc, rfl, hol, hb1⟩
  have hrl := hol.rd
  have hll : (letters l).length = ln := hol.1
  have hlll := letters_length l
  have hbs1 := hb1.size
  clear hol
  go_wp2_with fail
  go_loopw [5, 6] (fun x i wr => ∃ (k : Nat) (acc : List P), k ≤ ln ∧ i = .int .i64 k ∧ Hid (RefAt (letters l) k acc) ∧ acc.length ≤ k ∧ Below w1.heap.size w1 wr ∧ ∃ a n c, x = .slice a n c ∧ OwnQ wr w1.heap.size a n c acc) (fun _ i _ => ln - (intOf i).toNat)
  case atStart => exact ⟨0, [], by omega, rfl, RefAt.start (letters l), Nat.le_refl _, Below.refl _ _, none, 0, 0, rfl, OwnQ.nil _ _⟩
  case round =>
    obtain ⟨k, acc, hk, rfl, HA, hal, hb, xa, n, c, rfl, hown⟩ := hrel
    have hn : acc.length = n := hown.1
    have hbs := hb.size
    by_cases hlt : k < ln
    · obtain ⟨b, t, hi, rfl, hlb, hlc⟩ := (hrl.below hb).at k hlt
      by_cases h37 : t = [37]
      · subst h37
        have hnext := Lib.hid (HA.out.part hi (by decide))
        have e1 : ((str [37]).toList == [37]) = true := by rw [toList_str]; rfl
        have e2 : ((str [37]).toList == [95]) = false := by rw [toList_str]; rfl
        have e3 : ((str [37]).toList == [92]) = false := by rw [toList_str]; rfl
        go_wp2_with (at_builtin; refine appendQ rfl (.tmp 50) (.tmp 52) rfl w1.heap.size xa n c acc rfl (hown.alloc _) .any (by rw [World.size_alloc]; rfl) (by omega) (by rw [World.size_alloc]; omega) ?_; intro a' c' w3 ho3 hg3)
        have hb3 := ((hown.alloc _).alloc _).below ((hb.alloc hbs _).alloc (by rw [World.size_alloc]; omega) _) hg3 (by rw [World.size_alloc, World.size_alloc]; omega)
        go_wp2
        go_roundw
        case rel => exact ⟨k + 1, _, by omega, by go_num, hnext, by simp; omega, hb3, a', n + 1, c', rfl, ho3⟩
        case measure => simp [intOf]; omega
      by_cases h95 : t = [95]
      · subst h95
        have hnext := Lib.hid (HA.out.part hi (by decide))
        have e1 : ((str [95]).toList == [37]) = false := by rw [toList_str]; rfl
        have e2 : ((str [95]).toList == [95]) = true := by rw [toList_str]; rfl
        have e3 : ((str [95]).toList == [92]) = false := by rw [toList_str]; rfl
        go_wp2_with (at_builtin; refine appendQ rfl (.tmp 50) (.tmp 52) rfl w1.heap.size xa n c acc rfl (hown.alloc _) .one (by rw [World.size_alloc]; rfl) (by omega) (by rw [World.size_alloc]; omega) ?_; intro a' c' w3 ho3 hg3)
        have hb3 := ((hown.alloc _).alloc _).below ((hb.alloc hbs _).alloc (by rw [World.size_alloc]; omega) _) hg3 (by rw [World.size_alloc, World.size_alloc]; omega)
        go_wp2
        go_roundw
        case rel => exact ⟨k + 1, _, by omega, by go_num, hnext, by simp; omega, hb3, a', n + 1, c', rfl, ho3⟩
        case measure => simp [intOf]; omega
      by_cases h92 : t = [92]
      · subst h92
        have e1 : ((str [92]).toList == [37]) = false := by rw [toList_str]; rfl
        have e2 : ((str [92]).toList == [95]) = false := by rw [toList_str]; rfl
        have e3 : ((str [92]).toList == [92]) = true := by rw [toList_str]; rfl
        by_cases hend : k + 1 = ln
        · have hbad := Lib.hid (HA.out.bad hi (by omega))
          have hbe : ((k : Int) + 1 == (ln : Int)) = true := by simp; omega
          go_wp2
          go_ret2
          exact ⟨none, 0, 0, by rw [hbad.out]; rfl, (fun h => by rw [hbad.out] at h; cases h), hb1.trans ((hb.alloc hbs _).mono hbs1)⟩
        · obtain ⟨b2, t2, hi2, hb2, hlb2, hlc2⟩ := (hrl.below hb).at (k + 1) (by omega)
          cases hb2
          have hnext := Lib.hid (HA.out.esc hi hi2)
          have hbe : ((k : Int) + 1 == (ln : Int)) = false := by simp; omega
          go_wp2_with (at_builtin; refine appendQ rfl (.tmp 50) (.tmp 52) rfl w1.heap.size xa n c acc rfl (hown.alloc _) (.lit t2) (by rw [World.size_alloc]; rfl) (by omega) (by rw [World.size_alloc]; omega) ?_; intro a' c' w3 ho3 hg3)
          have hb3 := ((hown.alloc _).alloc _).below ((hb.alloc hbs _).alloc (by rw [World.size_alloc]; omega) _) hg3 (by rw [World.size_alloc, World.size_alloc]; omega)
          go_wp2
          go_roundw
          case rel => exact ⟨k + 2, _, by omega, by go_num, hnext, by simp; omega, hb3, a', n + 1, c', rfl, ho3⟩
          case measure => simp [intOf]; omega
      · have hpt : pt t = .lit t := by unfold pt; rw [if_neg h37, if_neg h95]
        have hnx := HA.out.part hi h92
        rw [hpt] at hnx
        have hnext := Lib.hid hnx
        have e1 : ((str t).toList == [37]) = false := by rw [toList_str]; simpa using h37
        have e2 : ((str t).toList == [95]) = false := by rw [toList_str]; simpa using h95
        have e3 : ((str t).toList == [92]) = false := by rw [toList_str]; simpa using h92
        clear hnx hpt h37 h95 h92
        go_wp2_with (at_builtin; refine appendQ rfl (.tmp 50) (.tmp 52) rfl w1.heap.size xa n c acc rfl (hown.alloc _) (.lit t) (by rw [World.size_alloc]; rfl) (by omega) (by rw [World.size_alloc]; omega) ?_; intro a' c' w3 ho3 hg3)
        have hb3 := ((hown.alloc _).alloc _).below ((hb.alloc hbs _).alloc (by rw [World.size_alloc]; omega) _) hg3 (by rw [World.size_alloc, World.size_alloc]; omega)
        go_wp2
        go_roundw
        case rel => exact ⟨k + 1, _, by omega, by go_num, hnext, by simp; omega, hb3, a', n + 1, c', rfl, ho3⟩
        case measure => simp [intOf]; omega
    · obtain rfl : k = ln := by omega
      rw [← hll] at HA
      obtain ⟨he1, he2⟩ := HA.out.end
      have E2 := Lib.hid he2
      have E1 := Lib.hid he1
      clear he1 he2
      go_wp2
      go_ret2
      refine ⟨xa, n, c, by rw [E2.out]; rfl, fun _ => ?_, hb1.trans (hb.mono hbs1)⟩
      rw [← E1.out]
      exact hown.lower hbs1
end Go.Proofs.YtjhaebhhdgjebaaDoor
