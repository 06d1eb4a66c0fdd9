/-
  PROVED: parts gives a pattern's parts, and whether it is one (parts_any); Check (check_any). Conditions: the pattern has at most 100000 bytes.
-/
import Derived.Test.YtjhaebhhdgjebaaDoorLet
namespace Go.Proofs.YtjhaebhhdgjebaaDoor
open Go.RowKit Like
/-- a part as the program holds it: its kind, its letter -/
def pk : P → Int
  | .any => 37
  | .one => 95
  | .lit _ => 0
def pl : P → L
  | .any => []
  | .one => []
  | .lit s => s
def pv (p : P) : List Value := [.int .i32 (pk p), .string (str (pl p))]
def PRd (w : World) (a : Option Addr) (n : Nat) (ps : List P) : Prop := ps.length = n ∧ ∀ i p, ps[i]? = some p → ∃ b, a = some ⟨b, 0, none⟩ ∧ b < w.heap.size ∧ w.cell? ⟨b, i * 2, none⟩ = some (.int .i32 (pk p)) ∧ w.cell? ⟨b, i * 2 + 1, none⟩ = some (.string (str (pl p)))
theorem PRd.below {w w' : World} {a : Option Addr} {n : Nat} {ps : List P} (h : PRd w a n ps) (hb : Below w.heap.size w w') : PRd w' a n ps := by
  refine ⟨h.1, fun i p hi => ?_⟩
  obtain ⟨b, ha, hlt, hc, hd⟩ := h.2 i p hi
  exact ⟨b, ha, Nat.lt_of_lt_of_le hlt hb.size, by rw [hb.cell (p := ⟨b, i * 2, none⟩) hlt]; exact hc, by rw [hb.cell (p := ⟨b, i * 2 + 1, none⟩) hlt]; exact hd⟩
theorem PRd.at {w : World} {a : Option Addr} {n : Nat} {ps : List P} (h : PRd w a n ps) (i : Nat) (hi : i < n) : ∃ b p, ps[i]? = some p ∧ a = some ⟨b, 0, none⟩ ∧ b < w.heap.size ∧ w.cell? ⟨b, i * 2, none⟩ = some (.int .i32 (pk p)) ∧ w.cell? ⟨b, i * 2 + 1, none⟩ = some (.string (str (pl p))) := by
  have hl : i < ps.length := by rw [h.1]; exact hi
  obtain ⟨b, h1, h2, h3, h4⟩ := h.2 i ps[i] (List.getElem?_eq_getElem hl)
  exact ⟨b, ps[i], List.getElem?_eq_getElem hl, h1, h2, h3, h4⟩
def OwnP (w : World) (base : Nat) (a : Option Addr) (n c : Nat) (ps : List P) : Prop := ps.length = n ∧ w.ownsRow base 45 2 (.slice a n c) n (ps.flatMap pv)
theorem flatMap_pv_length : ∀ ps : List P, (ps.flatMap pv).length = ps.length * 2
  | [] => rfl
  | p :: r => by
    rw [List.flatMap_cons, List.length_append, flatMap_pv_length r, List.length_cons]
    show 2 + _ = _
    omega
theorem flatMap_pv_at : ∀ (ps : List P) (i : Nat) (p : P), ps[i]? = some p → (ps.flatMap pv)[i * 2]? = some (.int .i32 (pk p)) ∧ (ps.flatMap pv)[i * 2 + 1]? = some (.string (str (pl p)))
  | [], i, p, h => by simp at h
  | q :: r, 0, p, h => by
    simp at h
    subst h
    exact ⟨rfl, rfl⟩
  | q :: r, i + 1, p, h => by
    have ih := flatMap_pv_at r i p (by simpa using h)
    rw [List.flatMap_cons]
    have e1 : (i + 1) * 2 = (pv q).length + i * 2 := by show _ = 2 + _; omega
    have e2 : (i + 1) * 2 + 1 = (pv q).length + (i * 2 + 1) := by show _ = 2 + _; omega
    rw [e2, e1]
    rw [List.getElem?_append_right (Nat.le_add_right _ _), List.getElem?_append_right (Nat.le_add_right _ _), Nat.add_sub_cancel_left, Nat.add_sub_cancel_left]
    exact ih
theorem OwnP.nil (w : World) (base : Nat) : OwnP w base none 0 0 [] := ⟨rfl, World.ownsRow_nil _ _ _ _⟩
theorem OwnP.alloc {w : World} {base : Nat} {a : Option Addr} {n c : Nat} {ts : List P} (h : OwnP w base a n c ts) (o : Obj) : OwnP (w.alloc o) base a n c ts := ⟨h.1, h.2.alloc o⟩
theorem OwnP.lower {w : World} {base base' : Nat} {a : Option Addr} {n c : Nat} {ts : List P} (h : OwnP w base a n c ts) (hb : base' ≤ base) : OwnP w base' a n c ts := by
  refine ⟨h.1, h.2.1, ?_⟩
  rcases h.2.2 with hv | ⟨g, c', cur, hv, hg, r⟩
  · exact Or.inl hv
  · exact Or.inr ⟨g, c', cur, hv, Nat.le_trans hb hg, r⟩
theorem OwnP.form {w : World} {base : Nat} {v : Value} {n : Nat} {ps : List P} (hl : ps.length = n) (h : w.ownsRow base 45 2 v n (ps.flatMap pv)) : ∃ a c, v = .slice a n c ∧ OwnP w base a n c ps := by
  have h2 := h
  obtain ⟨_, h3⟩ := h
  rcases h3 with ⟨rfl, rfl⟩ | ⟨g, c, cur, rfl, _⟩
  · exact ⟨none, 0, rfl, hl, h2⟩
  · exact ⟨_, c, rfl, hl, h2⟩
theorem add_zero_addr (g j : Nat) : (⟨g, 0, none⟩ : Addr).add j = ⟨g, j, none⟩ := by
  unfold Addr.add
  split
  · rename_i h0; subst h0; rfl
  · simp
theorem OwnP.rd {w : World} {base : Nat} {a : Option Addr} {n c : Nat} {ps : List P} (h : OwnP w base a n c ps) : PRd w a n ps := by
  refine ⟨h.1, fun i p hi => ?_⟩
  have hil : i < ps.length := (List.getElem?_eq_some_iff.1 hi).1
  rcases h.2.2 with ⟨_, h0⟩ | ⟨g, c', cur, hv, _⟩
  · rw [h.1] at hil; omega
  · cases hv
    obtain ⟨e1, e2⟩ := flatMap_pv_at ps i p hi
    have h1 := h.2.cells (g := g) rfl _ _ e1
    have h2 := h.2.cells (g := g) rfl _ _ e2
    rw [add_zero_addr] at h1 h2
    exact ⟨g, rfl, (h.2.lt g rfl).2, h1, h2⟩
theorem OwnP.below {w w' W : World} {base : Nat} {a : Option Addr} {n c : Nat} {ts : List P} (h : OwnP w base a n c ts) (hb : Below base W w) (hg : w.grownBy w' (Value.slice a n c).ownBlock) (hbase : base ≤ w.heap.size) : Below base W w' :=
  hb.grown hg hbase (fun k e => (h.2.lt k e).1)
theorem OwnP.iter {w w' : World} {base : Nat} {a : Option Addr} {n c : Nat} {ts : List P} (h : OwnP w base a n c ts) (hg : w.grownBy w' (Value.slice a n c).ownBlock) {k : Nat} {s : ByteArray} {pos : Nat} (hit : w.heap[k]? = some (.stringIter s pos)) : w'.heap[k]? = some (.stringIter s pos) := by
  have hlt : k < w.heap.size := (Array.getElem?_eq_some_iff.1 hit).1
  rw [hg.block k hlt ?_]
  · exact hit
  · intro e
    rcases h.2.2 with ⟨hv, _⟩ | ⟨g, c', cur, hv, _, hgc, _⟩
    · rw [hv] at e; cases e
    · rw [hv] at e
      have : k = g := Option.some.inj e
      subst this
      rw [hgc] at hit
      cases hit
theorem OwnP.iterAt {w : World} {base : Nat} {a : Option Addr} {n c : Nat} {ts : List P} (h : OwnP w base a n c ts) {k : Nat} {s : ByteArray} {pos : Nat} (hit : w.heap[k]? = some (.stringIter s pos)) (p : Nat) : OwnP (w.iterAt k s p) base a n c ts := by
  refine ⟨h.1, h.2.1, ?_⟩
  rcases h.2.2 with hv | ⟨g, c', cur, hv, hg, hgc, r⟩
  · exact Or.inl hv
  · refine Or.inr ⟨g, c', cur, hv, hg, ?_, r⟩
    rw [Lib.iterAt_other w k g s p ?_]
    · exact hgc
    · rintro rfl
      rw [hgc] at hit
      cases hit
theorem appendP {w : World} {ops : Array Oper} {rest : List Oper} {o : Oper} {a : Act} {Q : Exit → Act → World → Prop} (hgd : o.guard = none) (s x : Operand)
    (ho : o.op = .call { callee := .builtin .append, args := #[s, x], argTypes := #[37, 37] })
    (base : Nat) (a1 : Option Addr) (n c1 : Nat) (ps : List P) (hs : a.eval s = .slice a1 n c1) (hown : OwnP w base a1 n c1 ps)
    (p : P) (hx : a.eval x = .slice (some ⟨w.heap.size, 0, none⟩) 1 1) (hb : n ≤ 200000) (hbase : base ≤ w.heap.size)
    (h : ∀ a' c' w', OwnP w' base a' (n + 1) c' (ps ++ [p]) → (w.alloc (.cells #[.int .i32 (pk p), .string (str (pl p))] 45)).grownBy w' (Value.slice a1 n c1).ownBlock → wpList Tryd.prog ops Q rest (a.put o.dst (.slice a' (n + 1) c')) w') :
    wpList Tryd.prog ops Q (o :: rest) a (w.alloc (.cells #[.int .i32 (pk p), .string (str (pl p))] 45)) := by
  obtain ⟨i0, hi, hz0, hz1, hz2⟩ := info_parts info_part
  have hrow := World.ownsRow_lit (base := 0) (e := 45) (size := 2) w #[.int .i32 (pk p), .string (str (pl p))] 1 (Nat.zero_le _) (by unfold maxLen; omega) rfl
  refine wpList_append_own _ hgd s x 37 ho base 45 i0 (.agg #[.int .i32 0, .string { data := #[] }]) 2 24 Tryd.underlying37 hi hz0 hz1 hz2 rfl (by decide) _ n _ hs (hown.alloc _).2 ⟨w.heap.size, 0, none⟩ 1 1 (pv p) hx rfl (hrow.cells rfl) (by intro u hu; simp [pv] at hu; rcases hu with rfl | rfl <;> rfl) (by unfold maxLen; omega) (by omega) (by rw [World.size_alloc]; omega) ?_
  intro v' w' ho' hg' _
  obtain ⟨a', c', rfl, hO⟩ := OwnP.form (n := n + 1) (ps := ps ++ [p]) (by simp [hown.1]) (by rw [List.flatMap_append]; simpa using ho')
  exact h a' c' w' hO hg'
/-! ### parts -/
/-- where parts stands: the iterator at pos, j letters behind it, e: the letter before was an escape -/
def ParAt (l : L) (pos j : Nat) (e : Bool) (acc : List P) : Prop :=
  pos ≤ l.length ∧ (letters l).drop j = letters (l.drop pos) ∧ acc ++ (parseE e (letters (l.drop pos))).1 = (parse (letters l)).1 ∧ (parseE e (letters (l.drop pos))).2 = (parse (letters l)).2
theorem ParAt.start (l : L) : ParAt l 0 0 false [] := ⟨Nat.zero_le _, rfl, rfl, rfl⟩
theorem drop_ne {l : L} {pos : Nat} (hp : pos < l.length) : l.drop pos ≠ [] := by
  intro h0
  have := congrArg List.length h0
  rw [List.length_drop, List.length_nil] at this
  omega
/-- the letter at pos -/
def letAt (l : L) (pos : Nat) : L := (l.drop pos).take (Lib.decodeL (l.drop pos)).2
theorem ParAt.letter {l : L} {pos j : Nat} {e : Bool} {acc : List P} (h : ParAt l pos j e acc) (hp : pos < l.length) : (letters l)[j]? = some (letAt l pos) ∧ (letters l).drop (j + 1) = letters (l.drop (pos + (Lib.decodeL (l.drop pos)).2)) := by
  have h2 := h.2.1
  rw [letters_step _ (drop_ne hp), List.drop_drop] at h2
  constructor
  · have := congrArg (fun x : List L => x[0]?) h2
    simpa [List.getElem?_drop, letAt] using this
  · have := congrArg List.tail h2
    simpa using this
theorem ParAt.bound {l : L} {pos : Nat} (hp : pos < l.length) : pos + (Lib.decodeL (l.drop pos)).2 ≤ l.length := by
  have hle := Lib.decodeL_le (l.drop pos) (drop_ne hp)
  rw [List.length_drop] at hle
  omega
theorem ParAt.esc {l : L} {pos j : Nat} {acc : List P} (h : ParAt l pos j true acc) (hp : pos < l.length) : ParAt l (pos + (Lib.decodeL (l.drop pos)).2) (j + 1) false (acc ++ [.lit (letAt l pos)]) := by
  refine ⟨ParAt.bound hp, (h.letter hp).2, ?_, ?_⟩
  · have h3 := h.2.2.1
    rw [letters_step _ (drop_ne hp), List.drop_drop] at h3
    rw [← h3, List.append_assoc]
    rfl
  · have h3 := h.2.2.2
    rw [letters_step _ (drop_ne hp), List.drop_drop] at h3
    rw [← h3]
    rfl
theorem ParAt.toEsc {l : L} {pos j : Nat} {acc : List P} (h : ParAt l pos j false acc) (hp : pos < l.length) (hx : letAt l pos = [92]) : ParAt l (pos + (Lib.decodeL (l.drop pos)).2) (j + 1) true acc := by
  unfold letAt at hx
  refine ⟨ParAt.bound hp, (h.letter hp).2, ?_, ?_⟩
  · have h3 := h.2.2.1
    rw [letters_step _ (drop_ne hp), List.drop_drop, hx] at h3
    rw [← h3]
    rfl
  · have h3 := h.2.2.2
    rw [letters_step _ (drop_ne hp), List.drop_drop, hx] at h3
    rw [← h3]
    rfl
theorem ParAt.part {l : L} {pos j : Nat} {acc : List P} (h : ParAt l pos j false acc) (hp : pos < l.length) (hx : letAt l pos ≠ [92]) : ParAt l (pos + (Lib.decodeL (l.drop pos)).2) (j + 1) false (acc ++ [pt (letAt l pos)]) := by
  have hs : ∀ r, parseE false (letAt l pos :: r) = consP (pt (letAt l pos)) (parseE false r) := fun r => by simp [parseE, hx]
  refine ⟨ParAt.bound hp, (h.letter hp).2, ?_, ?_⟩
  · have h3 := h.2.2.1
    rw [letters_step _ (drop_ne hp), List.drop_drop] at h3
    rw [← h3]
    show _ = acc ++ (parseE false (letAt l pos :: _)).1
    rw [hs, List.append_assoc]
    rfl
  · have h3 := h.2.2.2
    rw [letters_step _ (drop_ne hp), List.drop_drop] at h3
    rw [← h3]
    show _ = (parseE false (letAt l pos :: _)).2
    rw [hs]
    rfl
theorem ParAt.end {l : L} {j : Nat} {e : Bool} {acc : List P} (h : ParAt l l.length j e acc) : acc = (parse (letters l)).1 ∧ (!e) = (parse (letters l)).2 := by
  obtain ⟨_, _, h3, h4⟩ := h
  rw [List.drop_length, letters_nil] at h3 h4
  cases e with
  | true => exact ⟨by simpa [parseE] using h3, h4⟩
  | false => exact ⟨by simpa [parseE] using h3, h4⟩
theorem rune_at {l : L} {pos : Nat} (hp : pos < l.length) (c : UInt8) (hc : c.toNat < 128) : (Lib.decodeL (l.drop pos)).1 = c.toNat ↔ letAt l pos = [c] := rune_letter _ (drop_ne hp) c hc
def RetParts (l : L) (w : World) (e : Ending) (w' : World) : Prop := ∃ a n c, e = .returned (.tuple #[.slice a n c, .bool (parse (letters l)).2]) ∧ OwnP w' w.heap.size a n c (parse (letters l)).1 ∧ Below w.heap.size w w'
set_option maxRecDepth 100000 in
set_option maxHeartbeats 1000000 in
theorem parts_any (l : L) (w : World) (hl : l.length ≤ 100000) :
    Calls Tryd.prog 23 #[.string (str l)] w (RetParts l w) := by
  go_enter Tryd.func23, Tryd.ntmps23
  go_wp2_with fail
  refine (letters_any l _ hl).mono ?_
  rintro e w1 ⟨la, ln, lc, rfl, hol, hb1⟩
  have hrl := hol.rd
  have hll : (letters l).length = ln := hol.1
  have hlll := letters_length l
  go_wp2_with fail
  go_loopw [4, 5, 7] (fun x e i wr => ∃ (pos j : Nat) (esc : Bool) (acc : List P), i = .int .i64 ((j : Int) - 1) ∧ e = .bool esc ∧ ParAt l pos j esc acc ∧ acc.length ≤ j ∧ j ≤ pos ∧ wr.heap[w1.heap.size]? = some (.stringIter (str l) pos) ∧ Below w1.heap.size w1 wr ∧ ∃ a n c, x = .slice a n c ∧ OwnP wr w1.heap.size a n c acc) (fun _ _ _ wr => l.length - wr.iterPos w1.heap.size)
  case atStart =>
    refine ⟨0, 0, false, [], rfl, rfl, ParAt.start l, Nat.le_refl _, Nat.le_refl _, ?_, (Below.refl _ w1).alloc (Nat.le_refl _) _, none, 0, 0, rfl, OwnP.nil _ _⟩
    exact World.iter_heap w1 (str l) 0
  case round =>
    obtain ⟨pos, j, esc, acc, rfl, rfl, hat, hal, hjp, hit, hb, xa, n, c, rfl, hown⟩ := hrel
    have hpl : pos ≤ l.length := hat.1
    have hiter : wr.iterPos w1.heap.size = pos := by simp only [World.iterPos, hit]
    have hn : acc.length = n := hown.1
    have hbs := hb.size
    by_cases hp : pos < l.length
    · have hnx : ∀ ty, (Instr.next (.pointer (some ⟨w1.heap.size, 0, none⟩)) true ty).run Tryd.prog wr = _ := fun ty => Lib.run_next_any_at wr w1.heap.size (str l) pos ty hit hp
      rw [decode_str] at hnx
      have hw := Lib.decodeL_width (l.drop pos)
      have hit2 := Lib.iterAt_heap wr w1.heap.size (str l) pos (pos + (Lib.decodeL (l.drop pos)).2) hit
      have hb2 := Lib.below_iterAt hb (k := w1.heap.size) (Nat.le_refl _) (str l) (pos + (Lib.decodeL (l.drop pos)).2)
      have hown2 := hown.iterAt hit (pos + (Lib.decodeL (l.drop pos)).2)
      have hbs2 : w1.heap.size ≤ (wr.iterAt w1.heap.size (str l) (pos + (Lib.decodeL (l.drop pos)).2)).heap.size := hb2.size
      obtain ⟨hlj, _⟩ := hat.letter hp
      have hjn : j < ln := by rw [← hll]; exact (List.getElem?_eq_some_iff.1 hlj).1
      obtain ⟨lb, hla, hlb, hlc⟩ := hrl.2 j _ hlj
      have hcell : (wr.iterAt w1.heap.size (str l) (pos + (Lib.decodeL (l.drop pos)).2)).cell? ⟨lb, j, none⟩ = some (.string (str (letAt l pos))) := by rw [hb2.cell (p := ⟨lb, j, none⟩) hlb]; exact hlc
      subst hla
      have e92 := rune_at hp 92 (by decide)
      have e37 := rune_at hp 37 (by decide)
      have e95 := rune_at hp 95 (by decide)
      have hr0 : (Lib.decodeL (l.drop pos)).1 ≤ 1114111 := Lib.decodeL_rune _
      have HAT := Lib.hid hat
      clear hat hlj hlc hb hown hit hbs
      cases esc
      · by_cases h92 : (Lib.decodeL (l.drop pos)).1 = 92
        · have hnext := HAT.out.toEsc hp (e92.1 h92)
          have HN := Lib.hid hnext
          clear hnext HAT e92 e37 e95
          generalize letAt l pos = t at *
          generalize wr.iterAt w1.heap.size (str l) (pos + (Lib.decodeL (l.drop pos)).2) = w2 at *
          generalize (Lib.decodeL (l.drop pos)).2 = wd at *
          generalize (Lib.decodeL (l.drop pos)).1 = r at *
          subst h92
          go_wp2
          go_roundw
          case rel => exact ⟨pos + wd, j + 1, true, acc, by go_num, rfl, HN.out, by omega, by omega, alloc_iter hit2 _, hb2.alloc hbs2 _, xa, n, c, rfl, hown2.alloc _⟩
          case measure =>
            rw [hiter]
            have : (w2.alloc (.cells #[.int .i32 0, .string (str t)] 45)).iterPos w1.heap.size = pos + wd := by simp only [World.iterPos, alloc_iter hit2 _]
            omega
        have hnot : letAt l pos ≠ [92] := fun h => h92 (e92.2 h)
        have hnext := HAT.out.part hp hnot
        by_cases h37 : (Lib.decodeL (l.drop pos)).1 = 37
        · have hpt : pt (letAt l pos) = .any := by rw [e37.1 h37]; rfl
          rw [hpt] at hnext
          have HN := Lib.hid hnext
          clear hnext HAT e92 e37 e95 hnot hpt
          generalize letAt l pos = t at *
          generalize wr.iterAt w1.heap.size (str l) (pos + (Lib.decodeL (l.drop pos)).2) = w2 at *
          generalize (Lib.decodeL (l.drop pos)).2 = wd at *
          generalize (Lib.decodeL (l.drop pos)).1 = r at *
          subst h37
          clear h92
          go_wp2_with (at_builtin; refine appendP rfl (.tmp 37) (.tmp 39) rfl w1.heap.size xa n c acc rfl (hown2.alloc _) (.any) (by rw [World.size_alloc]; rfl) (by omega) (by rw [World.size_alloc]; omega) ?_; intro a' c' w3 ho3 hg3)
          have hit3 := ((hown2.alloc _).alloc _).iter hg3 (alloc_iter (alloc_iter hit2 _) _)
          have hb3 := ((hown2.alloc _).alloc _).below ((hb2.alloc hbs2 _).alloc (by rw [World.size_alloc]; omega) _) hg3 (by rw [World.size_alloc, World.size_alloc]; omega)
          go_roundw
          case rel => exact ⟨pos + wd, j + 1, false, _, by go_num, rfl, HN.out, by simp; omega, by omega, hit3, hb3, a', n + 1, c', rfl, ho3⟩
          case measure =>
            rw [hiter]
            have : w3.iterPos w1.heap.size = pos + wd := by simp only [World.iterPos, hit3]
            omega
        by_cases h95 : (Lib.decodeL (l.drop pos)).1 = 95
        · have hpt : pt (letAt l pos) = .one := by rw [e95.1 h95]; rfl
          rw [hpt] at hnext
          have HN := Lib.hid hnext
          clear hnext HAT e92 e37 e95 hnot hpt
          generalize letAt l pos = t at *
          generalize wr.iterAt w1.heap.size (str l) (pos + (Lib.decodeL (l.drop pos)).2) = w2 at *
          generalize (Lib.decodeL (l.drop pos)).2 = wd at *
          generalize (Lib.decodeL (l.drop pos)).1 = r at *
          subst h95
          clear h92 h37
          go_wp2_with (at_builtin; refine appendP rfl (.tmp 37) (.tmp 39) rfl w1.heap.size xa n c acc rfl (hown2.alloc _) (.one) (by rw [World.size_alloc]; rfl) (by omega) (by rw [World.size_alloc]; omega) ?_; intro a' c' w3 ho3 hg3)
          have hit3 := ((hown2.alloc _).alloc _).iter hg3 (alloc_iter (alloc_iter hit2 _) _)
          have hb3 := ((hown2.alloc _).alloc _).below ((hb2.alloc hbs2 _).alloc (by rw [World.size_alloc]; omega) _) hg3 (by rw [World.size_alloc, World.size_alloc]; omega)
          go_roundw
          case rel => exact ⟨pos + wd, j + 1, false, _, by go_num, rfl, HN.out, by simp; omega, by omega, hit3, hb3, a', n + 1, c', rfl, ho3⟩
          case measure =>
            rw [hiter]
            have : w3.iterPos w1.heap.size = pos + wd := by simp only [World.iterPos, hit3]
            omega
        · have hpt : pt (letAt l pos) = .lit (letAt l pos) := by
            unfold pt
            rw [if_neg (fun h => h37 (e37.2 h)), if_neg (fun h => h95 (e95.2 h))]
          rw [hpt] at hnext
          have HN := Lib.hid hnext
          clear hnext HAT e92 e37 e95 hnot hpt
          generalize letAt l pos = t at *
          generalize wr.iterAt w1.heap.size (str l) (pos + (Lib.decodeL (l.drop pos)).2) = w2 at *
          generalize (Lib.decodeL (l.drop pos)).2 = wd at *
          generalize (Lib.decodeL (l.drop pos)).1 = r at *
          have h1 : ¬ (r : Int) = 92 := by omega
          have h2 : ¬ (r : Int) = 37 := by omega
          have h3 : ¬ (r : Int) = 95 := by omega
          clear h92 h37 h95
          go_wp2_with (at_builtin; refine appendP rfl (.tmp 37) (.tmp 39) rfl w1.heap.size xa n c acc rfl (hown2.alloc _) (.lit t) (by rw [World.size_alloc]; rfl) (by omega) (by rw [World.size_alloc]; omega) ?_; intro a' c' w3 ho3 hg3)
          have hit3 := ((hown2.alloc _).alloc _).iter hg3 (alloc_iter (alloc_iter hit2 _) _)
          have hb3 := ((hown2.alloc _).alloc _).below ((hb2.alloc hbs2 _).alloc (by rw [World.size_alloc]; omega) _) hg3 (by rw [World.size_alloc, World.size_alloc]; omega)
          go_roundw
          case rel => exact ⟨pos + wd, j + 1, false, _, by go_num, rfl, HN.out, by simp; omega, by omega, hit3, hb3, a', n + 1, c', rfl, ho3⟩
          case measure =>
            rw [hiter]
            have : w3.iterPos w1.heap.size = pos + wd := by simp only [World.iterPos, hit3]
            omega
      · have hnext := HAT.out.esc hp
        have HN := Lib.hid hnext
        clear hnext HAT e92 e37 e95
        generalize letAt l pos = t at *
        generalize wr.iterAt w1.heap.size (str l) (pos + (Lib.decodeL (l.drop pos)).2) = w2 at *
        generalize (Lib.decodeL (l.drop pos)).2 = wd at *
        generalize (Lib.decodeL (l.drop pos)).1 = r at *
        go_wp2_with (at_builtin; refine appendP rfl (.tmp 37) (.tmp 39) rfl w1.heap.size xa n c acc rfl (hown2.alloc _) (.lit t) (by rw [World.size_alloc]; rfl) (by omega) (by rw [World.size_alloc]; omega) ?_; intro a' c' w3 ho3 hg3)
        have hit3 := ((hown2.alloc _).alloc _).iter hg3 (alloc_iter (alloc_iter hit2 _) _)
        have hb3 := ((hown2.alloc _).alloc _).below ((hb2.alloc hbs2 _).alloc (by rw [World.size_alloc]; omega) _) hg3 (by rw [World.size_alloc, World.size_alloc]; omega)
        go_roundw
        case rel => exact ⟨pos + wd, j + 1, false, _, by go_num, rfl, HN.out, by simp; omega, by omega, hit3, hb3, a', n + 1, c', rfl, ho3⟩
        case measure =>
          rw [hiter]
          have : w3.iterPos w1.heap.size = pos + wd := by simp only [World.iterPos, hit3]
          omega
    · obtain rfl : pos = l.length := by omega
      have hnx : ∀ ty, (Instr.next (.pointer (some ⟨w1.heap.size, 0, none⟩)) true ty).run Tryd.prog wr = _ := fun ty => Lib.run_next_end_at wr w1.heap.size (str l) l.length ty hit hp
      obtain ⟨he1, he2⟩ := hat.end
      have HE := Lib.hid he2
      clear he2 hat
      go_wp2
      go_ret2
      refine ⟨xa, n, c, by rw [← HE.out]; rfl, ?_, hb1.trans (hb.mono hb1.size)⟩
      rw [← he1]
      exact hown.lower hb1.size
/-- why a text is no pattern -/
def checkN (l : L) : Int := if (parse (letters l)).2 then 0 else 30
end Go.Proofs.YtjhaebhhdgjebaaDoor
