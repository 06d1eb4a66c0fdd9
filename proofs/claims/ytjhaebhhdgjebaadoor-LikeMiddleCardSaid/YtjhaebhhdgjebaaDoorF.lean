/-
  PROVED: Fixed gives the text that all begin with that are like a pattern (fixed_any); Quote gives a text's quote (quote_any). Conditions: the texts have at most 100000 bytes.
-/
import Derived.Test.YtjhaebhhdgjebaaDoorB
import Derived.Test.YtjhaebhhdgjebaaDoorMat
import Derived.OwnWalk
namespace Go.Proofs.YtjhaebhhdgjebaaDoor
open Go.RowKit Like
theorem bytes_str (l : L) : Lib.strCells (str l) = Lib.byteCells l := rfl
/-- a builder of the call's own that holds these bytes -/
def Bld (B : Nat) (l : L) (w : World) : Prop := Lib.IsBuilderF 43 5 B B (Lib.byteCells l) w
theorem Bld.fresh (w : World) : Bld w.heap.size [] (w.alloc (.cells #[.pointer none, .slice none 0 0] 43)) := Lib.IsBuilderF.of (Lib.fresh_isBuilder 43 5 w)
theorem ownsRowF_below {w w' : World} {B : Nat} {v : Value} {n : Nat} {xs : List Value} (h : w.ownsRowF B 5 1 v n xs) (hb : Below w.heap.size w w') : w'.ownsRowF B 5 1 v n xs := by
  refine ⟨h.1, ?_⟩
  rcases h.2 with hn | ⟨g, cap, cur, fz, hv, hbg, hg, rest⟩
  · exact .inl hn
  · exact .inr ⟨g, cap, cur, fz, hv, hbg, by rw [hb.block g (Array.getElem?_eq_some_iff.1 hg).1]; exact hg, rest⟩
theorem BuilderAtF_below {B b : Nat} {p : Value} {bs : List Value} {w w' : World} (h : Lib.BuilderAtF 43 5 B b p bs w) (hb : Below w.heap.size w w') : Lib.BuilderAtF 43 5 B b p bs w' := by
  obtain ⟨hB, v, hbk, hown, hne⟩ := h
  exact ⟨hB, v, by rw [hb.block b (Array.getElem?_eq_some_iff.1 hbk).1]; exact hbk, ownsRowF_below hown hb, hne⟩
theorem Bld.below {B : Nat} {l : L} {w w' : World} (h : Bld B l w) (hb : Below w.heap.size w w') : Bld B l w' := h.elim (fun x => .inl (BuilderAtF_below x hb)) (fun x => .inr (BuilderAtF_below x hb))
theorem Bld.alloc {B : Nat} {l : L} {w : World} (h : Bld B l w) (o : Obj) : Bld B l (w.alloc o) := Lib.IsBuilderF.alloc h o
theorem Bld.iterAt {B : Nat} {l : L} {w : World} (h : Bld B l w) {k : Nat} {s : ByteArray} {pos : Nat} (hk : w.heap[k]? = some (.stringIter s pos)) (pos' : Nat) : Bld B l (w.iterAt k s pos') := Lib.IsBuilderF.iterAt h hk pos'
theorem write_b (B : Nat) (l t : L) (w : World) (h : Bld B l w) (hl : l.length + t.length ≤ 1000000) (hBw : B ≤ w.heap.size) :
    Calls Tryd.prog 25 #[.pointer (some ⟨B, 0, none⟩), .string (str t)] w fun e w' => e = .returned (.tuple #[.int .i64 t.length, .nilIface]) ∧ Bld B (l ++ t) w' ∧ Below B w w' ∧ Lib.OthersKept 5 (some B) w w' := by
  refine (write_k B B _ (str t) w h (by rw [Lib.byteCells_length, str_size]; omega) hBw).mono ?_
  rintro e w' ⟨he, h1, h2, h3⟩
  refine ⟨he, ?_, h2, h3⟩
  unfold Bld
  rw [Lib.byteCells_append]
  exact Or.inr h1
theorem esc_b (B : Nat) (l : L) (w : World) (h : Bld B l w) (hl : l.length ≤ 900000) (hBw : B ≤ w.heap.size) :
    Calls Tryd.prog 27 #[.pointer (some ⟨B, 0, none⟩), .int .i32 92] w fun e w' => e = .returned (.tuple #[.int .i64 1, .nilIface]) ∧ Bld B (l ++ [92]) w' ∧ Below B w w' ∧ Lib.OthersKept 5 (some B) w w' := by
  refine (esc_k B B _ w h (by rw [Lib.byteCells_length]; omega) hBw).mono ?_
  rintro e w' ⟨he, h1, h2, h3⟩
  refine ⟨he, ?_, h2, h3⟩
  unfold Bld
  rw [Lib.byteCells_append]
  exact Or.inr h1
theorem text_b (B : Nat) (l : L) (w : World) (h : Bld B l w) (hBw : B ≤ w.heap.size) :
    Calls Tryd.prog 24 #[.pointer (some ⟨B, 0, none⟩)] w fun e w' => e = .returned (.string (str l)) ∧ Below B w w' := by
  refine (Tryd.Builder_String_any_k B B l w h hBw).mono ?_
  rintro e w' ⟨he, h1, h2, h3⟩
  exact ⟨he, h2⟩
/-! ### Fixed -/
theorem fixed_length : ∀ (ls : List L) (e : Bool), (fixed (parseE e ls).1).1.length ≤ ls.flatten.length
  | [], e => by cases e <;> simp [parseE, fixed]
  | x :: r, true => by
    have ih := fixed_length r false
    show (x ++ (fixed (parseE false r).1).1).length ≤ _
    rw [List.length_append, List.flatten_cons, List.length_append]
    omega
  | x :: r, false => by
    by_cases hx : x = [92]
    · have ih := fixed_length r true
      have h3 : parseE false (x :: r) = parseE true r := by simp [parseE, hx]
      rw [h3, List.flatten_cons, List.length_append]
      omega
    · have ih := fixed_length r false
      have h3 : parseE false (x :: r) = consP (pt x) (parseE false r) := by simp [parseE, hx]
      rw [h3, List.flatten_cons, List.length_append]
      unfold consP pt
      split
      · simp [fixed]
      · split
        · simp [fixed]
        · show (x ++ (fixed (parseE false r).1).1).length ≤ _
          rw [List.length_append]
          omega
theorem fixedOf_length (l : L) : (fixedOf l).1.length ≤ l.length := by
  have := fixed_length (letters l) false
  rw [letters_flat] at this
  exact this
def RetF (f : L) (b : Bool) (n : Int) (w : World) (e : Ending) (w' : World) : Prop := e = .returned (.tuple #[.string (str f), .bool b, .int .i64 n]) ∧ Below w.heap.size w w'
theorem fixed_end {ps : List P} {i : Nat} (h : ps.length ≤ i) : fixed (ps.drop i) = ([], true) := by rw [List.drop_of_length_le h]; rfl
set_option maxRecDepth 100000 in
set_option maxHeartbeats 1000000 in
theorem fixed_ok (p : L) (w : World) (hp : p.length ≤ 100000) (hok : (parse (letters p)).2 = true) :
    Calls Tryd.prog 10 #[.string (str p)] w (RetF (fixedOf p).1 (fixedOf p).2 0 w) := by
  have hfl := fixedOf_length p
  unfold fixedOf at hfl ⊢
  have hpl := parse_length p
  go_enter Tryd.func10, Tryd.ntmps10
  go_wp2_with fail
  refine (parts_any p _ hp).mono ?_
  rintro e w1 ⟨pa, pn, pc, rfl, hop, hb1⟩
  rw [hok]
  generalize (parse (letters p)).1 = ps at *
  have hpr := hop.rd
  have hpn : ps.length = pn := hop.1
  have hb1s := hb1.size
  have HOP := Lib.hid hop
  clear hop hok
  have hf0 := Lib.hid (Bld.fresh w1)
  have b0 : Below w1.heap.size w1 (w1.alloc (.cells #[.pointer none, .slice none 0 0] 43)) := (Below.refl _ _).alloc (Nat.le_refl _) _
  go_wp2_with fail
  go_loopw [19] (fun i wr => ∃ (k : Nat) (acc : L), k ≤ pn ∧ i = .int .i64 k ∧ Hid (acc ++ (fixed (ps.drop k)).1 = (fixed ps).1 ∧ (fixed (ps.drop k)).2 = (fixed ps).2) ∧ Hid (Bld w1.heap.size acc wr) ∧ Below w1.heap.size w1 wr) (fun i _ => pn - (intOf i).toNat)
  case atStart => exact ⟨0, [], by omega, rfl, ⟨rfl, rfl⟩, hf0, b0⟩
  case round =>
    clear hf0 b0
    obtain ⟨k, acc, hk, rfl, HF, HB, hb⟩ := hrel
    have hbs := hb.size
    have hacc : acc.length ≤ 100000 := by
      have := congrArg List.length HF.out.1
      rw [List.length_append] at this
      omega
    by_cases hlt : k < pn
    · obtain ⟨pb, q, hqi, rfl, hpb, hqc, hqd⟩ := (hpr.below hb).at k hlt
      have hd := drop_at hqi
      cases q with
      | any =>
        have hqc' : wr.cell? ⟨pb, k * 2, none⟩ = some (.int .i32 37) := hqc
        have hqd' : wr.cell? ⟨pb, k * 2 + 1, none⟩ = some (.string (str [])) := hqd
        rw [hd] at HF
        have e1 : acc = (fixed ps).1 := by have := HF.out.1; simpa [fixed] using this
        have e2 : (fixed ps).2 = false := HF.out.2.symm
        have E1 := Lib.hid e1
        have E2 := Lib.hid e2
        clear hqc hqd hd HF e1 e2
        have HBa := Lib.hid (HB.out.alloc (.cells #[.int .i32 37, .string (str [])] 45))
        have hba : Below w1.heap.size w1 (wr.alloc (.cells #[.int .i32 37, .string (str [])] 45)) := hb.alloc hbs _
        have hbas := hba.size
        go_wp2_with fail
        refine (text_b w1.heap.size acc _ HBa.out hbas).mono ?_
        rintro e w3 ⟨rfl, hb3⟩
        go_wp2
        go_ret3
        exact ⟨by rw [← E1.out, E2.out]; rfl, hb1.trans ((hba.trans hb3).mono hb1s)⟩
      | one =>
        have hqc' : wr.cell? ⟨pb, k * 2, none⟩ = some (.int .i32 95) := hqc
        have hqd' : wr.cell? ⟨pb, k * 2 + 1, none⟩ = some (.string (str [])) := hqd
        rw [hd] at HF
        have e1 : acc = (fixed ps).1 := by have := HF.out.1; simpa [fixed] using this
        have e2 : (fixed ps).2 = false := HF.out.2.symm
        have E1 := Lib.hid e1
        have E2 := Lib.hid e2
        clear hqc hqd hd HF e1 e2
        have HBa := Lib.hid (HB.out.alloc (.cells #[.int .i32 95, .string (str [])] 45))
        have hba : Below w1.heap.size w1 (wr.alloc (.cells #[.int .i32 95, .string (str [])] 45)) := hb.alloc hbs _
        have hbas := hba.size
        go_wp2_with fail
        refine (text_b w1.heap.size acc _ HBa.out hbas).mono ?_
        rintro e w3 ⟨rfl, hb3⟩
        go_wp2
        go_ret3
        exact ⟨by rw [← E1.out, E2.out]; rfl, hb1.trans ((hba.trans hb3).mono hb1s)⟩
      | lit x =>
        have hqc' : wr.cell? ⟨pb, k * 2, none⟩ = some (.int .i32 0) := hqc
        have hqd' : wr.cell? ⟨pb, k * 2 + 1, none⟩ = some (.string (str x)) := hqd
        rw [hd] at HF
        have e1 : (acc ++ x) ++ (fixed (ps.drop (k + 1))).1 = (fixed ps).1 := by have := HF.out.1; simpa [fixed] using this
        have e2 : (fixed (ps.drop (k + 1))).2 = (fixed ps).2 := HF.out.2
        have hxl : acc.length + x.length ≤ 100000 := by
          have := congrArg List.length e1
          rw [List.length_append, List.length_append] at this
          omega
        have E := Lib.hid (And.intro e1 e2)
        clear hqc hqd hd HF e1 e2
        have HBa := Lib.hid (HB.out.alloc (.cells #[.int .i32 0, .string (str x)] 45))
        have hba : Below w1.heap.size w1 (wr.alloc (.cells #[.int .i32 0, .string (str x)] 45)) := hb.alloc hbs _
        have hbas := hba.size
        go_wp2_with fail
        refine (write_b w1.heap.size acc x _ HBa.out (by omega) hbas).mono ?_
        rintro e w3 ⟨rfl, h3, hb3, _⟩
        have H3 := Lib.hid h3
        clear h3
        go_wp2
        go_roundw
        case rel => exact ⟨k + 1, acc ++ x, by omega, by go_num, E, H3, hba.trans hb3⟩
        case measure => simp [intOf]; omega
    · obtain rfl : k = pn := by omega
      rw [fixed_end (Nat.le_of_eq hpn)] at HF
      have e1 : acc = (fixed ps).1 := by have := HF.out.1; simpa using this
      have e2 : (fixed ps).2 = true := HF.out.2.symm
      have E1 := Lib.hid e1
      have E2 := Lib.hid e2
      clear HF e1 e2
      go_wp2_with fail
      refine (text_b w1.heap.size acc _ HB.out hbs).mono ?_
      rintro e w3 ⟨rfl, hb3⟩
      go_wp2
      go_ret3
      exact ⟨by rw [← E1.out, E2.out]; rfl, hb1.trans ((hb.trans hb3).mono hb1s)⟩
theorem fixed_bad (p : L) (w : World) (hp : p.length ≤ 100000) (hok : (parse (letters p)).2 = false) :
    Calls Tryd.prog 10 #[.string (str p)] w (RetF [] false 30 w) := by
  go_enter Tryd.func10, Tryd.ntmps10
  go_wp2_with fail
  refine (parts_any p _ hp).mono ?_
  rintro e w1 ⟨pa, pn, pc, rfl, hop, hb1⟩
  rw [hok]
  clear hop
  go_wp2
  go_ret3
  exact ⟨rfl, hb1⟩
theorem match_bad (p s : L) (w : World) (hp : p.length ≤ 100000) (hok : (parse (letters p)).2 = false) :
    Calls Tryd.prog 16 #[.string (str p), .string (str s)] w (RetM false 30 w) := by
  go_enter Tryd.func16, Tryd.ntmps16
  go_wp2_with fail
  refine (parts_any p _ hp).mono ?_
  rintro e w1 ⟨pa, pn, pc, rfl, hop, hb1⟩
  rw [hok]
  clear hop
  go_wp2
  go_ret2
  exact ⟨rfl, hb1⟩
theorem match_any (p s : L) (w : World) (hp : p.length ≤ 100000) (hs : s.length ≤ 100000) :
    Calls Tryd.prog 16 #[.string (str p), .string (str s)] w (RetM (like p s) (checkN p) w) := by
  cases hok : (parse (letters p)).2 with
  | true =>
    have e1 : like p s = matchL (parse (letters p)).1 (letters s) := by unfold like; rw [hok, Bool.true_and]
    have e2 : checkN p = 0 := by unfold checkN; rw [hok]; rfl
    rw [e1, e2]
    exact match_ok p s w hp hs hok
  | false =>
    have e1 : like p s = false := by unfold like; rw [hok, Bool.false_and]
    have e2 : checkN p = 30 := by unfold checkN; rw [hok]; rfl
    rw [e1, e2]
    exact match_bad p s w hp hok
theorem checkN_cases (p : L) : (checkN p = 0 ∧ (parse (letters p)).2 = true) ∨ (checkN p = 30 ∧ (parse (letters p)).2 = false) := by
  cases hok : (parse (letters p)).2 with
  | true => exact Or.inl ⟨by unfold checkN; rw [hok]; rfl, rfl⟩
  | false => exact Or.inr ⟨by unfold checkN; rw [hok]; rfl, rfl⟩
theorem is_any (p s : L) (w : World) (hp : p.length ≤ 100000) (hs : s.length ≤ 100000) :
    Calls Tryd.prog 12 #[.string (str p), .string (str s)] w fun e w' => e = .returned (.bool (like p s)) ∧ Below w.heap.size w w' := by
  have hm := Lib.hid (match_any p s w hp hs)
  rcases checkN_cases p with ⟨h, hok⟩ | ⟨h, hok⟩
  · rw [h] at hm
    clear hok h
    generalize like p s = b at *
    cases b
    · go_enter Tryd.func12, Tryd.ntmps12
      go_wp2_with fail
      refine hm.out.mono ?_
      rintro e w1 ⟨rfl, hb⟩
      go_wp2
      go_ret
      exact ⟨rfl, hb⟩
    · go_enter Tryd.func12, Tryd.ntmps12
      go_wp2_with fail
      refine hm.out.mono ?_
      rintro e w1 ⟨rfl, hb⟩
      go_wp2
      go_ret
      exact ⟨rfl, hb⟩
  · rw [h] at hm
    have e1 : like p s = false := by unfold like; rw [hok, Bool.false_and]
    rw [e1] at hm ⊢
    clear hok h e1
    go_enter Tryd.func12, Tryd.ntmps12
    go_wp2_with fail
    refine hm.out.mono ?_
    rintro e w1 ⟨rfl, hb⟩
    go_wp2
    go_ret
    exact ⟨rfl, hb⟩
/-! ### Quote -/
theorem OwnS.kept {w w' : World} {base b : Nat} {a : Option Addr} {n c : Nat} {ts : List L} (h : OwnS w base a n c ts) (hk : Lib.OthersKept 5 (some b) w w') (hb : b < base) : OwnS w' base a n c ts := by
  refine ⟨h.1, h.2.1, ?_⟩
  rcases h.2.2 with hv | ⟨g, c', cur, hv, hg, hgc, r⟩
  · exact Or.inl hv
  · refine Or.inr ⟨g, c', cur, hv, hg, hk g _ hgc (by intro e; cases e; omega) (by intro c fz e; cases e), r⟩
theorem OwnS.of_below {w w' : World} {base : Nat} {a : Option Addr} {n c : Nat} {ts : List L} (h : OwnS w base a n c ts) (hb : Below w.heap.size w w') : OwnS w' base a n c ts := by
  refine ⟨h.1, h.2.1, ?_⟩
  rcases h.2.2 with hv | ⟨g, c', cur, hv, hg, hgc, r⟩
  · exact Or.inl hv
  · exact Or.inr ⟨g, c', cur, hv, hg, by rw [hb.block g (Array.getElem?_eq_some_iff.1 hgc).1]; exact hgc, r⟩
/-- where Quote stands -/
def QuoAt (l : L) (pos j : Nat) (acc : L) : Prop := pos ≤ l.length ∧ (letters l).drop j = letters (l.drop pos) ∧ acc ++ quote (l.drop pos) = quote l ∧ acc.length ≤ 2 * pos
theorem QuoAt.start (l : L) : QuoAt l 0 0 [] := ⟨Nat.zero_le _, rfl, rfl, Nat.zero_le _⟩
theorem QuoAt.letter {l : L} {pos j : Nat} {acc : L} (h : QuoAt l pos j acc) (hp : pos < l.length) : (letters l)[j]? = some (letAt l pos) ∧ (letters l).drop (j + 1) = letters (l.drop (pos + (Lib.decodeL (l.drop pos)).2)) := by
  have h2 := h.2.1
  rw [letters_step _ (drop_ne hp), List.drop_drop] at h2
  constructor
  · have := congrArg (fun x : List L => x[0]?) h2
    simpa [List.getElem?_drop, letAt] using this
  · have := congrArg List.tail h2
    simpa using this
theorem QuoAt.next {l : L} {pos j : Nat} {acc : L} (h : QuoAt l pos j acc) (hp : pos < l.length) : QuoAt l (pos + (Lib.decodeL (l.drop pos)).2) (j + 1) (acc ++ (escL (letAt l pos)).flatten) := by
  have hw := Lib.decodeL_width (l.drop pos)
  have hle := Lib.decodeL_le (l.drop pos) (drop_ne hp)
  have hb := ParAt.bound hp
  refine ⟨hb, (h.letter hp).2, ?_, ?_⟩
  · rw [← h.2.2.1, quote_step _ (drop_ne hp), List.drop_drop, List.append_assoc]
    rfl
  · have hl := h.2.2.2
    have hx : (letAt l pos).length = (Lib.decodeL (l.drop pos)).2 := by unfold letAt; rw [List.length_take, Nat.min_eq_left hle]
    rw [List.length_append]
    have : (escL (letAt l pos)).flatten.length ≤ 1 + (letAt l pos).length := by
      unfold escL
      split
      · simp; omega
      · simp
    omega
theorem QuoAt.end {l : L} {j : Nat} {acc : L} (h : QuoAt l l.length j acc) : acc = quote l := by
  have := h.2.2.1
  rw [List.drop_length, quote_nil, List.append_nil] at this
  exact this
def RetT (t : L) (w : World) (e : Ending) (w' : World) : Prop := e = .returned (.string (str t)) ∧ Below w.heap.size w w'
set_option maxRecDepth 100000 in
set_option maxHeartbeats 1000000 in
theorem quote_any (l : L) (w : World) (hl : l.length ≤ 100000) :
    Calls Tryd.prog 14 #[.string (str l)] w (RetT (quote l) w) := by
  have hf0 := Bld.fresh w
  have b0 : Below w.heap.size w (w.alloc (.cells #[.pointer none, .slice none 0 0] 43)) := (Below.refl _ _).alloc (Nat.le_refl _) _
  have hs0 : (w.alloc (.cells #[.pointer none, .slice none 0 0] 43)).heap.size = w.heap.size + 1 := World.size_alloc _ _
  have HF0 := Lib.hid hf0
  clear hf0
  go_enter Tryd.func14, Tryd.ntmps14
  go_wp2_with fail
  refine (letters_any l _ hl).mono ?_
  rintro e w1 ⟨la, ln, lc, rfl, hol, hb1⟩
  have hll : (letters l).length = ln := hol.1
  have hlll := letters_length l
  have HB1 := Lib.hid (HF0.out.below hb1)
  have hb01 : Below w.heap.size w w1 := b0.trans (hb1.mono (by omega))
  have hs1 : w.heap.size + 1 ≤ w1.heap.size := by have := hb1.size; omega
  rw [hs0] at hol
  have HOL := Lib.hid hol
  clear hol HF0 b0 hb1
  go_wp2_with fail
  go_loopw [5] (fun i wr => ∃ (pos j : Nat) (acc : L), i = .int .i64 ((j : Int) - 1) ∧ Hid (QuoAt l pos j acc) ∧ acc.length ≤ 2 * pos ∧ j ≤ pos ∧ pos ≤ l.length ∧ wr.heap[w1.heap.size]? = some (.stringIter (str l) pos) ∧ Hid (Bld w.heap.size acc wr) ∧ Hid (OwnS wr (w.heap.size + 1) la ln lc (letters l)) ∧ Below w.heap.size w wr) (fun _ wr => l.length - wr.iterPos w1.heap.size)
  case atStart =>
    refine ⟨0, 0, [], rfl, QuoAt.start l, Nat.le_refl _, Nat.le_refl _, Nat.zero_le _, ?_, HB1.out.alloc _, HOL.out.alloc _, hb01.alloc (by omega) _⟩
    exact World.iter_heap w1 (str l) 0
  case round =>
    obtain ⟨pos, j, acc, rfl, HAT, hal, hjp, hpl, hit, HB, HO, hb⟩ := hrel
    clear HB1 HOL
    have hiter : wr.iterPos w1.heap.size = pos := by simp only [World.iterPos, hit]
    have hbs := hb.size
    have hbk : w1.heap.size < wr.heap.size := (Array.getElem?_eq_some_iff.1 hit).1
    by_cases hp : pos < l.length
    · have hnx : ∀ ty, (Instr.next (.pointer (some ⟨w1.heap.size, 0, none⟩)) true ty).run Tryd.prog wr = _ := fun ty => Lib.run_next_any_at wr w1.heap.size (str l) pos ty hit hp
      rw [decode_str] at hnx
      have hw := Lib.decodeL_width (l.drop pos)
      have hnext := HAT.out.next hp
      have hbound := ParAt.bound hp
      obtain ⟨hlj, _⟩ := HAT.out.letter hp
      have hjn : j < ln := by rw [← hll]; exact (List.getElem?_eq_some_iff.1 hlj).1
      have hle := Lib.decodeL_le (l.drop pos) (drop_ne hp)
      have htl : (letAt l pos).length = (Lib.decodeL (l.drop pos)).2 := by unfold letAt; rw [List.length_take, Nat.min_eq_left hle]
      have e92 := rune_at hp 92 (by decide)
      have e37 := rune_at hp 37 (by decide)
      have e95 := rune_at hp 95 (by decide)
      have hr0 : (Lib.decodeL (l.drop pos)).1 ≤ 1114111 := Lib.decodeL_rune _
      have hit2 := Lib.iterAt_heap wr w1.heap.size (str l) pos (pos + (Lib.decodeL (l.drop pos)).2) hit
      have hb2 := Lib.below_iterAt hb (k := w1.heap.size) (by omega) (str l) (pos + (Lib.decodeL (l.drop pos)).2)
      have HB2 := Lib.hid (HB.out.iterAt hit (pos + (Lib.decodeL (l.drop pos)).2))
      have ho2 := HO.out.iterAt hit (pos + (Lib.decodeL (l.drop pos)).2)
      have hbs2 : w.heap.size ≤ (wr.iterAt w1.heap.size (str l) (pos + (Lib.decodeL (l.drop pos)).2)).heap.size := hb2.size
      clear hle HAT HB HO hb hit hbs
      generalize wr.iterAt w1.heap.size (str l) (pos + (Lib.decodeL (l.drop pos)).2) = w2 at *
      have hacc2 : acc.length ≤ 200000 := by omega
      by_cases hsp : special (letAt l pos) = true
      · have hesc : (escL (letAt l pos)).flatten = 92 :: letAt l pos := by rw [escL, if_pos hsp]; simp
        rw [hesc] at hnext
        have HN := Lib.hid hnext
        have hor : ((Lib.decodeL (l.drop pos)).1 = 37 ∨ (Lib.decodeL (l.drop pos)).1 = 95) ∨ (Lib.decodeL (l.drop pos)).1 = 92 := by
          simp only [special, Bool.or_eq_true, beq_iff_eq] at hsp
          rcases hsp with (h | h) | h
          · exact Or.inl (Or.inl (e37.2 h))
          · exact Or.inl (Or.inr (e95.2 h))
          · exact Or.inr (e92.2 h)
        have HO2 := Lib.hid ho2
        have HLJ := Lib.hid hlj
        clear hnext e92 e37 e95 hsp hesc ho2 hlj
        generalize letAt l pos = t at *
        generalize (Lib.decodeL (l.drop pos)).2 = wd at *
        generalize (Lib.decodeL (l.drop pos)).1 = r at *
        have htl6 : t.length ≤ 100000 := by omega
        rcases hor with (rfl | rfl) | rfl
        · go_wp2_with fail
          refine (esc_b w.heap.size acc _ HB2.out (by omega) hbs2).mono ?_
          rintro e w3 ⟨rfl, h3, hb3, hk3⟩
          have HB3 := Lib.hid h3
          have ho3 := HO2.out.kept hk3 (by omega)
          obtain ⟨gb, hla, hgb, hgc⟩ := ho3.rd.2 j _ HLJ.out
          subst hla
          have HO3 := Lib.hid ho3
          have hit3 := hk3.iter hit2 (by omega)
          have hbb3 := hb2.trans hb3
          have hbs3 := hbb3.size
          clear h3 hk3 ho3 hb3
          go_wp2_with fail
          refine (write_b w.heap.size (acc ++ [92]) t _ HB3.out (by simp; omega) hbs3).mono ?_
          rintro e w4 ⟨rfl, h4, hb4, hk4⟩
          have HB4 := Lib.hid h4
          have HO4 := Lib.hid (HO3.out.kept hk4 (by omega))
          have hit4 := hk4.iter hit3 (by omega)
          have hbb4 := hbb3.trans hb4
          clear h4 hk4 hb4
          go_wp2
          go_roundw
          case rel => exact ⟨pos + wd, j + 1, acc ++ 92 :: t, by go_num, HN, by simp; omega, by omega, hbound, hit4, by rw [show acc ++ 92 :: t = acc ++ [92] ++ t by simp]; exact HB4, HO4, hbb4⟩
          case measure =>
            rw [hiter]
            have : w4.iterPos w1.heap.size = pos + wd := by simp only [World.iterPos, hit4]
            omega
        · go_wp2_with fail
          refine (esc_b w.heap.size acc _ HB2.out (by omega) hbs2).mono ?_
          rintro e w3 ⟨rfl, h3, hb3, hk3⟩
          have HB3 := Lib.hid h3
          have ho3 := HO2.out.kept hk3 (by omega)
          obtain ⟨gb, hla, hgb, hgc⟩ := ho3.rd.2 j _ HLJ.out
          subst hla
          have HO3 := Lib.hid ho3
          have hit3 := hk3.iter hit2 (by omega)
          have hbb3 := hb2.trans hb3
          have hbs3 := hbb3.size
          clear h3 hk3 ho3 hb3
          go_wp2_with fail
          refine (write_b w.heap.size (acc ++ [92]) t _ HB3.out (by simp; omega) hbs3).mono ?_
          rintro e w4 ⟨rfl, h4, hb4, hk4⟩
          have HB4 := Lib.hid h4
          have HO4 := Lib.hid (HO3.out.kept hk4 (by omega))
          have hit4 := hk4.iter hit3 (by omega)
          have hbb4 := hbb3.trans hb4
          clear h4 hk4 hb4
          go_wp2
          go_roundw
          case rel => exact ⟨pos + wd, j + 1, acc ++ 92 :: t, by go_num, HN, by simp; omega, by omega, hbound, hit4, by rw [show acc ++ 92 :: t = acc ++ [92] ++ t by simp]; exact HB4, HO4, hbb4⟩
          case measure =>
            rw [hiter]
            have : w4.iterPos w1.heap.size = pos + wd := by simp only [World.iterPos, hit4]
            omega
        · go_wp2_with fail
          refine (esc_b w.heap.size acc _ HB2.out (by omega) hbs2).mono ?_
          rintro e w3 ⟨rfl, h3, hb3, hk3⟩
          have HB3 := Lib.hid h3
          have ho3 := HO2.out.kept hk3 (by omega)
          obtain ⟨gb, hla, hgb, hgc⟩ := ho3.rd.2 j _ HLJ.out
          subst hla
          have HO3 := Lib.hid ho3
          have hit3 := hk3.iter hit2 (by omega)
          have hbb3 := hb2.trans hb3
          have hbs3 := hbb3.size
          clear h3 hk3 ho3 hb3
          go_wp2_with fail
          refine (write_b w.heap.size (acc ++ [92]) t _ HB3.out (by simp; omega) hbs3).mono ?_
          rintro e w4 ⟨rfl, h4, hb4, hk4⟩
          have HB4 := Lib.hid h4
          have HO4 := Lib.hid (HO3.out.kept hk4 (by omega))
          have hit4 := hk4.iter hit3 (by omega)
          have hbb4 := hbb3.trans hb4
          clear h4 hk4 hb4
          go_wp2
          go_roundw
          case rel => exact ⟨pos + wd, j + 1, acc ++ 92 :: t, by go_num, HN, by simp; omega, by omega, hbound, hit4, by rw [show acc ++ 92 :: t = acc ++ [92] ++ t by simp]; exact HB4, HO4, hbb4⟩
          case measure =>
            rw [hiter]
            have : w4.iterPos w1.heap.size = pos + wd := by simp only [World.iterPos, hit4]
            omega
      · have hesc : (escL (letAt l pos)).flatten = letAt l pos := by rw [escL, if_neg hsp]; simp
        rw [hesc] at hnext
        have HN := Lib.hid hnext
        have h1 : ¬ ((Lib.decodeL (l.drop pos)).1 : Int) = 37 := fun h => hsp (by rw [e37.1 (by have : ((Lib.decodeL (l.drop pos)).1 : Int) = ((37 : Nat) : Int) := h; exact Int.ofNat.inj this)]; rfl)
        have h2 : ¬ ((Lib.decodeL (l.drop pos)).1 : Int) = 95 := fun h => hsp (by rw [e95.1 (by have : ((Lib.decodeL (l.drop pos)).1 : Int) = ((95 : Nat) : Int) := h; exact Int.ofNat.inj this)]; rfl)
        have h3 : ¬ ((Lib.decodeL (l.drop pos)).1 : Int) = 92 := fun h => hsp (by rw [e92.1 (by have : ((Lib.decodeL (l.drop pos)).1 : Int) = ((92 : Nat) : Int) := h; exact Int.ofNat.inj this)]; rfl)
        obtain ⟨gb, rfl, hgb, hgc⟩ := ho2.rd.2 j _ hlj
        have HO2 := Lib.hid ho2
        clear hnext e92 e37 e95 hsp hesc ho2 hlj
        generalize letAt l pos = t at *
        generalize (Lib.decodeL (l.drop pos)).2 = wd at *
        generalize (Lib.decodeL (l.drop pos)).1 = r at *
        have htl6 : t.length ≤ 100000 := by omega
        have h1' : ((r : Int) == 37) = false := by simpa using h1
        have h2' : ((r : Int) == 95) = false := by simpa using h2
        have h3' : ((r : Int) == 92) = false := by simpa using h3
        clear h1 h2 h3
        go_wp2_with fail
        refine (write_b w.heap.size acc t _ HB2.out (by omega) hbs2).mono ?_
        rintro e w4 ⟨rfl, h4, hb4, hk4⟩
        have HB4 := Lib.hid h4
        have HO4 := Lib.hid (HO2.out.kept hk4 (by omega))
        have hit4 := hk4.iter hit2 (by omega)
        have hbb4 := hb2.trans hb4
        clear h4 hk4 hb4
        go_wp2
        go_roundw
        case rel => exact ⟨pos + wd, j + 1, acc ++ t, by go_num, HN, by simp; omega, by omega, hbound, hit4, HB4, HO4, hbb4⟩
        case measure =>
          rw [hiter]
          have : w4.iterPos w1.heap.size = pos + wd := by simp only [World.iterPos, hit4]
          omega
    · obtain rfl : pos = l.length := by omega
      have hnx : ∀ ty, (Instr.next (.pointer (some ⟨w1.heap.size, 0, none⟩)) true ty).run Tryd.prog wr = _ := fun ty => Lib.run_next_end_at wr w1.heap.size (str l) l.length ty hit hp
      have hend := Lib.hid HAT.out.end
      go_wp2_with fail
      refine (text_b w.heap.size acc _ HB.out hbs).mono ?_
      rintro e w3 ⟨rfl, hb3⟩
      go_wp2
      go_ret
      exact ⟨by rw [hend.out]; rfl, hb.trans hb3⟩
end Go.Proofs.YtjhaebhhdgjebaaDoor
