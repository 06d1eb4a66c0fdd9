/-
  PROVED: the reference's Match tells whether a text is like a pattern (refMatch_any). Conditions: the library's tables lie as they are laid; the texts have at most 100000 bytes.
-/
import Derived.Test.YtjhaebhhdgjebaaDoorRQ
import Derived.RegionTactic
import Derived.ChangeAlike
import Derived.BigRegion
namespace Go.Proofs.YtjhaebhhdgjebaaDoor
open Go.RowKit Like
theorem info_bool : (Tryd.prog.info? 4).map (fun i => (i.zero, i.size, i.bytes)) = some (some (.bool false), 1, 1) := by kernel_rfl
/-- a row of bools of the call's own -/
def OwnB (w : World) (base : Nat) (a : Option Addr) (n c : Nat) (bs : List Bool) : Prop := bs.length = n ∧ w.ownsRow base 4 1 (.slice a n c) n (bs.map Value.bool)
theorem OwnB.zeros {w : World} {base : Nat} {a : Option Addr} {n c : Nat} (h : w.ownsRow base 4 1 (.slice a n c) n (madeCells (Value.bool false).cells (n * 1)).toList) : OwnB w base a n c (List.replicate n false) := by
  refine ⟨by simp, ?_⟩
  have e : (madeCells (Value.bool false).cells (n * 1)).toList = (List.replicate n false).map Value.bool := by
    apply List.ext_getElem
    · simp [madeCells]
    · intro i h1 h2
      simp [madeCells, Value.cells, Nat.mod_one]
  rw [← e]
  exact h
theorem OwnB.at {w : World} {base : Nat} {g n c : Nat} {l : List Bool} (h : OwnB w base (some ⟨g, 0, none⟩) n c l) (k : Nat) (hk : k < n) : ∃ v : Bool, l[k]? = some v ∧ w.cell? ⟨g, k, none⟩ = some (.bool v) := by
  have hkl : k < l.length := by rw [h.1]; exact hk
  refine ⟨l[k], List.getElem?_eq_getElem hkl, ?_⟩
  rw [h.2.cellAt k (by omega)]
  simp [List.getElem?_eq_getElem hkl]
theorem OwnB.stored {w : World} {base : Nat} {g n c : Nat} {l : List Bool} (h : OwnB w base (some ⟨g, 0, none⟩) n c l) (k : Nat) (v : Bool) : OwnB (w.setCell ⟨g, k, none⟩ (.bool v)) base (some ⟨g, 0, none⟩) n c (l.set k v) := by
  refine ⟨by rw [List.length_set]; exact h.1, ?_⟩
  have := h.2.stored k (.bool v)
  rw [List.map_set]
  exact this.1
theorem OwnB.dN {w : World} {base : Nat} {a : Option Addr} {n c : Nat} {l : List Bool} (h : OwnB w base a n c l) (m : Nat) : OwnB (w.drewN m) base a n c l := h
/-- a row of bools that can be read -/
def BRd (w : World) (g T : Nat) (f : Nat → Bool) : Prop := g < w.heap.size ∧ ∀ k, k ≤ T → w.cell? ⟨g, k, none⟩ = some (.bool (f k))
theorem BRd.below {w w' : World} {g T : Nat} {f : Nat → Bool} (h : BRd w g T f) (hb : Below w.heap.size w w') : BRd w' g T f :=
  ⟨Nat.lt_of_lt_of_le h.1 hb.size, fun k hk => by rw [hb.cell (p := ⟨g, k, none⟩) h.1]; exact h.2 k hk⟩
/-- one row of the table: is a beginning of the text like a beginning of the pattern? -/
def rowF (ps : List P) (ts : List L) (i k : Nat) : Bool := matchL (ps.take i) (ts.take k)
theorem rowF_start (ps : List P) (ts : List L) (k : Nat) (hk : k < ts.length) : rowF ps ts 0 (k + 1) = false := by
  cases ts with
  | nil => simp at hk
  | cons t r => rfl
theorem rowF_zero (ps : List P) (ts : List L) : rowF ps ts 0 0 = true := rfl
theorem rowF_any0 {ps : List P} {ts : List L} {i : Nat} (h : ps[i]? = some .any) : rowF ps ts (i + 1) 0 = rowF ps ts i 0 := by unfold rowF; rw [take_drop_snoc ps i _ h]; exact matchL_snoc_any_zero _ _
theorem rowF_any1 {ps : List P} {ts : List L} {i k : Nat} (h : ps[i]? = some .any) (hk : k < ts.length) : rowF ps ts (i + 1) (k + 1) = (rowF ps ts i (k + 1) || rowF ps ts (i + 1) k) := by unfold rowF; rw [take_drop_snoc ps i _ h]; exact matchL_snoc_any_succ _ _ _ hk
theorem rowF_one0 {ps : List P} {ts : List L} {i : Nat} {p : P} (h : ps[i]? = some p) (hp : p ≠ .any) : rowF ps ts (i + 1) 0 = false := by unfold rowF; rw [take_drop_snoc ps i _ h]; exact matchL_snoc_zero _ _ hp _
theorem rowF_one1 {ps : List P} {ts : List L} {i k : Nat} {p : P} {t : L} (h : ps[i]? = some p) (hp : p ≠ .any) (ht : ts[k]? = some t) : rowF ps ts (i + 1) (k + 1) = (rowF ps ts i k && oneL p t) := by unfold rowF; rw [take_drop_snoc ps i _ h]; exact matchL_snoc_succ _ _ hp _ _ _ ht
theorem rowF_end (ps : List P) (ts : List L) : rowF ps ts ps.length ts.length = matchL ps ts := by unfold rowF; rw [List.take_length, List.take_length]
/-- the first k of a row are reckoned -/
def Done (ps : List P) (ts : List L) (i k : Nat) (ys : List Bool) : Prop := ∀ j, j < k → ys[j]? = some (rowF ps ts i j)
theorem Done.step {ps : List P} {ts : List L} {i k : Nat} {ys : List Bool} (h : Done ps ts i k ys) (hk : k < ys.length) {v : Bool} (hv : rowF ps ts i k = v) : Done ps ts i (k + 1) (ys.set k v) := by
  intro j hj
  by_cases he : j = k
  · subst he
    rw [List.getElem?_set_self hk, hv]
  · rw [List.getElem?_set_ne (by omega)]
    exact h j (by omega)
theorem OwnB.brd {w : World} {base g T : Nat} {ys : List Bool} {ps : List P} {ts : List L} {i : Nat} (h : OwnB w base (some ⟨g, 0, none⟩) (T + 1) (T + 1) ys) (hd : Done ps ts i (T + 1) ys) : BRd w g T (rowF ps ts i) := by
  refine ⟨(h.2.lt g rfl).2, fun k hk => ?_⟩
  obtain ⟨v, h1, h2⟩ := h.at k (by omega)
  rw [hd k (by omega)] at h1
  cases h1
  exact h2
theorem refMatch_bad (p s : L) (w : World) (hp : p.length ≤ 100000) (hT : Tabs w) (hok : (parse (letters p)).2 = false) :
    Calls Tryd.prog 17 #[.string (str p), .string (str s)] w (RetM false 30 w) := by
  go_enter Tryd.func17, Tryd.ntmps17
  go_wp2_with fail
  refine (refParts_any p _ hp hT).mono ?_
  rintro e w1 ⟨pa, pn, pc, rfl, hop, hb1⟩
  rw [hok]
  clear hop
  go_wp2
  go_ret2
  exact ⟨rfl, hb1⟩
theorem Done.start (ps : List P) (ts : List L) (n : Nat) (hn : ts.length = n) : Done ps ts 0 (n + 1) ((List.replicate (n + 1) false).set 0 true) := by
  intro j hj
  cases j with
  | zero => simp [rowF_zero]
  | succ j =>
    rw [List.getElem?_set_ne (by omega), rowF_start ps ts j (by omega), List.getElem?_replicate, if_pos (by omega)]
set_option maxRecDepth 100000 in
set_option maxHeartbeats 4000000 in
theorem refMatch_ok (p s : L) (w : World) (hp : p.length ≤ 100000) (hs : s.length ≤ 100000) (hT : Tabs w) (hok : (parse (letters p)).2 = true) :
    Calls Tryd.prog 17 #[.string (str p), .string (str s)] w (RetM (matchL (parse (letters p)).1 (letters s)) 0 w) := by
  obtain ⟨i0, hi, hz0, hz1, hz2⟩ := info_parts info_bool
  have hpl := parse_length p
  go_enter Tryd.func17, Tryd.ntmps17
  go_wp2_with fail
  refine (refParts_any p _ hp hT).mono ?_
  rintro e w1 ⟨xa, pn, pc, rfl, hop, hb1⟩
  replace hop := hop hok
  rw [hok]
  generalize (parse (letters p)).1 = ps at *
  have hpr := hop.rd
  have hpn : ps.length = pn := hop.1
  have hb1s := hb1.size
  clear hop hok
  go_wp2_with fail
  refine (refLetters_any s _ hs (hT.below hb1)).mono ?_
  rintro e w2 ⟨la, ln, lc, rfl, hol, hb2⟩
  have hrl := hol.rd
  have hpr2 := hpr.below hb2
  have hll : (letters s).length = ln := hol.1
  have hlll := letters_length s
  have hb2s := hb2.size
  have hb12 := hb1.trans (hb2.mono hb1s)
  clear hol hpr hT
  generalize letters s = ts at *
  go_wp2_with (at_make; refine wpList_make_full _ rfl _ _ 61 rfl w2.heap.size 4 i0 (.bool false) 1 Tryd.underlying61 hi hz0 hz1 _ _ _ _ (ln + 1) rfl rfl (by push_cast; rfl) (by push_cast; rfl) (by rw [hz2]; omega) (by unfold maxLen; omega) (Nat.le_refl _) ?_; intro w3 ho3 hg3; have hb3 : Below w2.heap.size w2 w3 := (Below.refl _ _).grown hg3 (Nat.le_refl _) (fun k e => by cases e); have hB0 := OwnB.zeros ho3; obtain ⟨z, hz, hcz⟩ := hB0.at 0 (by omega); have hfz := hB0.2.frozenAt 0)
  have hst := (hB0.stored 0 true).brd (Done.start ps ts ln hll)
  have hb4 : Below w2.heap.size w2 (w3.setCell ⟨w2.heap.size, 0, none⟩ (.bool true)) := hb3.setCell (Nat.le_refl _) _
  have hST := Lib.hid hst
  clear hst hfz hcz hz hB0 ho3 hg3 hb3
  generalize w3.setCell ⟨w2.heap.size, 0, none⟩ (.bool true) = w4 at *
  go_loopw [9, 10] (fun cn i wr => ∃ (k g : Nat), k ≤ pn ∧ cn = .slice (some ⟨g, 0, none⟩) (ln + 1) (ln + 1) ∧ i = .int .i64 k ∧ Hid (BRd wr g ln (rowF ps ts k)) ∧ Below w2.heap.size w2 wr) (fun _ i _ => pn - (intOf i).toNat)
  case atStart => exact ⟨0, w2.heap.size, by omega, rfl, rfl, hST, hb4⟩
  case round =>
    clear hST hb4
    obtain ⟨i, g, hk, rfl, rfl, HB, hb⟩ := hrel
    obtain ⟨wo, rfl⟩ : ∃ x, x = wr := ⟨_, rfl⟩
    have hbs := hb.size
    by_cases hlt : i < pn
    · have hprr := hpr2.below hb
      have hrlr := hrl.below hb
      go_wp2_with (at_make; refine wpList_make_full _ rfl _ _ 61 rfl wo.heap.size 4 i0 (.bool false) 1 Tryd.underlying61 hi hz0 hz1 _ _ _ _ (ln + 1) rfl rfl (by push_cast; rfl) (by push_cast; rfl) (by rw [hz2]; omega) (by unfold maxLen; omega) (Nat.le_refl _) ?_; intro w5 ho5 hg5)
      have hb5 : Below wo.heap.size wo w5 := (Below.refl _ _).grown hg5 (Nat.le_refl _) (fun k e => by cases e)
      have hB5 := Lib.hid (OwnB.zeros ho5)
      clear ho5 hg5
      go_loopw [12] (fun kv wr => ∃ (k : Nat) (ys : List Bool), k ≤ ln + 1 ∧ kv = .int .i64 k ∧ Hid (OwnB wr wo.heap.size (some ⟨wo.heap.size, 0, none⟩) (ln + 1) (ln + 1) ys) ∧ Hid (Done ps ts (i + 1) k ys) ∧ Below wo.heap.size wo wr) (fun kv _ => ln + 1 - (intOf kv).toNat)
      case atStart => exact ⟨0, _, by omega, rfl, hB5, fun j hj => absurd hj (Nat.not_lt_zero _), hb5⟩
      case round =>
        clear hB5 hb5
        obtain ⟨k, ys, hkk, rfl, HO, HD, hbi⟩ := hrel
        have hbis := hbi.size
        by_cases hkl : k < ln + 1
        · obtain ⟨pb, q, hqi, rfl, hpb, hqc, hqd, hqe⟩ := (hprr.below hbi).at i hlt
          have hcan := HB.out.below hbi
          obtain ⟨z, hz, hcz⟩ := HO.out.at k hkl
          have hfz := HO.out.2.frozenAt k
          have hyl : k < ys.length := by rw [HO.out.1]; exact hkl
          have hc0 := hcan.2 k (by omega)
          clear hz
          cases q with
          | any =>
            have hqc' : wr.cell? ⟨pb, i * 3, none⟩ = some (.bool true) := hqc
            clear hqc hqd hqe
            cases k with
            | zero =>
              have hrow := rowF_any0 (ts := ts) hqi
              generalize rowF ps ts i 0 = c0 at *
              cases c0
              · have HS := Lib.hid (HO.out.stored 0 false)
                have HDN := Lib.hid (HD.out.step hyl hrow)
                have hbn : Below wo.heap.size wo (wr.setCell ⟨wo.heap.size, 0, none⟩ (.bool false)) := hbi.setCell (Nat.le_refl _) _
                clear hrow hcan HB HO HD hqi hpb
                go_wp2
                go_roundw
                case rel => exact ⟨0 + 1, _, by omega, by go_num, HS, HDN, hbn⟩
                case measure => simp [intOf] <;> omega
              · have HS := Lib.hid (HO.out.stored 0 true)
                have HDN := Lib.hid (HD.out.step hyl hrow)
                have hbn : Below wo.heap.size wo (wr.setCell ⟨wo.heap.size, 0, none⟩ (.bool true)) := hbi.setCell (Nat.le_refl _) _
                clear hrow hcan HB HO HD hqi hpb
                go_wp2
                go_roundw
                case rel => exact ⟨0 + 1, _, by omega, by go_num, HS, HDN, hbn⟩
                case measure => simp [intOf] <;> omega
            | succ j =>
              have hrow := rowF_any1 (ts := ts) (k := j) hqi (by omega)
              obtain ⟨z1, hz1', hcz1⟩ := HO.out.at j (by omega)
              have hz2' := HD.out j (by omega)
              rw [hz1'] at hz2'
              have hz3 := Option.some.inj hz2'
              rw [← hz3] at hrow
              clear hz1' hz2' hz3
              generalize rowF ps ts i (j + 1) = c0 at *
              cases c0
              · cases z1
                · have HS := Lib.hid (HO.out.stored (j + 1) false)
                  have HDN := Lib.hid (HD.out.step hyl hrow)
                  have hbn : Below wo.heap.size wo (wr.setCell ⟨wo.heap.size, (j + 1), none⟩ (.bool false)) := hbi.setCell (Nat.le_refl _) _
                  clear hrow hcan HB HO HD hqi hpb
                  go_wp2
                  go_roundw
                  case rel => exact ⟨(j + 1) + 1, _, by omega, by go_num, HS, HDN, hbn⟩
                  case measure => simp [intOf] <;> omega
                · have HS := Lib.hid (HO.out.stored (j + 1) true)
                  have HDN := Lib.hid (HD.out.step hyl hrow)
                  have hbn : Below wo.heap.size wo (wr.setCell ⟨wo.heap.size, (j + 1), none⟩ (.bool true)) := hbi.setCell (Nat.le_refl _) _
                  clear hrow hcan HB HO HD hqi hpb
                  go_wp2
                  go_roundw
                  case rel => exact ⟨(j + 1) + 1, _, by omega, by go_num, HS, HDN, hbn⟩
                  case measure => simp [intOf] <;> omega
              · replace hrow : rowF ps ts (i + 1) (j + 1) = true := hrow
                have HS := Lib.hid (HO.out.stored (j + 1) true)
                have HDN := Lib.hid (HD.out.step hyl hrow)
                have hbn : Below wo.heap.size wo (wr.setCell ⟨wo.heap.size, (j + 1), none⟩ (.bool true)) := hbi.setCell (Nat.le_refl _) _
                clear hrow hcan HB HO HD hqi hpb
                go_wp2
                go_roundw
                case rel => exact ⟨(j + 1) + 1, _, by omega, by go_num, HS, HDN, hbn⟩
                case measure => simp [intOf] <;> omega
          | one =>
            have hqc' : wr.cell? ⟨pb, i * 3, none⟩ = some (.bool false) := hqc
            have hqd' : wr.cell? ⟨pb, i * 3 + 1, none⟩ = some (.bool true) := hqd
            clear hqc hqd hqe
            cases k with
            | zero =>
              have hrow := rowF_one0 (ts := ts) hqi (by intro h; cases h)
              have HS := Lib.hid (HO.out.stored 0 false)
              have HDN := Lib.hid (HD.out.step hyl hrow)
              have hbn : Below wo.heap.size wo (wr.setCell ⟨wo.heap.size, 0, none⟩ (.bool false)) := hbi.setCell (Nat.le_refl _) _
              clear hrow hcan HB HO HD hqi hpb
              go_wp2
              go_region
              go_wp2
              go_roundw
              case rel => exact ⟨0 + 1, _, by omega, by go_num, HS, HDN, hbn.dN _⟩
              case measure => simp [intOf] <;> omega
            | succ j =>
              obtain ⟨lb, t, hti, rfl, hlb, hlc⟩ := ((hrlr.below hbi)).at j (by omega)
              have hrow := rowF_one1 (ts := ts) (k := j) hqi (by intro h; cases h) hti
              have hc1 := hcan.2 j (by omega)
              generalize rowF ps ts i j = c1 at *
              cases c1
              · replace hrow : rowF ps ts (i + 1) (j + 1) = false := hrow
                have HS := Lib.hid (HO.out.stored (j + 1) false)
                have HDN := Lib.hid (HD.out.step hyl hrow)
                have hbn : Below wo.heap.size wo (wr.setCell ⟨wo.heap.size, (j + 1), none⟩ (.bool false)) := hbi.setCell (Nat.le_refl _) _
                clear hrow hcan HB HO HD hqi hpb
                go_wp2
                go_region
                go_wp2
                go_roundw
                case rel => exact ⟨(j + 1) + 1, _, by omega, by go_num, HS, HDN, hbn.dN _⟩
                case measure => simp [intOf] <;> omega
              · replace hrow : rowF ps ts (i + 1) (j + 1) = true := hrow
                have HS := Lib.hid (HO.out.stored (j + 1) true)
                have HDN := Lib.hid (HD.out.step hyl hrow)
                have hbn : Below wo.heap.size wo (wr.setCell ⟨wo.heap.size, (j + 1), none⟩ (.bool true)) := hbi.setCell (Nat.le_refl _) _
                clear hrow hcan HB HO HD hqi hpb
                go_wp2
                go_region
                go_wp2
                go_roundw
                case rel => exact ⟨(j + 1) + 1, _, by omega, by go_num, HS, HDN, hbn.dN _⟩
                case measure => simp [intOf] <;> omega
          | lit x =>
            have hqc' : wr.cell? ⟨pb, i * 3, none⟩ = some (.bool false) := hqc
            have hqd' : wr.cell? ⟨pb, i * 3 + 1, none⟩ = some (.bool false) := hqd
            have hqe' : wr.cell? ⟨pb, i * 3 + 2, none⟩ = some (.string (str x)) := hqe
            clear hqc hqd hqe
            cases k with
            | zero =>
              have hrow := rowF_one0 (ts := ts) hqi (by intro h; cases h)
              have HS := Lib.hid (HO.out.stored 0 false)
              have HDN := Lib.hid (HD.out.step hyl hrow)
              have hbn : Below wo.heap.size wo (wr.setCell ⟨wo.heap.size, 0, none⟩ (.bool false)) := hbi.setCell (Nat.le_refl _) _
              clear hrow hcan HB HO HD hqi hpb
              go_wp2
              go_region
              go_wp2
              go_roundw
              case rel => exact ⟨0 + 1, _, by omega, by go_num, HS, HDN, hbn.dN _⟩
              case measure => simp [intOf] <;> omega
            | succ j =>
              obtain ⟨lb, t, hti, rfl, hlb, hlc⟩ := ((hrlr.below hbi)).at j (by omega)
              have hrow := rowF_one1 (ts := ts) (k := j) hqi (by intro h; cases h) hti
              have hc1 := hcan.2 j (by omega)
              have hxt : ((str x).toList == (str t).toList) = (x == t) := by rw [toList_str, toList_str]
              replace hrow : rowF ps ts (i + 1) (j + 1) = (rowF ps ts i j && (x == t)) := hrow
              generalize rowF ps ts i j = c1 at *
              generalize (x == t) = bx at *
              cases c1
              · replace hrow : rowF ps ts (i + 1) (j + 1) = false := hrow
                have HS := Lib.hid (HO.out.stored (j + 1) false)
                have HDN := Lib.hid (HD.out.step hyl hrow)
                have hbn : Below wo.heap.size wo (wr.setCell ⟨wo.heap.size, (j + 1), none⟩ (.bool false)) := hbi.setCell (Nat.le_refl _) _
                clear hrow hcan HB HO HD hqi hpb
                go_wp2
                go_region
                go_wp2
                go_roundw
                case rel => exact ⟨(j + 1) + 1, _, by omega, by go_num, HS, HDN, hbn.dN _⟩
                case measure => simp [intOf] <;> omega
              · cases bx
                · replace hrow : rowF ps ts (i + 1) (j + 1) = false := hrow
                  have HS := Lib.hid (HO.out.stored (j + 1) false)
                  have HDN := Lib.hid (HD.out.step hyl hrow)
                  have hbn : Below wo.heap.size wo (wr.setCell ⟨wo.heap.size, (j + 1), none⟩ (.bool false)) := hbi.setCell (Nat.le_refl _) _
                  clear hrow hcan HB HO HD hqi hpb
                  go_wp2
                  go_region
                  go_wp2
                  go_roundw
                  case rel => exact ⟨(j + 1) + 1, _, by omega, by go_num, HS, HDN, hbn.dN _⟩
                  case measure => simp [intOf] <;> omega
                · replace hrow : rowF ps ts (i + 1) (j + 1) = true := hrow
                  have HS := Lib.hid (HO.out.stored (j + 1) true)
                  have HDN := Lib.hid (HD.out.step hyl hrow)
                  have hbn : Below wo.heap.size wo (wr.setCell ⟨wo.heap.size, (j + 1), none⟩ (.bool true)) := hbi.setCell (Nat.le_refl _) _
                  clear hrow hcan HB HO HD hqi hpb
                  go_wp2
                  go_region
                  go_wp2
                  go_roundw
                  case rel => exact ⟨(j + 1) + 1, _, by omega, by go_num, HS, HDN, hbn.dN _⟩
                  case measure => simp [intOf] <;> omega
        · obtain rfl : k = ln + 1 := by omega
          have hrd := Lib.hid (HO.out.brd HD.out)
          have hbb := hb.trans (hbi.mono hbs)
          clear HO HD HB
          go_wp2
          go_roundw
          case rel => exact ⟨i + 1, wo.heap.size, by omega, rfl, by go_num, hrd, hbb⟩
          case measure => simp [intOf] <;> omega
    · obtain rfl : i = pn := by omega
      have hc := HB.out.2 ln (Nat.le_refl _)
      have he : rowF ps ts i ln = matchL ps ts := by rw [← hpn, ← hll]; exact rowF_end ps ts
      rw [he] at hc
      clear he HB
      generalize matchL ps ts = m at *
      go_wp2
      go_ret2
      exact ⟨rfl, hb12.trans (hb.mono hb12.size)⟩
theorem refMatch_any (p s : L) (w : World) (hp : p.length ≤ 100000) (hs : s.length ≤ 100000) (hT : Tabs w) :
    Calls Tryd.prog 17 #[.string (str p), .string (str s)] w (RetM (like p s) (checkN p) w) := by
  cases hok : (parse (letters p)).2 with
  | true =>
    have e1 : like p s = matchL (parse (letters p)).1 (letters s) := by unfold like; rw [hok, Bool.true_and]
    have e2 : checkN p = 0 := by unfold checkN; rw [hok]; rfl
    rw [e1, e2]
    exact refMatch_ok p s w hp hs hT hok
  | false =>
    have e1 : like p s = false := by unfold like; rw [hok, Bool.false_and]
    have e2 : checkN p = 30 := by unfold checkN; rw [hok]; rfl
    rw [e1, e2]
    exact refMatch_bad p s w hp hT hok
end Go.Proofs.YtjhaebhhdgjebaaDoor
