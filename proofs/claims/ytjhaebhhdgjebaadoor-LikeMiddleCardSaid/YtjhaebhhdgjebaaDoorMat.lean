/-
  PROVED: Match tells whether a text is like a pattern (match_any), and so does is (is_any); Check (check_any). Conditions: at most 100000 bytes each.
-/
import Derived.Test.YtjhaebhhdgjebaaDoorPar
import Derived.Deep.QuietTactic
import Derived.BigQuiet
import Derived.BigRegion
namespace Go.Proofs.YtjhaebhhdgjebaaDoor
open Go.RowKit Like
theorem _root_.Go.RowKit.Below.dN {B : Nat} {W w : World} (h : Below B W w) (n : Nat) : Below B W (w.drewN n) := h.trans ⟨rfl, rfl, rfl, Nat.le_refl _, fun _ _ => rfl⟩
def RetM (b : Bool) (n : Int) (w : World) (e : Ending) (w' : World) : Prop := e = .returned (.tuple #[.bool b, .int .i64 n]) ∧ Below w.heap.size w w'
theorem parse_length (l : L) : (parse (letters l)).1.length ≤ l.length := Nat.le_trans (parseE_length _ _) (letters_length l)
def meas (L T : Nat) (b f k : Int) : Nat := ((L : Int) - b).toNat * 100000000000 + ((T : Int) - f).toNat * 200000 + ((T : Int) - k).toNat
theorem meas_any {L T i k f : Nat} {b : Int} (hT : T ≤ 100000) (h : -1 ≤ b ∧ b < i) (hi : i < L) : meas L T i k k < meas L T b f k := by unfold meas; omega
theorem meas_step {L T k f : Nat} {b : Int} (hk : k < T) : meas L T b f ((k : Int) + 1) < meas L T b f k := by unfold meas; omega
theorem meas_back {L T k f : Nat} {b : Int} (hT : T ≤ 100000) (hf : f ≤ k) (hk : k < T) : meas L T b ((f : Int) + 1) ((f : Int) + 1) < meas L T b f k := by unfold meas; omega
set_option maxRecDepth 100000 in
set_option maxHeartbeats 2000000 in
theorem match_ok (p s : L) (w : World) (hp : p.length ≤ 100000) (hs : s.length ≤ 100000) (hok : (parse (letters p)).2 = true) :
    Calls Tryd.prog 16 #[.string (str p), .string (str s)] w (RetM (matchL (parse (letters p)).1 (letters s)) 0 w) := by
  go_enter Tryd.func16, Tryd.ntmps16
  go_wp2_with fail
  refine (parts_any p _ hp).mono ?_
  rintro e w1 ⟨pa, pn, pc, rfl, hop, hb1⟩
  rw [hok]
  have hpl := parse_length p
  generalize (parse (letters p)).1 = ps at *
  go_wp2_with fail
  refine (letters_any s _ hs).mono ?_
  rintro e w2 ⟨ta, tn, tc, rfl, hot, hb2⟩
  have htl := letters_length s
  generalize letters s = ts at *
  have hpr := hop.rd.below hb2
  have htr := hot.rd
  have hpn : ps.length = pn := hop.1
  have htn : ts.length = tn := hot.1
  have hb12 := hb1.trans (hb2.mono hb1.size)
  have HOP := Lib.hid hop
  have HOT := Lib.hid hot
  clear hop hot hok
  have hL : ps.length ≤ 100000 := by omega
  have hT : ts.length ≤ 100000 := by omega
  go_wp2_with fail
  go_loopw [9, 10, 11, 12] (fun i k b f wr => ∃ (i' k' f' : Nat) (b' : Int), i = .int .i64 i' ∧ k = .int .i64 k' ∧ b = .int .i64 b' ∧ f = .int .i64 f' ∧ Hid (Inv ps ts i' k' b' f') ∧ Below w2.heap.size w2 wr) (fun _ k b f _ => meas ps.length ts.length (intOf b) (intOf f) (intOf k))
  case atStart => exact ⟨0, 0, 0, -1, rfl, rfl, rfl, rfl, Inv.start ps ts, Below.refl _ _⟩
  case round =>
    obtain ⟨i, k, f, b, rfl, rfl, rfl, rfl, HI, hb⟩ := hrel
    obtain ⟨g1, g2, g3, g4, g5⟩ := HI.out.bound
    by_cases hk : k < tn
    · obtain ⟨tb, t, htk, rfl, htb, htc⟩ := (htr.below hb).at k hk
      by_cases hi : i < pn
      · obtain ⟨pb, q, hqi, rfl, hpb, hqc, hqd⟩ := (hpr.below hb).at i hi
        cases q with
        | any =>
          have hqc' : wr.cell? ⟨pb, i * 2, none⟩ = some (.int .i32 37) := hqc
          clear hqc hqd
          have hnext := Lib.hid (HI.out.any hqi)
          go_wp2
          go_roundw
          case rel => exact ⟨i + 1, k, k, i, by go_num, rfl, rfl, rfl, hnext.out, hb⟩
          case measure => exact meas_any hT ⟨g4, g5⟩ (by omega)
        | one =>
          have hqc' : wr.cell? ⟨pb, i * 2, none⟩ = some (.int .i32 95) := hqc
          clear hqc hqd
          have hnext := Lib.hid (HI.out.step hqi htk (by intro h; cases h) rfl)
          have hd : decide ((i : Int) < (pn : Int)) = true := by simp; omega
          go_wp2_with fail
          go_quiet (fail)
          go_wp2
          go_roundw
          case rel => exact ⟨i + 1, k + 1, f, b, by go_num, by go_num, rfl, rfl, hnext.out, hb.dN _⟩
          case measure => exact meas_step (by omega)
        | lit x =>
          have hqc' : wr.cell? ⟨pb, i * 2, none⟩ = some (.int .i32 0) := hqc
          have hqd' : wr.cell? ⟨pb, i * 2 + 1, none⟩ = some (.string (str x)) := hqd
          clear hqc hqd
          have hd : decide ((i : Int) < (pn : Int)) = true := by simp; omega
          by_cases hxt : x = t
          · have hnext := Lib.hid (HI.out.step hqi htk (by intro h; cases h) (by simp [oneL, hxt]))
            have heq : ((str x).toList == (str t).toList) = true := by rw [hxt]; simp
            have HXT := Lib.hid hxt
            clear hxt
            go_wp2_with fail
            go_quiet (fail)
            go_wp2
            go_roundw
            case rel => exact ⟨i + 1, k + 1, f, b, by go_num, by go_num, rfl, rfl, hnext.out, hb.dN _⟩
            case measure => exact meas_step (by omega)
          · have hmis : Hid (Mis ps i t) := Or.inr ⟨_, hqi, (by intro h; cases h), by simp [oneL, hxt]⟩
            have heq : ((str x).toList == (str t).toList) = false := by rw [toList_str, toList_str]; simpa using hxt
            have HXT := Lib.hid hxt
            clear hxt
            go_wp2_with fail
            go_quiet (fail)
            by_cases hb0 : 0 ≤ b
            · obtain ⟨m, rfl⟩ : ∃ m : Nat, b = m := ⟨b.toNat, by omega⟩
              have hnext := Lib.hid (HI.out.back htk hmis.out)
              go_wp2
              go_roundw
              case rel => exact ⟨m + 1, f + 1, f + 1, m, by go_num, by go_num, rfl, by go_num, hnext.out, hb.dN _⟩
              case measure => exact meas_back hT g3 (by omega)
            · obtain rfl : b = -1 := by omega
              have hfail := Lib.hid (HI.out.fail htk hmis.out)
              go_wp2
              go_ret2
              exact ⟨by rw [hfail.out]; rfl, (hb12.trans (hb.mono hb12.size)).dN _⟩
      · have hmis : Hid (Mis ps i t) := Or.inl (List.getElem?_eq_none (by omega))
        have hd : decide ((i : Int) < (pn : Int)) = false := by simp; omega
        go_wp2_with fail
        go_quiet (fail)
        by_cases hb0 : 0 ≤ b
        · obtain ⟨m, rfl⟩ : ∃ m : Nat, b = m := ⟨b.toNat, by omega⟩
          have hnext := Lib.hid (HI.out.back htk hmis.out)
          go_wp2
          go_roundw
          case rel => exact ⟨m + 1, f + 1, f + 1, m, by go_num, by go_num, rfl, by go_num, hnext.out, hb.dN _⟩
          case measure => exact meas_back hT g3 (by omega)
        · obtain rfl : b = -1 := by omega
          have hfail := Lib.hid (HI.out.fail htk hmis.out)
          go_wp2
          go_ret2
          exact ⟨by rw [hfail.out]; rfl, (hb12.trans (hb.mono hb12.size)).dN _⟩
    · obtain rfl : k = tn := by omega
      rw [← htn] at HI
      have hend := HI.out.end
      go_wp2_with fail
      go_loopw [9] (fun i wr => ∃ i' : Nat, i' ≤ pn ∧ i = .int .i64 i' ∧ Hid (matchL ps ts = matchL (ps.drop i') []) ∧ Below w2.heap.size w2 wr) (fun i _ => pn - (intOf i).toNat)
      case atStart => exact ⟨i, by omega, rfl, hend, hb⟩
      case round =>
        clear hend hb HI
        obtain ⟨i, hi, rfl, HE, hb⟩ := hrel
        by_cases hlt : i < pn
        · obtain ⟨pb, q, hqi, rfl, hpb, hqc, hqd⟩ := (hpr.below hb).at i hlt
          cases q with
          | any =>
            have hqc' : wr.cell? ⟨pb, i * 2, none⟩ = some (.int .i32 37) := hqc
            have hnext : Hid (matchL ps ts = matchL (ps.drop (i + 1)) []) := HE.out.trans (end_any hqi)
            clear hqc hqd
            go_wp2
            go_roundw
            case rel => exact ⟨i + 1, by omega, by go_num, hnext, hb⟩
            case measure => simp [intOf]; omega
          | one =>
            have hqc' : wr.cell? ⟨pb, i * 2, none⟩ = some (.int .i32 95) := hqc
            have hfail : Hid (matchL ps ts = false) := HE.out.trans (end_other hqi (by intro h; cases h))
            have hbe : ((i : Int) == (pn : Int)) = false := by simp; omega
            clear hqc hqd
            go_wp2
            go_ret2
            exact ⟨by rw [hfail.out]; rfl, hb12.trans (hb.mono hb12.size)⟩
          | lit x =>
            have hqc' : wr.cell? ⟨pb, i * 2, none⟩ = some (.int .i32 0) := hqc
            have hfail : Hid (matchL ps ts = false) := HE.out.trans (end_other hqi (by intro h; cases h))
            have hbe : ((i : Int) == (pn : Int)) = false := by simp; omega
            clear hqc hqd
            go_wp2
            go_ret2
            exact ⟨by rw [hfail.out]; rfl, hb12.trans (hb.mono hb12.size)⟩
        · obtain rfl : i = pn := by omega
          have htrue : Hid (matchL ps ts = true) := by
            have := HE.out
            rw [← hpn, end_all] at this
            exact this
          go_wp2
          go_ret2
          exact ⟨by rw [htrue.out]; rfl, hb12.trans (hb.mono hb12.size)⟩
end Go.Proofs.YtjhaebhhdgjebaaDoor
