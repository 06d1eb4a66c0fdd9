/-
  PROVED: the walk of the law CrcXors: it returns true and changes nothing that was there (xors_walk). Conditions: the slices read as some bytes.
-/
import Derived.Test.YthhfhiiiniogdaaC
import Derived.RegionTactic
import Derived.ChangeAlike
import Derived.Deep.RegionHeld3
namespace Go.Proofs.Ythhfhiiiniogdaa
open Go.RowKit Crc
theorem run_cut (a : Option Addr) (m cap n : Nat) (h : n ≤ cap) (w : World) : (Instr.slice 23 (.slice a m cap) none (some (.int .i64 (n : Int))) none).run Try.prog w = .ok (.slice a n cap) w := by
  have hn : (n : Int) ≤ (cap : Int) := by omega
  have h0 : (0 : Int) ≤ (n : Int) := by omega
  simp [Instr.slice, run_underlying Try.underlying23, Instr.sliceBounds, run_sliceBound, hn]
  cases a <;> simp [Addr.add]
def xorB (x y : List UInt8) : List UInt8 := List.zipWith (· ^^^ ·) x y
theorem few_is (a : Option Addr) (n cap : Nat) (w : World) (hs : Shape a n cap) (p : Nat) (hp : fewN n = p) :
    Calls Try.prog 9 #[.slice a n cap] w fun e w' => e = .returned (.slice a p cap) ∧ w = w' := by subst hp; exact few_any a n cap w hs
theorem Own.zeros {w : World} {base : Nat} {a : Option Addr} {n c : Nat} (h : w.ownsRow base 5 1 (.slice a n c) n (madeCells (Value.int .u8 0).cells (n * 1)).toList) : Own w base a n c (List.replicate n 0) := by
  refine ⟨by simp, ?_⟩
  have e : (madeCells (Value.int .u8 0).cells (n * 1)).toList = Lib.byteCells (List.replicate n 0) := by
    apply List.ext_getElem
    · simp [madeCells, Lib.byteCells]
    · intro i h1 h2
      simp [madeCells, Lib.byteCells, Value.cells, Nat.mod_one]
  rw [← e]
  exact h
/-- the first k of ys are those of the XORed rows -/
def Upto (k : Nat) (ys x y : List UInt8) : Prop := ys.take k = (xorB x y).take k
theorem Own.at {w : World} {base : Nat} {g n c : Nat} {l : List UInt8} (h : Own w base (some ⟨g, 0, none⟩) n c l) (k : Nat) (hk : k < n) : ∃ v : Int, Is8 v (l.getD k 0) ∧ w.cell? ⟨g, k, none⟩ = some (.int .u8 v) := by
  refine ⟨_, rfl, ?_⟩
  rw [h.2.cellAt k (by omega)]
  simp [Lib.byteCells, List.getD_eq_getElem?_getD, List.getElem?_eq_getElem (show k < l.length by rw [h.1]; exact hk)]
theorem Own.stored {w : World} {base : Nat} {g n c : Nat} {l : List UInt8} (h : Own w base (some ⟨g, 0, none⟩) n c l) (k : Nat) (v : Int) (b : UInt8) (hv : Is8 v b) : Own (w.setCell ⟨g, k, none⟩ (.int .u8 v)) base (some ⟨g, 0, none⟩) n c (l.set k b) := by
  refine ⟨by rw [List.length_set]; exact h.1, ?_⟩
  have := h.2.stored k (.int .u8 v)
  have e : (Lib.byteCells l).set k (.int .u8 v) = Lib.byteCells (l.set k b) := by
    unfold Is8 at hv
    rw [hv]
    exact (List.map_set).symm
  rw [← e]
  exact this.1
theorem Rd.at {w : World} {b off n : Nat} {l : List UInt8} (h : Rd w (some ⟨b, off, none⟩) n l) (k : Nat) (hk : k < n) : ∃ v : Int, Is8 v (l.getD k 0) ∧ w.cell? ⟨b, off + k, none⟩ = some (.int .u8 v) := by
  obtain ⟨b', off', e, _, hc⟩ := h.2 (by omega)
  cases e
  exact ⟨_, rfl, hc k hk⟩
theorem Upto.step {k : Nat} {ys x y : List UInt8} (h : Upto k ys x y) (hx : k < x.length) (hy : k < y.length) (hk : k < ys.length) : Upto (k + 1) (ys.set k (x.getD k 0 ^^^ y.getD k 0)) x y := by
  unfold Upto at *
  have hz : k < (xorB x y).length := by simp [xorB]; omega
  rw [List.take_succ_eq_append_getElem (by rw [List.length_set]; exact hk), List.take_succ_eq_append_getElem hz, ← h]
  congr 1
  · rw [List.take_set, List.set_eq_of_length_le (by rw [List.length_take]; omega)]
  · simp [xorB, List.getD_eq_getElem?_getD, List.getElem?_eq_getElem hx, List.getElem?_eq_getElem hy]
theorem Is8.xor {u v : Int} {c d : UInt8} (h : Is8 u c) (k : Is8 v d) : Is8 (bits .xor .u8 u v) (c ^^^ d) := by
  have hc := c.toNat_lt
  have hd := d.toNat_lt
  unfold Is8 at *
  subst h
  subst k
  rw [u8_xor_nat _ _ (by omega) (by omega), UInt8.toNat_xor]
theorem Upto.all {k : Nat} {ys x y : List UInt8} (h : Upto k ys x y) (hk : ys.length = k) (hx : x.length = k) (hy : y.length = k) : ys = xorB x y := by
  unfold Upto at h
  rw [List.take_of_length_le (by omega), List.take_of_length_le (by simp [xorB]; omega)] at h
  exact h
theorem more_xorB (x y : List UInt8) (h : x.length = y.length) : more 0#32 (xorB x y) = more 0#32 x ^^^ more 0#32 y := more_xor x y 0#32 0#32 h
set_option maxRecDepth 100000 in
theorem xors_walk (a : Option Addr) (n cap : Nat) (l : List UInt8) (a2 : Option Addr) (n2 cap2 : Nat) (l2 : List UInt8) (w : World) (hs : Shape a n cap) (hr : Rd w a n l) (hs2 : Shape a2 n2 cap2) (hr2 : Rd w a2 n2 l2) :
    Calls Try.prog 5 #[.slice a n cap, .slice a2 n2 cap2] w fun e w' => e = .returned (.bool true) ∧ Below w.heap.size w w' := by
  obtain ⟨hn1, hn2⟩ := fewN_le n
  obtain ⟨hm1, hm2⟩ := fewN_le n2
  obtain ⟨p, hp⟩ : ∃ p, fewN n = p := ⟨_, rfl⟩
  obtain ⟨p2, hp2⟩ : ∃ p, fewN n2 = p := ⟨_, rfl⟩
  rw [hp] at hn1 hn2
  rw [hp2] at hm1 hm2
  have HP := Lib.hid hp
  have HP2 := Lib.hid hp2
  clear hp hp2
  obtain ⟨i0, hi, hz0, hz1, hz2⟩ := info_parts info5
  have hc1 := hs.1
  have hc2 := hs2.1
  rcases Nat.lt_or_ge p2 p with hle | hle
  · have hra := hr.take p2 (by omega)
    have hrb := hr2.take p2 hm1
    have hsl := fun w => run_cut a n cap p2 (by omega) w
    have hsl2 := fun w => run_cut a2 n2 cap2 p2 (by omega) w
    generalize l.take p2 = x1 at *
    generalize l2.take p2 = x2 at *
    go_enter Try.func5, Try.ntmps5
    go_wp2_with fail
    refine (shown_any _).mono ?_
    rintro e w1 ⟨rfl, hb1⟩
    have hra1 := hra.below hb1
    have hrb1 := hrb.below hb1
    go_wp2_with fail
    refine (few_is a n cap w1 hs p HP.out).mono ?_
    rintro e w' ⟨rfl, rfl⟩
    go_wp2_with fail
    refine (few_is a2 n2 cap2 w1 hs2 p2 HP2.out).mono ?_
    rintro e w' ⟨rfl, rfl⟩
    go_wp2_with (at_make; refine wpList_make_full _ rfl _ _ 23 rfl w1.heap.size 5 i0 (.int .u8 0) 1 Try.underlying23 hi hz0 hz1 _ _ _ _ p2 rfl rfl rfl rfl (by rw [hz2]; omega) (by unfold maxLen; omega) (Nat.le_refl _) ?_; intro w2 ho2 hg2)
    have hb2 : Below w1.heap.size w1 w2 := (Below.refl _ _).grown hg2 (Nat.le_refl _) (fun k e => by cases e)
    go_loopw [21] (fun i wr => ∃ k : Nat, k ≤ p2 ∧ i = .int .i64 k ∧ ∃ ys, Own wr w1.heap.size (some ⟨w1.heap.size, 0, none⟩) p2 p2 ys ∧ Upto k ys x1 x2 ∧ Below w1.heap.size w1 wr) (fun i _ => p2 - (intOf i).toNat)
    case atStart => exact ⟨0, by omega, rfl, _, Own.zeros ho2, rfl, hb2⟩
    case round =>
      obtain ⟨k, hk, rfl, ys, hown, hup, hbel⟩ := hrel
      by_cases hlt : k < p2
      · have hra2 := hra1.below hbel
        have hrb2 := hrb1.below hbel
        obtain ⟨b, off, rfl, _, -⟩ := hra2.2 (by omega)
        obtain ⟨b2, off2, rfl, _, -⟩ := hrb2.2 (by omega)
        obtain ⟨u, hu, hcu⟩ := hra2.at k hlt
        obtain ⟨v, hv, hcv⟩ := hrb2.at k hlt
        obtain ⟨z, hz, hcz⟩ := hown.at k hlt
        have hfz := hown.2.frozenAt k
        have hu0 := hu.lo
        have hu1 := hu.hi
        have hv0 := hv.lo
        have hv1 := hv.hi
        have HU := Lib.hid hu
        have HV := Lib.hid hv
        clear hu hv hz
        go_wp2
        go_region
        go_wp2
        go_roundw
        case rel => exact ⟨k + 1, by omega, by go_num, _, hown.stored k _ _ (Is8.xor HU.out HV.out), hup.step (by rw [hra.1]; exact hlt) (by rw [hrb.1]; exact hlt) (by rw [hown.1]; exact hlt), (hbel.setCell (Nat.le_refl _) _).drew⟩
        case measure => simp [intOf]; omega
      · obtain rfl : k = p2 := by omega
        have hys := hup.all hown.1 hra.1 hrb.1
        subst hys
        have hms := more_xorB x1 x2 (by rw [hra.1, hrb.1])
        have HMS := Lib.hid hms
        clear hms
        have hra2 := hra1.below hbel
        have hrb2 := hrb1.below hbel
        have hrx := hown.rd
        go_wp2
        go_region_held3 (fun w' => Kp wr w') (first | assumption | exact Kp.drew (by assumption) | exact (Kp.refl _).drew | exact Kp.step (by assumption) (by assumption))
          (first
          | (go_at_call 13; have _t := h2; (with_reducible refine (more_any 0 0#32 is0 _ _ _ x2 _ (Rd.kp (by assumption) hrb2) (by omega)).mono ?_); rintro e w5 ⟨r3, h3, rfl, hb5⟩; have heq : r1 = bits .xor .u32 r2 r3 := Is.same (h2.xor h3) (by rw [← HMS.out]; exact h1); subst heq)
          | (go_at_call 13; have _t := h1; (with_reducible refine (more_any 0 0#32 is0 _ _ _ x1 _ (Rd.kp (by assumption) hra2) (by omega)).mono ?_); rintro e w4 ⟨r2, h2, rfl, hb4⟩)
          | (go_at_call 13; (with_reducible refine (more_any 0 0#32 is0 _ _ _ _ _ (Rd.kp (by assumption) hrx) (by omega)).mono ?_); rintro e w3 ⟨r1, h1, rfl, hb3⟩))
        go_wp2
        go_ret
        exact ⟨rfl, hb1.trans ((hbel.trans (Below.mono (Kp.out (by assumption)) hbel.size)).mono hb1.size)⟩
  · have hra := hr.take p hn1
    have hrb := hr2.take p (by omega)
    have hsl := fun w => run_cut a n cap p (by omega) w
    have hsl2 := fun w => run_cut a2 n2 cap2 p (by omega) w
    generalize l.take p = x1 at *
    generalize l2.take p = x2 at *
    go_enter Try.func5, Try.ntmps5
    go_wp2_with fail
    refine (shown_any _).mono ?_
    rintro e w1 ⟨rfl, hb1⟩
    have hra1 := hra.below hb1
    have hrb1 := hrb.below hb1
    go_wp2_with fail
    refine (few_is a n cap w1 hs p HP.out).mono ?_
    rintro e w' ⟨rfl, rfl⟩
    go_wp2_with fail
    refine (few_is a2 n2 cap2 w1 hs2 p2 HP2.out).mono ?_
    rintro e w' ⟨rfl, rfl⟩
    go_wp2_with (at_make; refine wpList_make_full _ rfl _ _ 23 rfl w1.heap.size 5 i0 (.int .u8 0) 1 Try.underlying23 hi hz0 hz1 _ _ _ _ p rfl rfl rfl rfl (by rw [hz2]; omega) (by unfold maxLen; omega) (Nat.le_refl _) ?_; intro w2 ho2 hg2)
    have hb2 : Below w1.heap.size w1 w2 := (Below.refl _ _).grown hg2 (Nat.le_refl _) (fun k e => by cases e)
    go_loopw [21] (fun i wr => ∃ k : Nat, k ≤ p ∧ i = .int .i64 k ∧ ∃ ys, Own wr w1.heap.size (some ⟨w1.heap.size, 0, none⟩) p p ys ∧ Upto k ys x1 x2 ∧ Below w1.heap.size w1 wr) (fun i _ => p - (intOf i).toNat)
    case atStart => exact ⟨0, by omega, rfl, _, Own.zeros ho2, rfl, hb2⟩
    case round =>
      obtain ⟨k, hk, rfl, ys, hown, hup, hbel⟩ := hrel
      by_cases hlt : k < p
      · have hra2 := hra1.below hbel
        have hrb2 := hrb1.below hbel
        obtain ⟨b, off, rfl, _, -⟩ := hra2.2 (by omega)
        obtain ⟨b2, off2, rfl, _, -⟩ := hrb2.2 (by omega)
        obtain ⟨u, hu, hcu⟩ := hra2.at k hlt
        obtain ⟨v, hv, hcv⟩ := hrb2.at k hlt
        obtain ⟨z, hz, hcz⟩ := hown.at k hlt
        have hfz := hown.2.frozenAt k
        have hu0 := hu.lo
        have hu1 := hu.hi
        have hv0 := hv.lo
        have hv1 := hv.hi
        have HU := Lib.hid hu
        have HV := Lib.hid hv
        clear hu hv hz
        go_wp2
        go_region
        go_wp2
        go_roundw
        case rel => exact ⟨k + 1, by omega, by go_num, _, hown.stored k _ _ (Is8.xor HU.out HV.out), hup.step (by rw [hra.1]; exact hlt) (by rw [hrb.1]; exact hlt) (by rw [hown.1]; exact hlt), (hbel.setCell (Nat.le_refl _) _).drew⟩
        case measure => simp [intOf]; omega
      · obtain rfl : k = p := by omega
        have hys := hup.all hown.1 hra.1 hrb.1
        subst hys
        have hms := more_xorB x1 x2 (by rw [hra.1, hrb.1])
        have HMS := Lib.hid hms
        clear hms
        have hra2 := hra1.below hbel
        have hrb2 := hrb1.below hbel
        have hrx := hown.rd
        go_wp2
        go_region_held3 (fun w' => Kp wr w') (first | assumption | exact Kp.drew (by assumption) | exact (Kp.refl _).drew | exact Kp.step (by assumption) (by assumption))
          (first
          | (go_at_call 13; have _t := h2; (with_reducible refine (more_any 0 0#32 is0 _ _ _ x2 _ (Rd.kp (by assumption) hrb2) (by omega)).mono ?_); rintro e w5 ⟨r3, h3, rfl, hb5⟩; have heq : r1 = bits .xor .u32 r2 r3 := Is.same (h2.xor h3) (by rw [← HMS.out]; exact h1); subst heq)
          | (go_at_call 13; have _t := h1; (with_reducible refine (more_any 0 0#32 is0 _ _ _ x1 _ (Rd.kp (by assumption) hra2) (by omega)).mono ?_); rintro e w4 ⟨r2, h2, rfl, hb4⟩)
          | (go_at_call 13; (with_reducible refine (more_any 0 0#32 is0 _ _ _ _ _ (Rd.kp (by assumption) hrx) (by omega)).mono ?_); rintro e w3 ⟨r1, h1, rfl, hb3⟩))
        go_wp2
        go_ret
        exact ⟨rfl, hb1.trans ((hbel.trans (Below.mono (Kp.out (by assumption)) hbel.size)).mono hb1.size)⟩
end Go.Proofs.Ythhfhiiiniogdaa
