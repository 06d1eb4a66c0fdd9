/-
  PROVED: the walk of the law CrcBack: it returns true and changes nothing that was there (back_walk). Conditions: the slices read as some bytes.
-/
import Derived.Test.YthhfhiiiniogdaaSeals
namespace Go.Proofs.Ythhfhiiiniogdaa
open Go.RowKit Crc
theorem sealed_length (l : List UInt8) : (sealed l).length = l.length + 4 := by simp [sealed, be4]
theorem sealed_take (l : List UInt8) : (sealed l).take l.length = l := by unfold sealed; rw [List.take_left']; rfl
set_option maxRecDepth 100000 in
theorem back_bad (a : Option Addr) (n cap : Nat) (l : List UInt8) (a2 : Option Addr) (n2 cap2 : Nat) (l2 : List UInt8) (w : World) (hs : Shape a n cap) (hr : Rd w a n l) (hs2 : Shape a2 n2 cap2) (hr2 : Rd w a2 n2 l2)
    (hz : ¬ IsSealed (l2.take (fewN n2))) :
    Calls Try.prog 7 #[.slice a n cap, .slice a2 n2 cap2] w fun e w' => e = .returned (.bool true) ∧ Below w.heap.size w w' := by
  obtain ⟨T, hT⟩ := IsText.some
  have HT := Lib.hid hT
  clear hT
  obtain ⟨p, hp⟩ : ∃ p, fewN n = p := ⟨_, rfl⟩
  obtain ⟨hn1, hn2⟩ := fewN_le n
  rw [hp] at hn1 hn2
  obtain ⟨q, hq⟩ : ∃ q, fewN n2 = q := ⟨_, rfl⟩
  obtain ⟨hm1, hm2⟩ := fewN_le n2
  rw [hq] at hm1 hm2 hz
  have HP := Lib.hid hp
  have HQ := Lib.hid hq
  clear hp hq
  have hra := hr.take p hn1
  have hsa := hs.less p hn1
  have hrb := hr2.take q hm1
  have hsb := hs2.less q hm1
  generalize l.take p = x at *
  generalize l2.take q = y at *
  have HZ := Lib.hid hz
  clear hz
  have hfold : ∀ (v : Value) (w : World), (convert 23 9 v).run Try.prog w = T w v := HT.out
  go_enter Try.func7, Try.ntmps7
  go_wp2_with fail
  refine (shown_any _).mono ?_
  rintro e w1 ⟨rfl, hb1⟩
  have hra1 := hra.below hb1
  have hrb1 := hrb.below hb1
  go_wp2_with fail
  refine (few_is a n cap w1 hs p HP.out).mono ?_
  rintro e w' ⟨rfl, rfl⟩
  go_wp2_with fail
  refine (few_is a2 n2 cap2 w1 hs2 q HQ.out).mono ?_
  rintro e w' ⟨rfl, rfl⟩
  go_wp2_with fail
  refine (seal_any a _ cap x _ hsa hra1 (by omega)).mono ?_
  rintro e w2 ⟨g2, c2, rfl, ho2, hb2⟩
  have hxl : x.length = p := hra.1
  have HXL := Lib.hid hxl
  clear hxl
  rw [HXL.out] at ho2
  go_wp2_with fail
  rw [HXL.out]
  refine (open_ok _ (p + 4) c2 (sealed x) _ ho2.shape ho2.rd (by omega) (by omega) (more_seal x)).mono ?_
  rintro e w3 ⟨ac, cc, rfl, hoc, hb3⟩
  rw [show (sealed x).take (p + 4 - 4) = x from by rw [Nat.add_sub_cancel, ← HXL.out]; exact sealed_take x, Nat.add_sub_cancel] at hoc
  have hk13 : Kp w1 w3 := Kp.step hb3 hb2
  have hrb3 := Rd.kp hk13 hrb1
  go_wp2_with fail
  refine (open_bad a2 q cap2 y _ hrb3 (by omega) (by by_cases h4 : q < 4; exact Or.inl h4; exact Or.inr (fun h0 => HZ.out ⟨by rw [hrb.1]; omega, h0⟩))).mono ?_
  rintro e w4 ⟨rfl, hb4⟩
  have hk34 : Kp w3 w4 := hb4
  have hk14 := hk13.trans hk34
  have hrc4 := Rd.kp hk34 hoc.rd
  have hsc := hoc.shape
  have hra4 := Rd.kp hk14 hra1
  have hrb4 := Rd.kp hk14 hrb1
  have hcc : ∀ w', Kp w4 w' → T w' (.slice ac p cc) = .ok (.string (str x)) w' := fun w' hk => (Rd.kp hk hrc4).textRun HT.out cc hsc
  have hcx : ∀ w', Kp w4 w' → T w' (.slice a p cap) = .ok (.string (str x)) w' := fun w' hk => (Rd.kp hk hra4).textRun HT.out cap hsa
  have hcy : ∀ w', Kp w4 w' → T w' (.slice a2 q cap2) = .ok (.string (str y)) w' := fun w' hk => (Rd.kp hk hrb4).textRun HT.out cap2 hsb
  go_wp2_with fail
  refine wp_region_noPanic ?_
  refine wp_region_held_drew (S := fun w' => Kp w4 w') (by kernel_rfl) ((Kp.refl w4).drew) (fun hHeld => ?_)
  refine wpAnyH_takeD (i := 0) (d := some 28) (v := ?_) rfl (by kernel_rfl) (by kernel_rfl) (by kernel_rfl) NoPanic.hQ ?_ (by assumption) ?_
  rotate_left
  · intro o ho
    simp only [List.getElem?_toArray, List.getElem?_cons_zero, Option.some.injEq] at ho
    subst ho
    refine ⟨by rfl, fun w hSw => ?_⟩
    go_simp
    try with_reducible rfl
  simp only [Act.put, List.setIfInBounds_toArray, List.set_cons_zero, List.set_cons_succ]
  refine wpAnyH_takeD (i := 1) (d := some 29) (v := ?_) rfl (by kernel_rfl) (by kernel_rfl) (by kernel_rfl) NoPanic.hQ ?_ (by assumption) ?_
  rotate_left
  · intro o ho
    simp only [List.getElem?_toArray, List.getElem?_cons_zero, List.getElem?_cons_succ, Option.some.injEq] at ho
    subst ho
    refine ⟨by rfl, fun w hSw => ?_⟩
    go_simp
    try with_reducible rfl
  simp only [Act.put, List.setIfInBounds_toArray, List.set_cons_zero, List.set_cons_succ]
  refine wpAnyH_takeD (i := 2) (d := some 30) (v := ?_) rfl (by kernel_rfl) (by kernel_rfl) (by kernel_rfl) NoPanic.hQ ?_ (by assumption) ?_
  rotate_left
  · intro o ho
    simp only [List.getElem?_toArray, List.getElem?_cons_zero, List.getElem?_cons_succ, Option.some.injEq] at ho
    subst ho
    refine ⟨by rfl, fun w hSw => ?_⟩
    go_simp
    try with_reducible rfl
  simp only [Act.put, List.setIfInBounds_toArray, List.set_cons_zero, List.set_cons_succ]
  refine wpAnyH_takeD (i := 3) (d := some 31) (v := ?_) rfl (by kernel_rfl) (by kernel_rfl) (by kernel_rfl) NoPanic.hQ ?_ (by assumption) ?_
  rotate_left
  · intro o ho
    simp only [List.getElem?_toArray, List.getElem?_cons_zero, List.getElem?_cons_succ, Option.some.injEq] at ho
    subst ho
    refine ⟨by rfl, fun w hSw => ?_⟩
    go_simp
    try with_reducible rfl
  simp only [Act.put, List.setIfInBounds_toArray, List.set_cons_zero, List.set_cons_succ]
  refine wpAnyH_takeD (i := 4) (d := some 32) (v := ?_) rfl (by kernel_rfl) (by kernel_rfl) (by kernel_rfl) NoPanic.hQ ?_ (by assumption) ?_
  rotate_left
  · intro o ho
    simp only [List.getElem?_toArray, List.getElem?_cons_zero, List.getElem?_cons_succ, Option.some.injEq] at ho
    subst ho
    refine ⟨by rfl, fun w hSw => ?_⟩
    go_simp
    try with_reducible rfl
  simp only [Act.put, List.setIfInBounds_toArray, List.set_cons_zero, List.set_cons_succ]
  refine wpAnyH_takeD (i := 5) (d := some 33) (v := ?_) rfl (by kernel_rfl) (by kernel_rfl) (by kernel_rfl) NoPanic.hQ ?_ (by assumption) ?_
  rotate_left
  · intro o ho
    simp only [List.getElem?_toArray, List.getElem?_cons_zero, List.getElem?_cons_succ, Option.some.injEq] at ho
    subst ho
    refine ⟨by rfl, fun w hSw => ?_⟩
    go_simp
    try with_reducible rfl
  simp only [Act.put, List.setIfInBounds_toArray, List.set_cons_zero, List.set_cons_succ]
  refine wpAnyH_takeD (i := 6) (d := some 34) (v := ?_) rfl (by kernel_rfl) (by kernel_rfl) (by kernel_rfl) NoPanic.hQ ?_ (by assumption) ?_
  rotate_left
  · intro o ho
    simp only [List.getElem?_toArray, List.getElem?_cons_zero, List.getElem?_cons_succ, Option.some.injEq] at ho
    subst ho
    refine ⟨by rfl, fun w hSw => ?_⟩
    go_simp
    try with_reducible rfl
  simp only [Act.put, List.setIfInBounds_toArray, List.set_cons_zero, List.set_cons_succ]
  refine wpAnyH_takeD (i := 7) (d := some 35) (v := ?_) rfl (by kernel_rfl) (by kernel_rfl) (by kernel_rfl) NoPanic.hQ ?_ (by assumption) ?_
  rotate_left
  · intro o ho
    simp only [List.getElem?_toArray, List.getElem?_cons_zero, List.getElem?_cons_succ, Option.some.injEq] at ho
    subst ho
    refine ⟨by rfl, fun w hSw => ?_⟩
    go_simp
    try with_reducible rfl
  simp only [Act.put, List.setIfInBounds_toArray, List.set_cons_zero, List.set_cons_succ]
  refine wpAnyH_takeD (i := 8) (d := some 36) (v := ?_) rfl (by kernel_rfl) (by kernel_rfl) (by kernel_rfl) NoPanic.hQ ?_ (by assumption) ?_
  rotate_left
  · intro o ho
    simp only [List.getElem?_toArray, List.getElem?_cons_zero, List.getElem?_cons_succ, Option.some.injEq] at ho
    subst ho
    refine ⟨by rfl, fun w hSw => ?_⟩
    go_simp
    try with_reducible rfl
  simp only [Act.put, List.setIfInBounds_toArray, List.set_cons_zero, List.set_cons_succ]
  refine wpAnyH_takeD (i := 9) (d := some 37) (v := ?_) rfl (by kernel_rfl) (by kernel_rfl) (by kernel_rfl) NoPanic.hQ ?_ (by assumption) ?_
  rotate_left
  · intro o ho
    simp only [List.getElem?_toArray, List.getElem?_cons_zero, List.getElem?_cons_succ, Option.some.injEq] at ho
    subst ho
    refine ⟨by rfl, fun w hSw => ?_⟩
    go_simp
    try with_reducible rfl
  simp only [Act.put, List.setIfInBounds_toArray, List.set_cons_zero, List.set_cons_succ]
  refine wpAnyH_takeD (i := 10) (d := some 38) (v := ?_) rfl (by kernel_rfl) (by kernel_rfl) (by kernel_rfl) NoPanic.hQ ?_ (by assumption) ?_
  rotate_left
  · intro o ho
    simp only [List.getElem?_toArray, List.getElem?_cons_zero, List.getElem?_cons_succ, Option.some.injEq] at ho
    subst ho
    refine ⟨by rfl, fun w hSw => ?_⟩
    go_simp
    try with_reducible rfl
  simp only [Act.put, List.setIfInBounds_toArray, List.set_cons_zero, List.set_cons_succ]
  refine wpAnyH_takeD (i := 11) (d := some 39) (v := ?_) rfl (by kernel_rfl) (by kernel_rfl) (by kernel_rfl) NoPanic.hQ ?_ (by assumption) ?_
  rotate_left
  · intro o ho
    simp only [List.getElem?_toArray, List.getElem?_cons_zero, List.getElem?_cons_succ, Option.some.injEq] at ho
    subst ho
    refine ⟨by rfl, fun w hSw => ?_⟩
    go_simp
    try with_reducible rfl
  simp only [Act.put, List.setIfInBounds_toArray, List.set_cons_zero, List.set_cons_succ]
  refine wpAnyH_takeD (i := 12) (d := some 40) (v := ?_) rfl (by kernel_rfl) (by kernel_rfl) (by kernel_rfl) NoPanic.hQ ?_ (by assumption) ?_
  rotate_left
  · intro o ho
    simp only [List.getElem?_toArray, List.getElem?_cons_zero, List.getElem?_cons_succ, Option.some.injEq] at ho
    subst ho
    refine ⟨by rfl, fun w hSw => ?_⟩
    go_simp
    try with_reducible rfl
  simp only [Act.put, List.setIfInBounds_toArray, List.set_cons_zero, List.set_cons_succ]
  refine wpAnyH_takeD (i := 13) (d := some 41) (v := ?_) rfl (by kernel_rfl) (by kernel_rfl) (by kernel_rfl) NoPanic.hQ ?_ (by assumption) ?_
  rotate_left
  · intro o ho
    simp only [List.getElem?_toArray, List.getElem?_cons_zero, List.getElem?_cons_succ, Option.some.injEq] at ho
    subst ho
    refine ⟨by rfl, fun w hSw => ?_⟩
    go_simp
    try with_reducible rfl
  simp only [Act.put, List.setIfInBounds_toArray, List.set_cons_zero, List.set_cons_succ]
  refine wpAnyH_takeD (i := 14) (d := some 42) (v := ?_) rfl (by kernel_rfl) (by kernel_rfl) (by kernel_rfl) NoPanic.hQ ?_ (by assumption) ?_
  rotate_left
  · intro o ho
    simp only [List.getElem?_toArray, List.getElem?_cons_zero, List.getElem?_cons_succ, Option.some.injEq] at ho
    subst ho
    refine ⟨by rfl, fun w hSw => ?_⟩
    go_simp
    try with_reducible rfl
  simp only [Act.put, List.setIfInBounds_toArray, List.set_cons_zero, List.set_cons_succ]
  refine wpAnyH_takeD (i := 15) (d := some 43) (v := ?_) rfl (by kernel_rfl) (by kernel_rfl) (by kernel_rfl) NoPanic.hQ ?_ (by assumption) ?_
  rotate_left
  · intro o ho
    simp only [List.getElem?_toArray, List.getElem?_cons_zero, List.getElem?_cons_succ, Option.some.injEq] at ho
    subst ho
    refine ⟨by rfl, fun w hSw => ?_⟩
    go_simp
    try with_reducible rfl
  simp only [Act.put, List.setIfInBounds_toArray, List.set_cons_zero, List.set_cons_succ]
  refine wpAnyH_skipD (i := 16) (d := some 44) rfl (by kernel_rfl) (by kernel_rfl) (by kernel_rfl) NoPanic.hQ ?_ (by assumption) ?_
  · intro o ho
    simp only [List.getElem?_toArray, List.getElem?_cons_zero, List.getElem?_cons_succ, Option.some.injEq] at ho
    subst ho
    rfl
  simp only [Act.put, List.setIfInBounds_toArray, List.set_cons_zero, List.set_cons_succ]
  refine wpAnyH_skipD (i := 17) (d := some 45) rfl (by kernel_rfl) (by kernel_rfl) (by kernel_rfl) NoPanic.hQ ?_ (by assumption) ?_
  · intro o ho
    simp only [List.getElem?_toArray, List.getElem?_cons_zero, List.getElem?_cons_succ, Option.some.injEq] at ho
    subst ho
    rfl
  simp only [Act.put, List.setIfInBounds_toArray, List.set_cons_zero, List.set_cons_succ]
  refine wpAnyH_skipD (i := 18) (d := some 46) rfl (by kernel_rfl) (by kernel_rfl) (by kernel_rfl) NoPanic.hQ ?_ (by assumption) ?_
  · intro o ho
    simp only [List.getElem?_toArray, List.getElem?_cons_zero, List.getElem?_cons_succ, Option.some.injEq] at ho
    subst ho
    rfl
  simp only [Act.put, List.setIfInBounds_toArray, List.set_cons_zero, List.set_cons_succ]
  refine wpAnyH_skipD (i := 19) (d := some 47) rfl (by kernel_rfl) (by kernel_rfl) (by kernel_rfl) NoPanic.hQ ?_ (by assumption) ?_
  · intro o ho
    simp only [List.getElem?_toArray, List.getElem?_cons_zero, List.getElem?_cons_succ, Option.some.injEq] at ho
    subst ho
    rfl
  simp only [Act.put, List.setIfInBounds_toArray, List.set_cons_zero, List.set_cons_succ]
  refine wpAnyH_skipD (i := 20) (d := some 48) rfl (by kernel_rfl) (by kernel_rfl) (by kernel_rfl) NoPanic.hQ ?_ (by assumption) ?_
  · intro o ho
    simp only [List.getElem?_toArray, List.getElem?_cons_zero, List.getElem?_cons_succ, Option.some.injEq] at ho
    subst ho
    rfl
  simp only [Act.put, List.setIfInBounds_toArray, List.set_cons_zero, List.set_cons_succ]
  refine wpAnyH_skipD (i := 21) (d := some 49) rfl (by kernel_rfl) (by kernel_rfl) (by kernel_rfl) NoPanic.hQ ?_ (by assumption) ?_
  · intro o ho
    simp only [List.getElem?_toArray, List.getElem?_cons_zero, List.getElem?_cons_succ, Option.some.injEq] at ho
    subst ho
    rfl
  simp only [Act.put, List.setIfInBounds_toArray, List.set_cons_zero, List.set_cons_succ]
  refine wpAnyH_takeD (i := 22) (d := some 50) (v := ?_) rfl (by kernel_rfl) (by kernel_rfl) (by kernel_rfl) NoPanic.hQ ?_ (by assumption) ?_
  rotate_left
  · intro o ho
    simp only [List.getElem?_toArray, List.getElem?_cons_zero, List.getElem?_cons_succ, Option.some.injEq] at ho
    subst ho
    refine ⟨by rfl, fun w hSw => ?_⟩
    go_simp
    try with_reducible rfl
  simp only [Act.put, List.setIfInBounds_toArray, List.set_cons_zero, List.set_cons_succ]
  refine wpAnyH_takeD (i := 23) (d := some 51) (v := ?_) rfl (by kernel_rfl) (by kernel_rfl) (by kernel_rfl) NoPanic.hQ ?_ (by assumption) ?_
  rotate_left
  · intro o ho
    simp only [List.getElem?_toArray, List.getElem?_cons_zero, List.getElem?_cons_succ, Option.some.injEq] at ho
    subst ho
    refine ⟨by rfl, fun w hSw => ?_⟩
    go_simp
    try with_reducible rfl
  simp only [Act.put, List.setIfInBounds_toArray, List.set_cons_zero, List.set_cons_succ]
  refine wpAnyH_takeD (i := 24) (d := some 52) (v := ?_) rfl (by kernel_rfl) (by kernel_rfl) (by kernel_rfl) NoPanic.hQ ?_ (by assumption) ?_
  rotate_left
  · intro o ho
    simp only [List.getElem?_toArray, List.getElem?_cons_zero, List.getElem?_cons_succ, Option.some.injEq] at ho
    subst ho
    refine ⟨by rfl, fun w hSw => ?_⟩
    go_simp
    try with_reducible rfl
  simp only [Act.put, List.setIfInBounds_toArray, List.set_cons_zero, List.set_cons_succ]
  refine wpAnyH_takeD (i := 25) (d := some 53) (v := ?_) rfl (by kernel_rfl) (by kernel_rfl) (by kernel_rfl) NoPanic.hQ ?_ (by assumption) ?_
  rotate_left
  · intro o ho
    simp only [List.getElem?_toArray, List.getElem?_cons_zero, List.getElem?_cons_succ, Option.some.injEq] at ho
    subst ho
    refine ⟨by rfl, fun w hSw => ?_⟩
    go_simp
    try with_reducible rfl
  simp only [Act.put, List.setIfInBounds_toArray, List.set_cons_zero, List.set_cons_succ]
  refine wpAnyH_takeD (i := 26) (d := some 54) (v := ?_) rfl (by kernel_rfl) (by kernel_rfl) (by kernel_rfl) NoPanic.hQ ?_ (by assumption) ?_
  rotate_left
  · intro o ho
    simp only [List.getElem?_toArray, List.getElem?_cons_zero, List.getElem?_cons_succ, Option.some.injEq] at ho
    subst ho
    refine ⟨by rfl, fun w hSw => ?_⟩
    go_simp
    try with_reducible rfl
  simp only [Act.put, List.setIfInBounds_toArray, List.set_cons_zero, List.set_cons_succ]
  refine wpAnyH_takeD (i := 27) (d := some 55) (v := ?_) rfl (by kernel_rfl) (by kernel_rfl) (by kernel_rfl) NoPanic.hQ ?_ (by assumption) ?_
  rotate_left
  · intro o ho
    simp only [List.getElem?_toArray, List.getElem?_cons_zero, List.getElem?_cons_succ, Option.some.injEq] at ho
    subst ho
    refine ⟨by rfl, fun w hSw => ?_⟩
    go_simp
    try with_reducible rfl
  simp only [Act.put, List.setIfInBounds_toArray, List.set_cons_zero, List.set_cons_succ]
  refine wpAnyH_takeD (i := 28) (d := some 56) (v := ?_) rfl (by kernel_rfl) (by kernel_rfl) (by kernel_rfl) NoPanic.hQ ?_ (by assumption) ?_
  rotate_left
  · intro o ho
    simp only [List.getElem?_toArray, List.getElem?_cons_zero, List.getElem?_cons_succ, Option.some.injEq] at ho
    subst ho
    refine ⟨by rfl, fun w hSw => ?_⟩
    go_simp
    try with_reducible rfl
  simp only [Act.put, List.setIfInBounds_toArray, List.set_cons_zero, List.set_cons_succ]
  refine wpAnyH_takeD (i := 29) (d := some 57) (v := ?_) rfl (by kernel_rfl) (by kernel_rfl) (by kernel_rfl) NoPanic.hQ ?_ (by assumption) ?_
  rotate_left
  · intro o ho
    simp only [List.getElem?_toArray, List.getElem?_cons_zero, List.getElem?_cons_succ, Option.some.injEq] at ho
    subst ho
    refine ⟨by rfl, fun w hSw => ?_⟩
    go_simp
    try with_reducible rfl
  simp only [Act.put, List.setIfInBounds_toArray, List.set_cons_zero, List.set_cons_succ]
  refine wpAnyH_takeD (i := 30) (d := some 58) (v := ?_) rfl (by kernel_rfl) (by kernel_rfl) (by kernel_rfl) NoPanic.hQ ?_ (by assumption) ?_
  rotate_left
  · intro o ho
    simp only [List.getElem?_toArray, List.getElem?_cons_zero, List.getElem?_cons_succ, Option.some.injEq] at ho
    subst ho
    refine ⟨by rfl, fun w hSw => ?_⟩
    go_simp
    try with_reducible rfl
  simp only [Act.put, List.setIfInBounds_toArray, List.set_cons_zero, List.set_cons_succ]
  refine wpAnyH_takeD (i := 31) (d := some 59) (v := ?_) rfl (by kernel_rfl) (by kernel_rfl) (by kernel_rfl) NoPanic.hQ ?_ (by assumption) ?_
  rotate_left
  · intro o ho
    simp only [List.getElem?_toArray, List.getElem?_cons_zero, List.getElem?_cons_succ, Option.some.injEq] at ho
    subst ho
    refine ⟨by rfl, fun w hSw => ?_⟩
    go_simp
    try with_reducible rfl
  simp only [Act.put, List.setIfInBounds_toArray, List.set_cons_zero, List.set_cons_succ]
  refine wpAnyH_takeD (i := 32) (d := some 60) (v := ?_) rfl (by kernel_rfl) (by kernel_rfl) (by kernel_rfl) NoPanic.hQ ?_ (by assumption) ?_
  rotate_left
  · intro o ho
    simp only [List.getElem?_toArray, List.getElem?_cons_zero, List.getElem?_cons_succ, Option.some.injEq] at ho
    subst ho
    refine ⟨by rfl, fun w hSw => ?_⟩
    go_simp
    try with_reducible rfl
  simp only [Act.put, List.setIfInBounds_toArray, List.set_cons_zero, List.set_cons_succ]
  refine wpAnyH_takeD (i := 33) (d := some 4) (v := ?_) rfl (by kernel_rfl) (by kernel_rfl) (by kernel_rfl) NoPanic.hQ ?_ (by assumption) ?_
  rotate_left
  · intro o ho
    simp only [List.getElem?_toArray, List.getElem?_cons_zero, List.getElem?_cons_succ, Option.some.injEq] at ho
    subst ho
    refine ⟨by rfl, fun w hSw => ?_⟩
    go_simp
    try with_reducible rfl
  simp only [Act.put, List.setIfInBounds_toArray, List.set_cons_zero, List.set_cons_succ]
  refine wpAnyH_done (by kernel_rfl) ?_ _
  refine NoPanic.normal ?_
  go_wp2
  go_ret
  exact ⟨rfl, (hb1.trans ((Kp.out hk14).mono hb1.size)).drew⟩
set_option maxRecDepth 100000 in
theorem back_ok (a : Option Addr) (n cap : Nat) (l : List UInt8) (a2 : Option Addr) (n2 cap2 : Nat) (l2 : List UInt8) (w : World) (hs : Shape a n cap) (hr : Rd w a n l) (hs2 : Shape a2 n2 cap2) (hr2 : Rd w a2 n2 l2)
    (hz : IsSealed (l2.take (fewN n2))) :
    Calls Try.prog 7 #[.slice a n cap, .slice a2 n2 cap2] w fun e w' => e = .returned (.bool true) ∧ Below w.heap.size w w' := by
  obtain ⟨T, hT⟩ := IsText.some
  have HT := Lib.hid hT
  clear hT
  obtain ⟨p, hp⟩ : ∃ p, fewN n = p := ⟨_, rfl⟩
  obtain ⟨hn1, hn2⟩ := fewN_le n
  rw [hp] at hn1 hn2
  obtain ⟨q, hq⟩ : ∃ q, fewN n2 = q := ⟨_, rfl⟩
  obtain ⟨hm1, hm2⟩ := fewN_le n2
  rw [hq] at hm1 hm2 hz
  have HP := Lib.hid hp
  have HQ := Lib.hid hq
  clear hp hq
  have hra := hr.take p hn1
  have hsa := hs.less p hn1
  have hrb := hr2.take q hm1
  have hsb := hs2.less q hm1
  generalize l.take p = x at *
  generalize l2.take q = y at *
  have HZ := Lib.hid hz
  clear hz
  have hfold : ∀ (v : Value) (w : World), (convert 23 9 v).run Try.prog w = T w v := HT.out
  go_enter Try.func7, Try.ntmps7
  go_wp2_with fail
  refine (shown_any _).mono ?_
  rintro e w1 ⟨rfl, hb1⟩
  have hra1 := hra.below hb1
  have hrb1 := hrb.below hb1
  go_wp2_with fail
  refine (few_is a n cap w1 hs p HP.out).mono ?_
  rintro e w' ⟨rfl, rfl⟩
  go_wp2_with fail
  refine (few_is a2 n2 cap2 w1 hs2 q HQ.out).mono ?_
  rintro e w' ⟨rfl, rfl⟩
  go_wp2_with fail
  refine (seal_any a _ cap x _ hsa hra1 (by omega)).mono ?_
  rintro e w2 ⟨g2, c2, rfl, ho2, hb2⟩
  have hxl : x.length = p := hra.1
  have HXL := Lib.hid hxl
  clear hxl
  rw [HXL.out] at ho2
  go_wp2_with fail
  rw [HXL.out]
  refine (open_ok _ (p + 4) c2 (sealed x) _ ho2.shape ho2.rd (by omega) (by omega) (more_seal x)).mono ?_
  rintro e w3 ⟨ac, cc, rfl, hoc, hb3⟩
  rw [show (sealed x).take (p + 4 - 4) = x from by rw [Nat.add_sub_cancel, ← HXL.out]; exact sealed_take x, Nat.add_sub_cancel] at hoc
  have hk13 : Kp w1 w3 := Kp.step hb3 hb2
  have hrb3 := Rd.kp hk13 hrb1
  go_wp2_with fail
  refine (open_ok a2 q cap2 y _ hsb hrb3 (by omega) (by rw [← hrb.1]; exact HZ.out.1) HZ.out.2).mono ?_
  rintro e w4 ⟨ad, cd, rfl, hod, hb4⟩
  have hdy : sealed (y.take (q - 4)) = y := by rw [← hrb.1]; exact seal_of_zero y HZ.out.1 HZ.out.2
  generalize y.take (q - 4) = d at *
  have HD := Lib.hid hdy
  clear hdy
  have hk34 : Kp w3 w4 := hb4
  have hk14 := hk13.trans hk34
  have hrc4 := Rd.kp hk34 hoc.rd
  have hsc := hoc.shape
  have hra4 := Rd.kp hk14 hra1
  have hrb4 := Rd.kp hk14 hrb1
  have hcc : ∀ w', Kp w4 w' → T w' (.slice ac p cc) = .ok (.string (str x)) w' := fun w' hk => (Rd.kp hk hrc4).textRun HT.out cc hsc
  have hcx : ∀ w', Kp w4 w' → T w' (.slice a p cap) = .ok (.string (str x)) w' := fun w' hk => (Rd.kp hk hra4).textRun HT.out cap hsa
  have hcy : ∀ w', Kp w4 w' → T w' (.slice a2 q cap2) = .ok (.string (str y)) w' := fun w' hk => (Rd.kp hk hrb4).textRun HT.out cap2 hsb
  go_wp2_with fail
  refine wp_region_noPanic ?_
  refine wp_region_held_drew (S := fun w' => Kp w4 w') (by kernel_rfl) ((Kp.refl w4).drew) (fun hHeld => ?_)
  refine wpAnyH_takeD (i := 0) (d := some 28) (v := ?_) rfl (by kernel_rfl) (by kernel_rfl) (by kernel_rfl) NoPanic.hQ ?_ (by assumption) ?_
  rotate_left
  · intro o ho
    simp only [List.getElem?_toArray, List.getElem?_cons_zero, Option.some.injEq] at ho
    subst ho
    refine ⟨by rfl, fun w hSw => ?_⟩
    go_simp
    try with_reducible rfl
  simp only [Act.put, List.setIfInBounds_toArray, List.set_cons_zero, List.set_cons_succ]
  refine wpAnyH_takeD (i := 1) (d := some 29) (v := ?_) rfl (by kernel_rfl) (by kernel_rfl) (by kernel_rfl) NoPanic.hQ ?_ (by assumption) ?_
  rotate_left
  · intro o ho
    simp only [List.getElem?_toArray, List.getElem?_cons_zero, List.getElem?_cons_succ, Option.some.injEq] at ho
    subst ho
    refine ⟨by rfl, fun w hSw => ?_⟩
    go_simp
    try with_reducible rfl
  simp only [Act.put, List.setIfInBounds_toArray, List.set_cons_zero, List.set_cons_succ]
  refine wpAnyH_takeD (i := 2) (d := some 30) (v := ?_) rfl (by kernel_rfl) (by kernel_rfl) (by kernel_rfl) NoPanic.hQ ?_ (by assumption) ?_
  rotate_left
  · intro o ho
    simp only [List.getElem?_toArray, List.getElem?_cons_zero, List.getElem?_cons_succ, Option.some.injEq] at ho
    subst ho
    refine ⟨by rfl, fun w hSw => ?_⟩
    go_simp
    try with_reducible rfl
  simp only [Act.put, List.setIfInBounds_toArray, List.set_cons_zero, List.set_cons_succ]
  refine wpAnyH_takeD (i := 3) (d := some 31) (v := ?_) rfl (by kernel_rfl) (by kernel_rfl) (by kernel_rfl) NoPanic.hQ ?_ (by assumption) ?_
  rotate_left
  · intro o ho
    simp only [List.getElem?_toArray, List.getElem?_cons_zero, List.getElem?_cons_succ, Option.some.injEq] at ho
    subst ho
    refine ⟨by rfl, fun w hSw => ?_⟩
    go_simp
    try with_reducible rfl
  simp only [Act.put, List.setIfInBounds_toArray, List.set_cons_zero, List.set_cons_succ]
  refine wpAnyH_takeD (i := 4) (d := some 32) (v := ?_) rfl (by kernel_rfl) (by kernel_rfl) (by kernel_rfl) NoPanic.hQ ?_ (by assumption) ?_
  rotate_left
  · intro o ho
    simp only [List.getElem?_toArray, List.getElem?_cons_zero, List.getElem?_cons_succ, Option.some.injEq] at ho
    subst ho
    refine ⟨by rfl, fun w hSw => ?_⟩
    go_simp
    try with_reducible rfl
  simp only [Act.put, List.setIfInBounds_toArray, List.set_cons_zero, List.set_cons_succ]
  refine wpAnyH_takeD (i := 5) (d := some 33) (v := ?_) rfl (by kernel_rfl) (by kernel_rfl) (by kernel_rfl) NoPanic.hQ ?_ (by assumption) ?_
  rotate_left
  · intro o ho
    simp only [List.getElem?_toArray, List.getElem?_cons_zero, List.getElem?_cons_succ, Option.some.injEq] at ho
    subst ho
    refine ⟨by rfl, fun w hSw => ?_⟩
    go_simp
    try with_reducible rfl
  simp only [Act.put, List.setIfInBounds_toArray, List.set_cons_zero, List.set_cons_succ]
  refine wpAnyH_takeD (i := 6) (d := some 34) (v := ?_) rfl (by kernel_rfl) (by kernel_rfl) (by kernel_rfl) NoPanic.hQ ?_ (by assumption) ?_
  rotate_left
  · intro o ho
    simp only [List.getElem?_toArray, List.getElem?_cons_zero, List.getElem?_cons_succ, Option.some.injEq] at ho
    subst ho
    refine ⟨by rfl, fun w hSw => ?_⟩
    go_simp
    try with_reducible rfl
  simp only [Act.put, List.setIfInBounds_toArray, List.set_cons_zero, List.set_cons_succ]
  refine wpAnyH_takeD (i := 7) (d := some 35) (v := ?_) rfl (by kernel_rfl) (by kernel_rfl) (by kernel_rfl) NoPanic.hQ ?_ (by assumption) ?_
  rotate_left
  · intro o ho
    simp only [List.getElem?_toArray, List.getElem?_cons_zero, List.getElem?_cons_succ, Option.some.injEq] at ho
    subst ho
    refine ⟨by rfl, fun w hSw => ?_⟩
    go_simp
    try with_reducible rfl
  simp only [Act.put, List.setIfInBounds_toArray, List.set_cons_zero, List.set_cons_succ]
  refine wpAnyH_takeD (i := 8) (d := some 36) (v := ?_) rfl (by kernel_rfl) (by kernel_rfl) (by kernel_rfl) NoPanic.hQ ?_ (by assumption) ?_
  rotate_left
  · intro o ho
    simp only [List.getElem?_toArray, List.getElem?_cons_zero, List.getElem?_cons_succ, Option.some.injEq] at ho
    subst ho
    refine ⟨by rfl, fun w hSw => ?_⟩
    go_simp
    try with_reducible rfl
  simp only [Act.put, List.setIfInBounds_toArray, List.set_cons_zero, List.set_cons_succ]
  refine wpAnyH_takeD (i := 9) (d := some 37) (v := ?_) rfl (by kernel_rfl) (by kernel_rfl) (by kernel_rfl) NoPanic.hQ ?_ (by assumption) ?_
  rotate_left
  · intro o ho
    simp only [List.getElem?_toArray, List.getElem?_cons_zero, List.getElem?_cons_succ, Option.some.injEq] at ho
    subst ho
    refine ⟨by rfl, fun w hSw => ?_⟩
    go_simp
    try with_reducible rfl
  simp only [Act.put, List.setIfInBounds_toArray, List.set_cons_zero, List.set_cons_succ]
  refine wpAnyH_takeD (i := 10) (d := some 38) (v := ?_) rfl (by kernel_rfl) (by kernel_rfl) (by kernel_rfl) NoPanic.hQ ?_ (by assumption) ?_
  rotate_left
  · intro o ho
    simp only [List.getElem?_toArray, List.getElem?_cons_zero, List.getElem?_cons_succ, Option.some.injEq] at ho
    subst ho
    refine ⟨by rfl, fun w hSw => ?_⟩
    go_simp
    try with_reducible rfl
  simp only [Act.put, List.setIfInBounds_toArray, List.set_cons_zero, List.set_cons_succ]
  refine wpAnyH_takeD (i := 11) (d := some 39) (v := ?_) rfl (by kernel_rfl) (by kernel_rfl) (by kernel_rfl) NoPanic.hQ ?_ (by assumption) ?_
  rotate_left
  · intro o ho
    simp only [List.getElem?_toArray, List.getElem?_cons_zero, List.getElem?_cons_succ, Option.some.injEq] at ho
    subst ho
    refine ⟨by rfl, fun w hSw => ?_⟩
    go_simp
    try with_reducible rfl
  simp only [Act.put, List.setIfInBounds_toArray, List.set_cons_zero, List.set_cons_succ]
  refine wpAnyH_takeD (i := 12) (d := some 40) (v := ?_) rfl (by kernel_rfl) (by kernel_rfl) (by kernel_rfl) NoPanic.hQ ?_ (by assumption) ?_
  rotate_left
  · intro o ho
    simp only [List.getElem?_toArray, List.getElem?_cons_zero, List.getElem?_cons_succ, Option.some.injEq] at ho
    subst ho
    refine ⟨by rfl, fun w hSw => ?_⟩
    go_simp
    try with_reducible rfl
  simp only [Act.put, List.setIfInBounds_toArray, List.set_cons_zero, List.set_cons_succ]
  refine wpAnyH_takeD (i := 13) (d := some 41) (v := ?_) rfl (by kernel_rfl) (by kernel_rfl) (by kernel_rfl) NoPanic.hQ ?_ (by assumption) ?_
  rotate_left
  · intro o ho
    simp only [List.getElem?_toArray, List.getElem?_cons_zero, List.getElem?_cons_succ, Option.some.injEq] at ho
    subst ho
    refine ⟨by rfl, fun w hSw => ?_⟩
    go_simp
    try with_reducible rfl
  simp only [Act.put, List.setIfInBounds_toArray, List.set_cons_zero, List.set_cons_succ]
  refine wpAnyH_takeD (i := 14) (d := some 42) (v := ?_) rfl (by kernel_rfl) (by kernel_rfl) (by kernel_rfl) NoPanic.hQ ?_ (by assumption) ?_
  rotate_left
  · intro o ho
    simp only [List.getElem?_toArray, List.getElem?_cons_zero, List.getElem?_cons_succ, Option.some.injEq] at ho
    subst ho
    refine ⟨by rfl, fun w hSw => ?_⟩
    go_simp
    try with_reducible rfl
  simp only [Act.put, List.setIfInBounds_toArray, List.set_cons_zero, List.set_cons_succ]
  refine wpAnyH_takeD (i := 15) (d := some 43) (v := ?_) rfl (by kernel_rfl) (by kernel_rfl) (by kernel_rfl) NoPanic.hQ ?_ (by assumption) ?_
  rotate_left
  · intro o ho
    simp only [List.getElem?_toArray, List.getElem?_cons_zero, List.getElem?_cons_succ, Option.some.injEq] at ho
    subst ho
    refine ⟨by rfl, fun w hSw => ?_⟩
    go_simp
    try with_reducible rfl
  simp only [Act.put, List.setIfInBounds_toArray, List.set_cons_zero, List.set_cons_succ]
  refine wpAnyH_takeD (i := 16) (d := some 44) (v := ?_) rfl (by kernel_rfl) (by kernel_rfl) (by kernel_rfl) NoPanic.hQ ?_ (by assumption) ?_
  rotate_left
  · intro o ho
    simp only [List.getElem?_toArray, List.getElem?_cons_zero, List.getElem?_cons_succ, Option.some.injEq] at ho
    subst ho
    refine ⟨by rfl, fun w hSw => ?_⟩
    go_simp
    try with_reducible rfl
  simp only [Act.put, List.setIfInBounds_toArray, List.set_cons_zero, List.set_cons_succ]
  refine wpAnyH_takeD (i := 19) (d := some 47) (v := ?_) rfl (by kernel_rfl) (by kernel_rfl) (by kernel_rfl) NoPanic.hQ ?_ (by assumption) ?_
  rotate_left
  · intro o ho
    simp only [List.getElem?_toArray, List.getElem?_cons_zero, List.getElem?_cons_succ, Option.some.injEq] at ho
    subst ho
    refine ⟨by rfl, fun w hSw => ?_⟩
    go_simp
    try with_reducible rfl
  simp only [Act.put, List.setIfInBounds_toArray, List.set_cons_zero, List.set_cons_succ]
  refine wpAnyH_takeD (i := 20) (d := some 48) (v := ?_) rfl (by kernel_rfl) (by kernel_rfl) (by kernel_rfl) NoPanic.hQ ?_ (by assumption) ?_
  rotate_left
  · intro o ho
    simp only [List.getElem?_toArray, List.getElem?_cons_zero, List.getElem?_cons_succ, Option.some.injEq] at ho
    subst ho
    refine ⟨by rfl, fun w hSw => ?_⟩
    go_simp
    try with_reducible rfl
  simp only [Act.put, List.setIfInBounds_toArray, List.set_cons_zero, List.set_cons_succ]
  refine wpAnyH_oneD (i := 17) (by kernel_rfl) ?_
  intro o ho
  simp only [List.getElem?_toArray, List.getElem?_cons_zero, List.getElem?_cons_succ, Option.some.injEq] at ho
  subst ho
  refine ⟨by rfl, fun K hK => ?_⟩
  go_simp
  refine (seal_any ad _ cd _ _ hod.shape (Rd.kp (by assumption) hod.rd) (by omega)).mono ?_
  rintro e w5 ⟨g5, c5, rfl, ho5, hb5⟩
  have hk5 : Kp w4 w5 := Kp.step hb5 (by assumption)
  go_wp2_with fail
  refine hK.out _ _ hk5 ?_
  clear hK K
  have hrs5 := ho5.rd
  have hss5 := ho5.shape
  have ht5 : ∀ w', Kp w5 w' → T w' (.slice (some ⟨g5, 0, none⟩) (d.length + 4) c5) = .ok (.string (str y)) w' := fun w' hk => by
    have := (Rd.kp hk hrs5).textRun HT.out c5 hss5
    rw [HD.out] at this
    exact this
  refine wpAnyH_mono (S2 := fun w' => Kp w5 w') (fun w' hk => hk5.trans hk) _ _ _ _ ?_
  have hHeld5 := Kp.refl w5
  refine wpAnyH_takeD (i := 18) (d := some 46) (v := ?_) rfl (by kernel_rfl) (by kernel_rfl) (by kernel_rfl) NoPanic.hQ ?_ (by assumption) ?_
  rotate_left
  · intro o ho
    simp only [List.getElem?_toArray, List.getElem?_cons_zero, List.getElem?_cons_succ, Option.some.injEq] at ho
    subst ho
    refine ⟨by rfl, fun w hSw => ?_⟩
    go_simp
    try with_reducible rfl
  simp only [Act.put, List.setIfInBounds_toArray, List.set_cons_zero, List.set_cons_succ]
  refine wpAnyH_takeD (i := 21) (d := some 49) (v := ?_) rfl (by kernel_rfl) (by kernel_rfl) (by kernel_rfl) NoPanic.hQ ?_ (by assumption) ?_
  rotate_left
  · intro o ho
    simp only [List.getElem?_toArray, List.getElem?_cons_zero, List.getElem?_cons_succ, Option.some.injEq] at ho
    subst ho
    refine ⟨by rfl, fun w hSw => ?_⟩
    go_simp
    try with_reducible rfl
  simp only [Act.put, List.setIfInBounds_toArray, List.set_cons_zero, List.set_cons_succ]
  refine wpAnyH_takeD (i := 22) (d := some 50) (v := ?_) rfl (by kernel_rfl) (by kernel_rfl) (by kernel_rfl) NoPanic.hQ ?_ (by assumption) ?_
  rotate_left
  · intro o ho
    simp only [List.getElem?_toArray, List.getElem?_cons_zero, List.getElem?_cons_succ, Option.some.injEq] at ho
    subst ho
    refine ⟨by rfl, fun w hSw => ?_⟩
    go_simp
    try with_reducible rfl
  simp only [Act.put, List.setIfInBounds_toArray, List.set_cons_zero, List.set_cons_succ]
  refine wpAnyH_takeD (i := 23) (d := some 51) (v := ?_) rfl (by kernel_rfl) (by kernel_rfl) (by kernel_rfl) NoPanic.hQ ?_ (by assumption) ?_
  rotate_left
  · intro o ho
    simp only [List.getElem?_toArray, List.getElem?_cons_zero, List.getElem?_cons_succ, Option.some.injEq] at ho
    subst ho
    refine ⟨by rfl, fun w hSw => ?_⟩
    go_simp
    try with_reducible rfl
  simp only [Act.put, List.setIfInBounds_toArray, List.set_cons_zero, List.set_cons_succ]
  refine wpAnyH_skipD (i := 24) (d := some 52) rfl (by kernel_rfl) (by kernel_rfl) (by kernel_rfl) NoPanic.hQ ?_ (by assumption) ?_
  · intro o ho
    simp only [List.getElem?_toArray, List.getElem?_cons_zero, List.getElem?_cons_succ, Option.some.injEq] at ho
    subst ho
    rfl
  simp only [Act.put, List.setIfInBounds_toArray, List.set_cons_zero, List.set_cons_succ]
  refine wpAnyH_skipD (i := 25) (d := some 53) rfl (by kernel_rfl) (by kernel_rfl) (by kernel_rfl) NoPanic.hQ ?_ (by assumption) ?_
  · intro o ho
    simp only [List.getElem?_toArray, List.getElem?_cons_zero, List.getElem?_cons_succ, Option.some.injEq] at ho
    subst ho
    rfl
  simp only [Act.put, List.setIfInBounds_toArray, List.set_cons_zero, List.set_cons_succ]
  refine wpAnyH_skipD (i := 26) (d := some 54) rfl (by kernel_rfl) (by kernel_rfl) (by kernel_rfl) NoPanic.hQ ?_ (by assumption) ?_
  · intro o ho
    simp only [List.getElem?_toArray, List.getElem?_cons_zero, List.getElem?_cons_succ, Option.some.injEq] at ho
    subst ho
    rfl
  simp only [Act.put, List.setIfInBounds_toArray, List.set_cons_zero, List.set_cons_succ]
  refine wpAnyH_skipD (i := 27) (d := some 55) rfl (by kernel_rfl) (by kernel_rfl) (by kernel_rfl) NoPanic.hQ ?_ (by assumption) ?_
  · intro o ho
    simp only [List.getElem?_toArray, List.getElem?_cons_zero, List.getElem?_cons_succ, Option.some.injEq] at ho
    subst ho
    rfl
  simp only [Act.put, List.setIfInBounds_toArray, List.set_cons_zero, List.set_cons_succ]
  refine wpAnyH_skipD (i := 28) (d := some 56) rfl (by kernel_rfl) (by kernel_rfl) (by kernel_rfl) NoPanic.hQ ?_ (by assumption) ?_
  · intro o ho
    simp only [List.getElem?_toArray, List.getElem?_cons_zero, List.getElem?_cons_succ, Option.some.injEq] at ho
    subst ho
    rfl
  simp only [Act.put, List.setIfInBounds_toArray, List.set_cons_zero, List.set_cons_succ]
  refine wpAnyH_skipD (i := 29) (d := some 57) rfl (by kernel_rfl) (by kernel_rfl) (by kernel_rfl) NoPanic.hQ ?_ (by assumption) ?_
  · intro o ho
    simp only [List.getElem?_toArray, List.getElem?_cons_zero, List.getElem?_cons_succ, Option.some.injEq] at ho
    subst ho
    rfl
  simp only [Act.put, List.setIfInBounds_toArray, List.set_cons_zero, List.set_cons_succ]
  refine wpAnyH_skipD (i := 30) (d := some 58) rfl (by kernel_rfl) (by kernel_rfl) (by kernel_rfl) NoPanic.hQ ?_ (by assumption) ?_
  · intro o ho
    simp only [List.getElem?_toArray, List.getElem?_cons_zero, List.getElem?_cons_succ, Option.some.injEq] at ho
    subst ho
    rfl
  simp only [Act.put, List.setIfInBounds_toArray, List.set_cons_zero, List.set_cons_succ]
  refine wpAnyH_takeD (i := 31) (d := some 59) (v := ?_) rfl (by kernel_rfl) (by kernel_rfl) (by kernel_rfl) NoPanic.hQ ?_ (by assumption) ?_
  rotate_left
  · intro o ho
    simp only [List.getElem?_toArray, List.getElem?_cons_zero, List.getElem?_cons_succ, Option.some.injEq] at ho
    subst ho
    refine ⟨by rfl, fun w hSw => ?_⟩
    go_simp
    try with_reducible rfl
  simp only [Act.put, List.setIfInBounds_toArray, List.set_cons_zero, List.set_cons_succ]
  refine wpAnyH_takeD (i := 32) (d := some 60) (v := ?_) rfl (by kernel_rfl) (by kernel_rfl) (by kernel_rfl) NoPanic.hQ ?_ (by assumption) ?_
  rotate_left
  · intro o ho
    simp only [List.getElem?_toArray, List.getElem?_cons_zero, List.getElem?_cons_succ, Option.some.injEq] at ho
    subst ho
    refine ⟨by rfl, fun w hSw => ?_⟩
    go_simp
    try with_reducible rfl
  simp only [Act.put, List.setIfInBounds_toArray, List.set_cons_zero, List.set_cons_succ]
  refine wpAnyH_takeD (i := 33) (d := some 4) (v := ?_) rfl (by kernel_rfl) (by kernel_rfl) (by kernel_rfl) NoPanic.hQ ?_ (by assumption) ?_
  rotate_left
  · intro o ho
    simp only [List.getElem?_toArray, List.getElem?_cons_zero, List.getElem?_cons_succ, Option.some.injEq] at ho
    subst ho
    refine ⟨by rfl, fun w hSw => ?_⟩
    go_simp
    try with_reducible rfl
  simp only [Act.put, List.setIfInBounds_toArray, List.set_cons_zero, List.set_cons_succ]
  refine wpAnyH_done (by kernel_rfl) ?_ _
  refine NoPanic.normal ?_
  go_wp2
  go_ret
  exact ⟨rfl, hb1.trans ((Kp.out (hk14.trans hk5)).mono hb1.size)⟩
theorem back_walk (a : Option Addr) (n cap : Nat) (l : List UInt8) (a2 : Option Addr) (n2 cap2 : Nat) (l2 : List UInt8) (w : World) (hs : Shape a n cap) (hr : Rd w a n l) (hs2 : Shape a2 n2 cap2) (hr2 : Rd w a2 n2 l2) :
    Calls Try.prog 7 #[.slice a n cap, .slice a2 n2 cap2] w fun e w' => e = .returned (.bool true) ∧ Below w.heap.size w w' := by
  by_cases hz : IsSealed (l2.take (fewN n2))
  · exact back_ok a n cap l a2 n2 cap2 l2 w hs hr hs2 hr2 hz
  · exact back_bad a n cap l a2 n2 cap2 l2 w hs hr hs2 hr2 hz
end Go.Proofs.Ythhfhiiiniogdaa
