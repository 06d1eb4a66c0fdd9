/-
  PROVED: the walk of the law CrcSeals: it returns true and changes nothing that was there (seals_walk). Conditions: the slice reads as some bytes.
-/
import Derived.Test.YthhfhiiiniogdaaOA
import Derived.Test.YthhfhiiiniogdaaXors
namespace Go.Proofs.Ythhfhiiiniogdaa
open Go.RowKit Crc
theorem ownsRow_below' {w w' : World} {base : Nat} {v : Value} {n : Nat} {xs : List Value} (h : w.ownsRow base 5 1 v n xs) (hb : Below w.heap.size w w') : w'.ownsRow base 5 1 v n xs := by
  refine ⟨h.1, ?_⟩
  rcases h.2 with h2 | ⟨g, c, cur, hv, hg, hc, h3⟩
  · exact Or.inl h2
  · refine Or.inr ⟨g, c, cur, hv, hg, ?_, h3⟩
    have hlt : g < w.heap.size := by
      rcases Nat.lt_or_ge g w.heap.size with h | h
      · exact h
      · rw [Array.getElem?_eq_none h] at hc
        cases hc
    rw [hb.block g hlt]
    exact hc
theorem Own.addr {w : World} {base : Nat} {a : Option Addr} {n c : Nat} {l : List UInt8} (h : Own w base a n c l) (h0 : 0 < n) : ∃ g, a = some ⟨g, 0, none⟩ := by
  rcases h.2.2 with ⟨_, h2⟩ | ⟨g, c, cur, hv, _⟩
  · omega
  · cases hv
    exact ⟨g, rfl⟩
theorem Own.base {w : World} {base g : Nat} {n c : Nat} {l : List UInt8} (h : Own w base (some ⟨g, 0, none⟩) n c l) : base ≤ g := (h.2.lt g rfl).1
theorem is85 : Is8 85 85 := rfl
set_option maxRecDepth 100000 in
theorem seals_walk (a : Option Addr) (n cap : Nat) (l : List UInt8) (w : World) (hs : Shape a n cap) (hr : Rd w a n l) :
    Calls Try.prog 6 #[.slice a n cap] w fun e w' => e = .returned (.bool true) ∧ Below w.heap.size w w' := by
  obtain ⟨T, hT⟩ := IsText.some
  have HT := Lib.hid hT
  clear hT
  obtain ⟨p, hp⟩ : ∃ p, fewN n = p := ⟨_, rfl⟩
  obtain ⟨hn1, hn2⟩ := fewN_le n
  rw [hp] at hn1 hn2
  have HP := Lib.hid hp
  clear hp
  have hra := hr.take p hn1
  have hsa := hs.less p hn1
  generalize l.take p = x at *
  obtain ⟨y, hy⟩ : ∃ y, openL x = y := ⟨_, rfl⟩
  obtain ⟨E, hE⟩ : ∃ E, openE x = E := ⟨_, rfl⟩
  have hyl : y.length ≤ 5000 := by rw [← hy]; have := openL_le x; have := hra.1; omega
  obtain ⟨m, hm⟩ : ∃ m, y.length = m := ⟨_, rfl⟩
  rw [hm] at hyl
  have HY := Lib.hid hy
  have HE := Lib.hid hE
  have HM := Lib.hid hm
  clear hy hE hm
  have hop : ∀ w, Rd w a p x → Calls Try.prog 15 #[.slice a p cap] w (fun e w' => ∃ a' c, e = .returned (.tuple #[.slice a' m c, .int .i64 E]) ∧ Own w' w.heap.size a' m c y ∧ Below w.heap.size w w') := fun w h => by
    have := open_any a p cap x w hsa h (by omega)
    rw [HY.out, HE.out] at this
    unfold RetOpen at this
    rw [HM.out] at this
    exact this
  have hopR : ∀ w, Rd w a p x → Calls Try.prog 16 #[.slice a p cap] w (fun e w' => ∃ a' c, e = .returned (.tuple #[.slice a' m c, .int .i64 E]) ∧ Shape a' m c ∧ Rd w' a' m y ∧ Below w.heap.size w w') := fun w h => by
    have := refOpen_any a p cap x w hsa h (by omega)
    rw [HY.out, HE.out] at this
    unfold RetOpenR at this
    rw [HM.out] at this
    exact this
  have HOP := Lib.hid hop
  have HOPR := Lib.hid hopR
  clear hop hopR
  have hfold : ∀ (v : Value) (w : World), (convert 23 9 v).run Try.prog w = T w v := HT.out
  go_enter Try.func6, Try.ntmps6
  go_wp2_with fail
  refine (shown_any _).mono ?_
  rintro e w1 ⟨rfl, hb1⟩
  have hra1 := hra.below hb1
  have hcx : ∀ w', Kp w1 w' → T w' (.slice a p cap) = .ok (.string (str x)) w' := fun w' hk => (Rd.kp hk hra1).textRun HT.out cap hsa
  have hcx1 := hcx w1 (Kp.refl _)
  have HCX := Lib.hid hcx
  clear hcx
  go_wp2_with fail
  refine (few_is a n cap w1 hs p HP.out).mono ?_
  rintro e w' ⟨rfl, rfl⟩
  go_wp2_with fail
  refine (HOP.out _ hra1).mono ?_
  rintro e w2 ⟨ac, cc, rfl, hoc, hb2⟩
  have hra2 := hra1.below hb2
  go_wp2_with fail
  refine (HOPR.out _ hra2).mono ?_
  rintro e w3 ⟨ad, cd, rfl, hsd, hrd, hb3⟩
  have hk13 : Kp w1 w3 := Kp.step hb3 hb2
  have hoc3 : Own w3 w1.heap.size ac m cc y := ⟨hoc.1, ownsRow_below' hoc.2 hb3⟩
  have hrc3 := hoc3.rd
  have hsc := hoc3.shape
  have hra3 := Rd.kp hk13 hra1
  have hcc : ∀ w', Kp w3 w' → T w' (.slice ac m cc) = .ok (.string (str y)) w' := fun w' hk => (Rd.kp hk hrc3).textRun HT.out cc hsc
  have hcd : ∀ w', Kp w3 w' → T w' (.slice ad m cd) = .ok (.string (str y)) w' := fun w' hk => (Rd.kp hk hrd).textRun HT.out cd hsd
  clear hcx1
  go_wp2_with fail
  refine wp_region_noPanic ?_
  refine wp_region_held_drew (S := fun w' => Kp w3 w') (by kernel_rfl) ((Kp.refl w3).drew) (fun hHeld => ?_)
  refine wpAnyH_takeD (i := 0) (d := some 27) (v := ?_) rfl (by kernel_rfl) (by kernel_rfl) (by kernel_rfl) NoPanic.hQ ?_ (by assumption) ?_
  rotate_left
  · intro o ho
    simp only [List.getElem?_toArray, List.getElem?_cons_zero, Option.some.injEq] at ho
    subst ho
    refine ⟨by rfl, fun w hSw => ?_⟩
    go_simp
    try with_reducible rfl
  simp only [Act.put, List.setIfInBounds_toArray, List.set_cons_zero, List.set_cons_succ]
  refine wpAnyH_takeD (i := 1) (d := some 28) (v := ?_) rfl (by kernel_rfl) (by kernel_rfl) (by kernel_rfl) NoPanic.hQ ?_ (by assumption) ?_
  rotate_left
  · intro o ho
    simp only [List.getElem?_toArray, List.getElem?_cons_zero, List.getElem?_cons_succ, Option.some.injEq] at ho
    subst ho
    refine ⟨by rfl, fun w hSw => ?_⟩
    go_simp
    try with_reducible rfl
  simp only [Act.put, List.setIfInBounds_toArray, List.set_cons_zero, List.set_cons_succ]
  refine wpAnyH_takeD (i := 2) (d := some 29) (v := ?_) rfl (by kernel_rfl) (by kernel_rfl) (by kernel_rfl) NoPanic.hQ ?_ (by assumption) ?_
  rotate_left
  · intro o ho
    simp only [List.getElem?_toArray, List.getElem?_cons_zero, List.getElem?_cons_succ, Option.some.injEq] at ho
    subst ho
    refine ⟨by rfl, fun w hSw => ?_⟩
    go_simp
    try with_reducible rfl
  simp only [Act.put, List.setIfInBounds_toArray, List.set_cons_zero, List.set_cons_succ]
  refine wpAnyH_takeD (i := 3) (d := some 30) (v := ?_) rfl (by kernel_rfl) (by kernel_rfl) (by kernel_rfl) NoPanic.hQ ?_ (by assumption) ?_
  rotate_left
  · intro o ho
    simp only [List.getElem?_toArray, List.getElem?_cons_zero, List.getElem?_cons_succ, Option.some.injEq] at ho
    subst ho
    refine ⟨by rfl, fun w hSw => ?_⟩
    go_simp
    try with_reducible rfl
  simp only [Act.put, List.setIfInBounds_toArray, List.set_cons_zero, List.set_cons_succ]
  refine wpAnyH_takeD (i := 4) (d := some 31) (v := ?_) rfl (by kernel_rfl) (by kernel_rfl) (by kernel_rfl) NoPanic.hQ ?_ (by assumption) ?_
  rotate_left
  · intro o ho
    simp only [List.getElem?_toArray, List.getElem?_cons_zero, List.getElem?_cons_succ, Option.some.injEq] at ho
    subst ho
    refine ⟨by rfl, fun w hSw => ?_⟩
    go_simp
    try with_reducible rfl
  simp only [Act.put, List.setIfInBounds_toArray, List.set_cons_zero, List.set_cons_succ]
  refine wpAnyH_takeD (i := 5) (d := some 32) (v := ?_) rfl (by kernel_rfl) (by kernel_rfl) (by kernel_rfl) NoPanic.hQ ?_ (by assumption) ?_
  rotate_left
  · intro o ho
    simp only [List.getElem?_toArray, List.getElem?_cons_zero, List.getElem?_cons_succ, Option.some.injEq] at ho
    subst ho
    refine ⟨by rfl, fun w hSw => ?_⟩
    go_simp
    try with_reducible rfl
  simp only [Act.put, List.setIfInBounds_toArray, List.set_cons_zero, List.set_cons_succ]
  refine wpAnyH_takeD (i := 6) (d := some 33) (v := ?_) rfl (by kernel_rfl) (by kernel_rfl) (by kernel_rfl) NoPanic.hQ ?_ (by assumption) ?_
  rotate_left
  · intro o ho
    simp only [List.getElem?_toArray, List.getElem?_cons_zero, List.getElem?_cons_succ, Option.some.injEq] at ho
    subst ho
    refine ⟨by rfl, fun w hSw => ?_⟩
    go_simp
    try with_reducible rfl
  simp only [Act.put, List.setIfInBounds_toArray, List.set_cons_zero, List.set_cons_succ]
  refine wpAnyH_takeD (i := 7) (d := some 34) (v := ?_) rfl (by kernel_rfl) (by kernel_rfl) (by kernel_rfl) NoPanic.hQ ?_ (by assumption) ?_
  rotate_left
  · intro o ho
    simp only [List.getElem?_toArray, List.getElem?_cons_zero, List.getElem?_cons_succ, Option.some.injEq] at ho
    subst ho
    refine ⟨by rfl, fun w hSw => ?_⟩
    go_simp
    try with_reducible rfl
  simp only [Act.put, List.setIfInBounds_toArray, List.set_cons_zero, List.set_cons_succ]
  refine wpAnyH_takeD (i := 8) (d := some 35) (v := ?_) rfl (by kernel_rfl) (by kernel_rfl) (by kernel_rfl) NoPanic.hQ ?_ (by assumption) ?_
  rotate_left
  · intro o ho
    simp only [List.getElem?_toArray, List.getElem?_cons_zero, List.getElem?_cons_succ, Option.some.injEq] at ho
    subst ho
    refine ⟨by rfl, fun w hSw => ?_⟩
    go_simp
    try with_reducible rfl
  simp only [Act.put, List.setIfInBounds_toArray, List.set_cons_zero, List.set_cons_succ]
  refine wpAnyH_takeD (i := 9) (d := some 36) (v := ?_) rfl (by kernel_rfl) (by kernel_rfl) (by kernel_rfl) NoPanic.hQ ?_ (by assumption) ?_
  rotate_left
  · intro o ho
    simp only [List.getElem?_toArray, List.getElem?_cons_zero, List.getElem?_cons_succ, Option.some.injEq] at ho
    subst ho
    refine ⟨by rfl, fun w hSw => ?_⟩
    go_simp
    try with_reducible rfl
  simp only [Act.put, List.setIfInBounds_toArray, List.set_cons_zero, List.set_cons_succ]
  refine wpAnyH_takeD (i := 10) (d := some 37) (v := ?_) rfl (by kernel_rfl) (by kernel_rfl) (by kernel_rfl) NoPanic.hQ ?_ (by assumption) ?_
  rotate_left
  · intro o ho
    simp only [List.getElem?_toArray, List.getElem?_cons_zero, List.getElem?_cons_succ, Option.some.injEq] at ho
    subst ho
    refine ⟨by rfl, fun w hSw => ?_⟩
    go_simp
    try with_reducible rfl
  simp only [Act.put, List.setIfInBounds_toArray, List.set_cons_zero, List.set_cons_succ]
  refine wpAnyH_takeD (i := 11) (d := some 38) (v := ?_) rfl (by kernel_rfl) (by kernel_rfl) (by kernel_rfl) NoPanic.hQ ?_ (by assumption) ?_
  rotate_left
  · intro o ho
    simp only [List.getElem?_toArray, List.getElem?_cons_zero, List.getElem?_cons_succ, Option.some.injEq] at ho
    subst ho
    refine ⟨by rfl, fun w hSw => ?_⟩
    go_simp
    try with_reducible rfl
  simp only [Act.put, List.setIfInBounds_toArray, List.set_cons_zero, List.set_cons_succ]
  refine wpAnyH_takeD (i := 14) (d := some 41) (v := ?_) rfl (by kernel_rfl) (by kernel_rfl) (by kernel_rfl) NoPanic.hQ ?_ (by assumption) ?_
  rotate_left
  · intro o ho
    simp only [List.getElem?_toArray, List.getElem?_cons_zero, List.getElem?_cons_succ, Option.some.injEq] at ho
    subst ho
    refine ⟨by rfl, fun w hSw => ?_⟩
    go_simp
    try with_reducible rfl
  simp only [Act.put, List.setIfInBounds_toArray, List.set_cons_zero, List.set_cons_succ]
  refine wpAnyH_oneD (i := 12) (by kernel_rfl) ?_
  intro o ho
  simp only [List.getElem?_toArray, List.getElem?_cons_zero, List.getElem?_cons_succ, Option.some.injEq] at ho
  subst ho
  refine ⟨by rfl, fun K hK => ?_⟩
  go_simp
  refine (seal_any a _ cap x _ hsa (Rd.kp (by assumption) hra3) (by omega)).mono ?_
  rintro e w4 ⟨g4, c4, rfl, ho4, hb4⟩
  have hk4 : Kp w3 w4 := Kp.step hb4 (by assumption)
  go_wp2_with fail
  refine hK.out _ _ hk4 ?_
  clear hK K
  have hrs4 := ho4.rd
  have hss4 := ho4.shape
  have ht4 : ∀ w', Kp w4 w' → T w' (.slice (some ⟨g4, 0, none⟩) (x.length + 4) c4) = .ok (.string (str (sealed x))) w' := fun w' hk => (Rd.kp hk hrs4).textRun HT.out c4 hss4
  refine wpAnyH_mono (S2 := fun w' => Kp w4 w') (fun w' hk => hk4.trans hk) _ _ _ _ ?_
  have hHeld4 := Kp.refl w4
  refine wpAnyH_takeD (i := 13) (d := some 40) (v := ?_) rfl (by kernel_rfl) (by kernel_rfl) (by kernel_rfl) NoPanic.hQ ?_ (by assumption) ?_
  rotate_left
  · intro o ho
    simp only [List.getElem?_toArray, List.getElem?_cons_zero, List.getElem?_cons_succ, Option.some.injEq] at ho
    subst ho
    refine ⟨by rfl, fun w hSw => ?_⟩
    go_simp
    try with_reducible rfl
  simp only [Act.put, List.setIfInBounds_toArray, List.set_cons_zero, List.set_cons_succ]
  refine wpAnyH_oneD (i := 15) (by kernel_rfl) ?_
  intro o ho
  simp only [List.getElem?_toArray, List.getElem?_cons_zero, List.getElem?_cons_succ, Option.some.injEq] at ho
  subst ho
  refine ⟨by rfl, fun K hK => ?_⟩
  go_simp
  refine (refSeal_any a _ cap x _ hsa (Rd.kp (hk4.trans (by assumption)) hra3) (by omega)).mono ?_
  rintro e w5 ⟨a5, c5, rfl, ho5, hb5⟩
  have hk5 : Kp w4 w5 := Kp.step hb5 (by assumption)
  go_wp2_with fail
  refine hK.out _ _ hk5 ?_
  clear hK K
  have hrs5 := ho5.rd
  have hss5 := ho5.shape
  have ht5 : ∀ w', Kp w5 w' → T w' (.slice a5 (x.length + 4) c5) = .ok (.string (str (sealed x))) w' := fun w' hk => (Rd.kp hk hrs5).textRun HT.out c5 hss5
  refine wpAnyH_mono (S2 := fun w' => Kp w5 w') (fun w' hk => hk5.trans hk) _ _ _ _ ?_
  have hHeld5 := Kp.refl w5
  refine wpAnyH_takeD (i := 16) (d := some 43) (v := ?_) rfl (by kernel_rfl) (by kernel_rfl) (by kernel_rfl) NoPanic.hQ ?_ (by assumption) ?_
  rotate_left
  · intro o ho
    simp only [List.getElem?_toArray, List.getElem?_cons_zero, List.getElem?_cons_succ, Option.some.injEq] at ho
    subst ho
    refine ⟨by rfl, fun w hSw => ?_⟩
    go_simp
    try with_reducible rfl
  simp only [Act.put, List.setIfInBounds_toArray, List.set_cons_zero, List.set_cons_succ]
  refine wpAnyH_takeD (i := 17) (d := some 44) (v := ?_) rfl (by kernel_rfl) (by kernel_rfl) (by kernel_rfl) NoPanic.hQ ?_ (by assumption) ?_
  rotate_left
  · intro o ho
    simp only [List.getElem?_toArray, List.getElem?_cons_zero, List.getElem?_cons_succ, Option.some.injEq] at ho
    subst ho
    refine ⟨by rfl, fun w hSw => ?_⟩
    go_simp
    try with_reducible rfl
  simp only [Act.put, List.setIfInBounds_toArray, List.set_cons_zero, List.set_cons_succ]
  refine wpAnyH_takeD (i := 18) (d := some 45) (v := ?_) rfl (by kernel_rfl) (by kernel_rfl) (by kernel_rfl) NoPanic.hQ ?_ (by assumption) ?_
  rotate_left
  · intro o ho
    simp only [List.getElem?_toArray, List.getElem?_cons_zero, List.getElem?_cons_succ, Option.some.injEq] at ho
    subst ho
    refine ⟨by rfl, fun w hSw => ?_⟩
    go_simp
    try with_reducible rfl
  simp only [Act.put, List.setIfInBounds_toArray, List.set_cons_zero, List.set_cons_succ]
  refine wpAnyH_takeD (i := 19) (d := some 10) (v := ?_) rfl (by kernel_rfl) (by kernel_rfl) (by kernel_rfl) NoPanic.hQ ?_ (by assumption) ?_
  rotate_left
  · intro o ho
    simp only [List.getElem?_toArray, List.getElem?_cons_zero, List.getElem?_cons_succ, Option.some.injEq] at ho
    subst ho
    refine ⟨by rfl, fun w hSw => ?_⟩
    go_simp
    try with_reducible rfl
  simp only [Act.put, List.setIfInBounds_toArray, List.set_cons_zero, List.set_cons_succ]
  refine wpAnyH_done (by kernel_rfl) ?_ _
  refine NoPanic.normal ?_
  have hk35 : Kp w3 w5 := hk4.trans hk5
  have hk15 : Kp w1 w5 := hk13.trans hk35
  have hoc5 : Own w5 w1.heap.size ac m cc y := ⟨hoc3.1, ownsRow_below' hoc3.2 hk35⟩
  clear ht4 ht5 hcc hcd
  go_wp2_with fail
  go_loopw [48] (fun i wr => ∃ k : Nat, k ≤ m ∧ i = .int .i64 k ∧ ∃ ys, Own wr w1.heap.size ac m cc ys ∧ Kp w1 wr) (fun i _ => m - (intOf i).toNat)
  case atStart => exact ⟨0, by omega, rfl, y, hoc5, hk15⟩
  case round =>
    obtain ⟨k, hk, rfl, ys, hown, hkp⟩ := hrel
    by_cases hlt : k < m
    · obtain ⟨g, rfl⟩ := hown.addr (by omega)
      obtain ⟨z, hz, hcz⟩ := hown.at k hlt
      have hfz := hown.2.frozenAt k
      have HZ := Lib.hid hz
      have hz0 := hz.lo
      have hz1 := hz.hi
      have hgb := hown.base
      clear hz
      go_wp2
      go_roundw
      case rel => exact ⟨k + 1, by omega, by go_num, _, hown.stored k _ _ (Is8.xor HZ.out is85), Below.setCell hkp hgb _⟩
      case measure => simp [intOf]; omega
    · have hcx1 := HCX.out wr hkp
      go_wp2
      go_ret
      exact ⟨rfl, hb1.trans ((Kp.out hkp).mono hb1.size)⟩
end Go.Proofs.Ythhfhiiiniogdaa
