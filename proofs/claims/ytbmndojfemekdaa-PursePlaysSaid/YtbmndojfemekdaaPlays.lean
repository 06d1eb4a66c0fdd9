/-
  PROVED: the walk of the law PursePlays: it returns true and changes nothing that was there (plays_walk). Conditions: the slice reads as acts.
-/
import Derived.Test.YtbmndojfemekdaaRef
import Derived.Test.YtbmndojfemekdaaK
import Derived.Test.YtbmndojfemekdaaNever
import Derived.IntWalk
namespace Go.Proofs.Ytbmndojfemekdaa
open Go.RowKit
theorem retQ_cast {b : Nat} {E E' M N N' K K' : Int} {w : World} (h1 : E = E') (h2 : N = N') (h3 : K = K') : RetQ b E M N K w = RetQ b E' M N' K' w := by rw [h1, h2, h3]
theorem give_pair {n hv pv v : Int} (h : OkR n hv pv) : ∃ E hv', OkR n hv' pv ∧ giveE n (n - hv) v = E ∧ giveL n (n - hv) v = n - hv' ∧ rGiveE hv v = E ∧ rGiveN hv v = hv' := by
  obtain ⟨h1, h2, h3, h4⟩ := h
  refine ⟨rGiveE hv v, rGiveN hv v, ?_, ?_, ?_, rfl, rfl⟩
  · unfold OkR rGiveN
    split <;> omega
  · unfold giveE rGiveE
    split <;> split <;> first | rfl | omega
  · unfold giveL rGiveN
    split <;> split <;> omega
theorem take_pair {n hv pv v : Int} (h : OkR n hv pv) : ∃ E hv' pv', OkR n hv' pv' ∧ takeE (n - hv) v = E ∧ takeL (n - hv) v = n - hv' ∧ takeS (n - hv) (n - pv) v = n - pv' ∧ rTakeE n hv v = E ∧ rTakeN n hv v = hv' ∧ rTakeK n hv pv v = pv' := by
  obtain ⟨h1, h2, h3, h4⟩ := h
  refine ⟨rTakeE n hv v, rTakeN n hv v, rTakeK n hv pv v, ?_, ?_, ?_, ?_, rfl, rfl, rfl⟩
  · unfold OkR rTakeN rTakeK
    split
    · omega
    split
    · omega
    split <;> omega
  · rfl
  · unfold takeL rTakeN
    split
    · rfl
    split
    · rfl
    omega
  · unfold takeS rTakeK
    split
    · rfl
    split
    · rfl
    split <;> split <;> omega
theorem OkR.ok {n hv pv : Int} (h : OkR n hv pv) : Ok n (n - hv) (n - pv) := by
  obtain ⟨h1, h2, h3, h4⟩ := h
  exact ⟨by omega, by omega, by omega, by omega⟩
theorem OkR.wrap {n hv pv : Int} (h : OkR n hv pv) : IntKind.i64.wrap (n - hv) = n - hv := by
  obtain ⟨h1, h2, h3, h4⟩ := h
  exact IntWalk.i64_in _ (by omega)
set_option maxRecDepth 100000 in
set_option maxHeartbeats 1000000 in
theorem plays_walk (m : Int) (a : Option Addr) (len cap : Nat) (hl : len ≤ 9223372036854775807) (w : World) (hr : ARd w a len) :
    Calls Try.prog 4 #[.int .i64 m, .slice a len cap] w fun e w' => e = .returned (.bool true) ∧ Below w.heap.size w w' := by
  by_cases hbad : m < 0 ∨ 1048576 < m
  · have HB := Lib.hid hbad
    clear hbad
    go_enter Try.func4, Try.ntmps4
    go_wp2_with fail
    refine (shown_any _).mono ?_
    rintro e w1 ⟨rfl, hb1⟩
    go_wp2_with fail
    refine (new_bad m _ HB.out).mono ?_
    rintro e w2 ⟨rfl, rfl⟩
    go_wp2_with fail
    refine (refNew_bad m _ HB.out).mono ?_
    rintro e w2 ⟨rfl, rfl⟩
    go_wp2
    go_ret
    exact ⟨rfl, hb1⟩
  have hn0 : 0 ≤ m := by omega
  have hn1 : m ≤ 1048576 := by omega
  clear hbad
  go_enter Try.func4, Try.ntmps4
  go_wp2_with fail
  refine (shown_any _).mono ?_
  rintro e w1 ⟨rfl, hb1⟩
  go_wp2_with fail
  refine (new_ok m _ hn0 hn1).mono ?_
  rintro e w2 ⟨rfl, rfl⟩
  go_wp2_with fail
  refine (refNew_ok m _ hn0 hn1).mono ?_
  rintro e w3 ⟨rfl, rfl⟩
  have hp0 := Lib.hid ((Held.new w1 53 m m m).alloc (.cells #[.int .i64 m, .int .i64 0, .int .i64 0] 39))
  have hq0 := Lib.hid (Held.new (w1.alloc (.cells #[.int .i64 m, .int .i64 m, .int .i64 m] 53)) 39 m 0 0)
  have hne : w1.heap.size < (w1.alloc (.cells #[.int .i64 m, .int .i64 m, .int .i64 m] 53)).heap.size := by rw [World.size_alloc]; exact Nat.lt_succ_self _
  have b3 : Below w.heap.size w ((w1.alloc (.cells #[.int .i64 m, .int .i64 m, .int .i64 m] 53)).alloc (.cells #[.int .i64 m, .int .i64 0, .int .i64 0] 39)) := (hb1.alloc hb1.size _).alloc (hb1.alloc hb1.size _).size _
  have hbs : w.heap.size ≤ w1.heap.size := hb1.size
  generalize (w1.alloc (.cells #[.int .i64 m, .int .i64 m, .int .i64 m] 53)).alloc (.cells #[.int .i64 m, .int .i64 0, .int .i64 0] 39) = w3 at *
  generalize (w1.alloc (.cells #[.int .i64 m, .int .i64 m, .int .i64 m] 53)).heap.size = c at *
  generalize w1.heap.size = b at *
  have hbc : w.heap.size ≤ c := by omega
  have ok0 : OkR m 0 0 := ⟨by omega, by omega, by omega, by omega⟩
  have OK0 := Lib.hid ok0
  clear ok0
  go_wp2_with fail
  go_loopw [45] (fun i wr => ∃ k : Nat, k ≤ len ∧ i = .int .i64 k ∧ ∃ hv pv : Int, Hid (OkR m hv pv) ∧ Hid (Held wr b 53 m (m - hv) (m - pv)) ∧ Hid (Held wr c 39 m hv pv) ∧ Below w.heap.size w wr) (fun i _ => len - (intOf i).toNat)
  case atStart => exact ⟨0, by omega, rfl, 0, 0, OK0, by rw [Int.sub_zero]; exact hp0, hq0, b3⟩
  case round =>
    obtain ⟨k, hk, rfl, hv, pv, OK, HP, HQ, hbel⟩ := hrel
    clear hp0 hq0 OK0
    by_cases hlt : k < len
    · obtain ⟨ba, off, bk, v, rfl, hba, hwf, hc0, hc1⟩ := (hr.below hbel) k hlt
      by_cases h300 : 300 ≤ k
      · go_wp2_with fail
        go_ret
        exact ⟨rfl, hbel.alloc hbel.size _⟩
      · have hpa := Lib.hid (HP.out.alloc (.cells #[.bool bk, .int .i64 v] 37))
        have hqa := Lib.hid (HQ.out.alloc (.cells #[.bool bk, .int .i64 v] 37))
        have b4 : Below w.heap.size w (wr.alloc (.cells #[.bool bk, .int .i64 v] 37)) := hbel.alloc hbel.size _
        have hx0 : (wr.alloc (.cells #[.bool bk, .int .i64 v] 37)).cell? ⟨wr.heap.size, 1, none⟩ = some (.int .i64 v) := by rw [World.cell?_alloc_at _ _ _ _ rfl]; rfl
        have hxl : wr.heap.size < (wr.alloc (.cells #[.bool bk, .int .i64 v] 37)).heap.size := by rw [World.size_alloc]; exact Nat.lt_succ_self _
        have hbw : b < wr.heap.size := HP.out.lt
        have hcw : c < wr.heap.size := HQ.out.lt
        clear hwf hba
        cases bk
        · obtain ⟨E, hv', pv', ok', e1, e2, e3, f1, f2, f3⟩ := take_pair (v := v) OK.out
          have g := take_any b m (m - hv) (m - pv) v (wr.alloc (.cells #[.bool false, .int .i64 v] 37)).drew hpa.out.drew OK.out.ok
          rw [retP_cast e1 e2 e3] at g
          have G := Lib.hid g
          have q : ∀ w, Held w c 39 m hv pv → Calls Try.prog 16 #[.pointer (some ⟨c, 0, none⟩), .int .i64 v] w (RetQ c E m hv' pv' w) := fun w h => by
            have := refTake_any c m hv pv v w h OK.out
            rw [retQ_cast f1 f2 f3] at this
            exact this
          have OK' := Lib.hid ok'
          have QQ := Lib.hid q
          clear g q ok' e1 e2 e3 f1 f2 f3
          go_wp2_with fail
          refine wp_region_noPanic ?_
          refine wp_region_held_drew (S := fun w' => w'.cell? ⟨wr.heap.size, 1, none⟩ = some (.int .i64 v)) (by kernel_rfl) (hx0) (fun hHeld => ?_)
          refine wpAnyH_takeD (i := 0) (d := some 63) (v := ?_) rfl (by kernel_rfl) (by kernel_rfl) (by kernel_rfl) NoPanic.hQ ?_ (by assumption) ?_
          rotate_left
          · intro o ho
            simp only [List.getElem?_toArray, List.getElem?_cons_zero, Option.some.injEq] at ho
            subst ho
            refine ⟨by rfl, fun w hSw => ?_⟩
            go_simp
            try with_reducible rfl
          simp only [Act.put, List.setIfInBounds_toArray, List.set_cons_zero, List.set_cons_succ]
          refine wpAnyH_takeD (i := 1) (d := some 64) (v := ?_) rfl (by kernel_rfl) (by kernel_rfl) (by kernel_rfl) NoPanic.hQ ?_ (by assumption) ?_
          rotate_left
          · intro o ho
            simp only [List.getElem?_toArray, List.getElem?_cons_zero, List.getElem?_cons_succ, Option.some.injEq] at ho
            subst ho
            refine ⟨by rfl, fun w hSw => ?_⟩
            go_simp
            try with_reducible rfl
          simp only [Act.put, List.setIfInBounds_toArray, List.set_cons_zero, List.set_cons_succ]
          refine wpAnyH_takeD (i := 2) (d := some 65) (v := ?_) rfl (by kernel_rfl) (by kernel_rfl) (by kernel_rfl) NoPanic.hQ ?_ (by assumption) ?_
          rotate_left
          · intro o ho
            simp only [List.getElem?_toArray, List.getElem?_cons_zero, List.getElem?_cons_succ, Option.some.injEq] at ho
            subst ho
            refine ⟨by rfl, fun w hSw => ?_⟩
            go_simp
            try with_reducible rfl
          simp only [Act.put, List.setIfInBounds_toArray, List.set_cons_zero, List.set_cons_succ]
          refine wpAnyH_takeD (i := 4) (d := some 67) (v := ?_) rfl (by kernel_rfl) (by kernel_rfl) (by kernel_rfl) NoPanic.hQ ?_ (by assumption) ?_
          rotate_left
          · intro o ho
            simp only [List.getElem?_toArray, List.getElem?_cons_zero, List.getElem?_cons_succ, Option.some.injEq] at ho
            subst ho
            refine ⟨by rfl, fun w hSw => ?_⟩
            go_simp
            try with_reducible rfl
          simp only [Act.put, List.setIfInBounds_toArray, List.set_cons_zero, List.set_cons_succ]
          refine wpAnyH_takeD (i := 5) (d := some 68) (v := ?_) rfl (by kernel_rfl) (by kernel_rfl) (by kernel_rfl) NoPanic.hQ ?_ (by assumption) ?_
          rotate_left
          · intro o ho
            simp only [List.getElem?_toArray, List.getElem?_cons_zero, List.getElem?_cons_succ, Option.some.injEq] at ho
            subst ho
            refine ⟨by rfl, fun w hSw => ?_⟩
            go_simp
            try with_reducible rfl
          simp only [Act.put, List.setIfInBounds_toArray, List.set_cons_zero, List.set_cons_succ]
          refine wpAnyH_takeD (i := 6) (d := some 69) (v := ?_) rfl (by kernel_rfl) (by kernel_rfl) (by kernel_rfl) NoPanic.hQ ?_ (by assumption) ?_
          rotate_left
          · intro o ho
            simp only [List.getElem?_toArray, List.getElem?_cons_zero, List.getElem?_cons_succ, Option.some.injEq] at ho
            subst ho
            refine ⟨by rfl, fun w hSw => ?_⟩
            go_simp
            try with_reducible rfl
          simp only [Act.put, List.setIfInBounds_toArray, List.set_cons_zero, List.set_cons_succ]
          refine wpAnyH_oneD (i := 3) (by kernel_rfl) ?_
          intro o ho
          simp only [List.getElem?_toArray, List.getElem?_cons_zero, List.getElem?_cons_succ, Option.some.injEq] at ho
          subst ho
          refine ⟨by rfl, fun K hK => ?_⟩
          go_simp
          refine G.out.mono ?_
          rintro e w5 ⟨rfl, h, u⟩
          have HP5 := Lib.hid h
          have HQ5 := Lib.hid (hqa.out.drew.upd u (by omega))
          have b5 := b4.drew.trans (u.2.1.mono hbs)
          have hx5 := (u.2.2 wr.heap.size (by omega))
          have hy5 : w5.cell? ⟨wr.heap.size, 1, none⟩ = some (.int .i64 v) := by rw [← hx0]; exact World.cell?_of_block hx5
          clear h u hx5
          go_wp2_with fail
          refine hK.out _ _ hy5 ?_
          clear hK K
          refine wpAnyH_oneD (i := 7) (by kernel_rfl) ?_
          intro o ho
          simp only [List.getElem?_toArray, List.getElem?_cons_zero, List.getElem?_cons_succ, Option.some.injEq] at ho
          subst ho
          refine ⟨by rfl, fun K hK => ?_⟩
          go_simp
          refine (QQ.out _ HQ5.out).mono ?_
          rintro e w6 ⟨rfl, h, u⟩
          have HQ6 := Lib.hid h
          have HP6 := Lib.hid (HP5.out.upd u (by omega))
          have b6 := b5.trans (u.2.1.mono hbc)
          have hx6 := (u.2.2 wr.heap.size (by omega))
          have hy6 : w6.cell? ⟨wr.heap.size, 1, none⟩ = some (.int .i64 v) := by rw [← hy5]; exact World.cell?_of_block hx6
          clear h u hx6
          go_wp2_with fail
          refine hK.out _ _ hy6 ?_
          clear hK K
          refine wpAnyH_takeD (i := 8) (d := some 71) (v := ?_) rfl (by kernel_rfl) (by kernel_rfl) (by kernel_rfl) NoPanic.hQ ?_ (by assumption) ?_
          rotate_left
          · intro o ho
            simp only [List.getElem?_toArray, List.getElem?_cons_zero, List.getElem?_cons_succ, Option.some.injEq] at ho
            subst ho
            refine ⟨by rfl, fun w hSw => ?_⟩
            go_simp
            try with_reducible rfl
          simp only [Act.put, List.setIfInBounds_toArray, List.set_cons_zero, List.set_cons_succ]
          refine wpAnyH_takeD (i := 9) (d := some 12) (v := ?_) rfl (by kernel_rfl) (by kernel_rfl) (by kernel_rfl) NoPanic.hQ ?_ (by assumption) ?_
          rotate_left
          · intro o ho
            simp only [List.getElem?_toArray, List.getElem?_cons_zero, List.getElem?_cons_succ, Option.some.injEq] at ho
            subst ho
            refine ⟨by rfl, fun w hSw => ?_⟩
            go_simp
            try with_reducible rfl
          simp only [Act.put, List.setIfInBounds_toArray, List.set_cons_zero, List.set_cons_succ]
          refine wpAnyH_done (by kernel_rfl) ?_ _
          refine NoPanic.normal ?_
          clear hx0 hy5 hy6 HP5 HQ5 G QQ
          go_wp2_with fail
          have hq0 := HQ6.out.c0
          have hq1 := HQ6.out.c1
          have hq2 := HQ6.out.c2
          have hwr := OK'.out.wrap
          have N1 := Lib.hid (fun w h => by have := now_any b m (m - hv') (m - pv') w h OK'.out.ok; rw [retP_cast (show m - (m - hv') = hv' by omega) rfl rfl] at this; exact this : ∀ w, Held w b 53 m (m - hv') (m - pv') → Calls Try.prog 12 #[.pointer (some ⟨b, 0, none⟩)] w (RetP b hv' m (m - hv') (m - pv') w))
          have N2 := Lib.hid (fun w h => by have := peak_any b m (m - hv') (m - pv') w h OK'.out.ok; rw [retP_cast (show m - (m - pv') = pv' by omega) rfl rfl] at this; exact this : ∀ w, Held w b 53 m (m - hv') (m - pv') → Calls Try.prog 13 #[.pointer (some ⟨b, 0, none⟩)] w (RetP b pv' m (m - hv') (m - pv') w))
          refine wp_region_noPanic ?_
          refine wp_region_held_drew (S := fun w' => w'.cell? ⟨c, 0, none⟩ = some (.int .i64 m) ∧ w'.cell? ⟨c, 1, none⟩ = some (.int .i64 hv') ∧ w'.cell? ⟨c, 2, none⟩ = some (.int .i64 pv')) (by kernel_rfl) (⟨hq0, hq1, hq2⟩) (fun hHeld => ?_)
          refine wpAnyH_takeD (i := 0) (d := some 72) (v := ?_) rfl (by kernel_rfl) (by kernel_rfl) (by kernel_rfl) NoPanic.hQ ?_ (by assumption) ?_
          rotate_left
          · intro o ho
            simp only [List.getElem?_toArray, List.getElem?_cons_zero, Option.some.injEq] at ho
            subst ho
            refine ⟨by rfl, fun w hSw => ?_⟩
            go_simp
            try with_reducible rfl
          simp only [Act.put, List.setIfInBounds_toArray, List.set_cons_zero, List.set_cons_succ]
          refine wpAnyH_takeD (i := 1) (d := some 73) (v := ?_) rfl (by kernel_rfl) (by kernel_rfl) (by kernel_rfl) NoPanic.hQ ?_ (by assumption) ?_
          rotate_left
          · intro o ho
            simp only [List.getElem?_toArray, List.getElem?_cons_zero, List.getElem?_cons_succ, Option.some.injEq] at ho
            subst ho
            refine ⟨by rfl, fun w hSw => ?_⟩
            go_simp
            try with_reducible rfl
          simp only [Act.put, List.setIfInBounds_toArray, List.set_cons_zero, List.set_cons_succ]
          refine wpAnyH_takeD (i := 2) (d := some 74) (v := ?_) rfl (by kernel_rfl) (by kernel_rfl) (by kernel_rfl) NoPanic.hQ ?_ (by assumption) ?_
          rotate_left
          · intro o ho
            simp only [List.getElem?_toArray, List.getElem?_cons_zero, List.getElem?_cons_succ, Option.some.injEq] at ho
            subst ho
            refine ⟨by rfl, fun w hSw => ?_⟩
            go_simp
            try with_reducible rfl
          simp only [Act.put, List.setIfInBounds_toArray, List.set_cons_zero, List.set_cons_succ]
          refine wpAnyH_takeD (i := 3) (d := some 75) (v := ?_) rfl (by kernel_rfl) (by kernel_rfl) (by kernel_rfl) NoPanic.hQ ?_ (by assumption) ?_
          rotate_left
          · intro o ho
            simp only [List.getElem?_toArray, List.getElem?_cons_zero, List.getElem?_cons_succ, Option.some.injEq] at ho
            subst ho
            refine ⟨by rfl, fun w hSw => ?_⟩
            go_simp
            try with_reducible rfl
          simp only [Act.put, List.setIfInBounds_toArray, List.set_cons_zero, List.set_cons_succ]
          refine wpAnyH_takeD (i := 5) (d := some 77) (v := ?_) rfl (by kernel_rfl) (by kernel_rfl) (by kernel_rfl) NoPanic.hQ ?_ (by assumption) ?_
          rotate_left
          · intro o ho
            simp only [List.getElem?_toArray, List.getElem?_cons_zero, List.getElem?_cons_succ, Option.some.injEq] at ho
            subst ho
            refine ⟨by rfl, fun w hSw => ?_⟩
            go_simp
            try with_reducible rfl
          simp only [Act.put, List.setIfInBounds_toArray, List.set_cons_zero, List.set_cons_succ]
          refine wpAnyH_takeD (i := 6) (d := some 78) (v := ?_) rfl (by kernel_rfl) (by kernel_rfl) (by kernel_rfl) NoPanic.hQ ?_ (by assumption) ?_
          rotate_left
          · intro o ho
            simp only [List.getElem?_toArray, List.getElem?_cons_zero, List.getElem?_cons_succ, Option.some.injEq] at ho
            subst ho
            refine ⟨by rfl, fun w hSw => ?_⟩
            go_simp
            try with_reducible rfl
          simp only [Act.put, List.setIfInBounds_toArray, List.set_cons_zero, List.set_cons_succ]
          refine wpAnyH_takeD (i := 7) (d := some 79) (v := ?_) rfl (by kernel_rfl) (by kernel_rfl) (by kernel_rfl) NoPanic.hQ ?_ (by assumption) ?_
          rotate_left
          · intro o ho
            simp only [List.getElem?_toArray, List.getElem?_cons_zero, List.getElem?_cons_succ, Option.some.injEq] at ho
            subst ho
            refine ⟨by rfl, fun w hSw => ?_⟩
            go_simp
            try with_reducible rfl
          simp only [Act.put, List.setIfInBounds_toArray, List.set_cons_zero, List.set_cons_succ]
          refine wpAnyH_takeD (i := 8) (d := some 80) (v := ?_) rfl (by kernel_rfl) (by kernel_rfl) (by kernel_rfl) NoPanic.hQ ?_ (by assumption) ?_
          rotate_left
          · intro o ho
            simp only [List.getElem?_toArray, List.getElem?_cons_zero, List.getElem?_cons_succ, Option.some.injEq] at ho
            subst ho
            refine ⟨by rfl, fun w hSw => ?_⟩
            obtain ⟨hs0, hs1, hs2⟩ := hSw
            go_simp
            try with_reducible rfl
          simp only [Act.put, List.setIfInBounds_toArray, List.set_cons_zero, List.set_cons_succ]
          have HP66 := Lib.hid HP6.out.drew
          have HQ66 := Lib.hid HQ6.out.drew
          have b66 := b6.drew
          refine wpAnyH_oneD (i := 4) (by kernel_rfl) ?_
          intro o ho
          simp only [List.getElem?_toArray, List.getElem?_cons_zero, List.getElem?_cons_succ, Option.some.injEq] at ho
          subst ho
          refine ⟨by rfl, fun K hK => ?_⟩
          go_simp
          refine (N1.out _ HP66.out).mono ?_
          rintro e w7 ⟨rfl, h, u⟩
          have HP7 := Lib.hid h
          have HQ7 := Lib.hid (HQ66.out.upd u (by omega))
          have b7 := b66.trans (u.2.1.mono hbs)
          have hs7 : w7.cell? ⟨c, 0, none⟩ = some (.int .i64 m) ∧ w7.cell? ⟨c, 1, none⟩ = some (.int .i64 hv') ∧ w7.cell? ⟨c, 2, none⟩ = some (.int .i64 pv') := ⟨HQ7.out.c0, HQ7.out.c1, HQ7.out.c2⟩
          clear h u
          go_wp2_with fail
          refine hK.out _ _ hs7 ?_
          clear hK K
          refine wpAnyH_takeD (i := 9) (d := some 81) (v := ?_) rfl (by kernel_rfl) (by kernel_rfl) (by kernel_rfl) NoPanic.hQ ?_ (by assumption) ?_
          rotate_left
          · intro o ho
            simp only [List.getElem?_toArray, List.getElem?_cons_zero, List.getElem?_cons_succ, Option.some.injEq] at ho
            subst ho
            refine ⟨by rfl, fun w hSw => ?_⟩
            go_simp
            try with_reducible rfl
          simp only [Act.put, List.setIfInBounds_toArray, List.set_cons_zero, List.set_cons_succ]
          refine wpAnyH_takeD (i := 10) (d := some 82) (v := ?_) rfl (by kernel_rfl) (by kernel_rfl) (by kernel_rfl) NoPanic.hQ ?_ (by assumption) ?_
          rotate_left
          · intro o ho
            simp only [List.getElem?_toArray, List.getElem?_cons_zero, List.getElem?_cons_succ, Option.some.injEq] at ho
            subst ho
            refine ⟨by rfl, fun w hSw => ?_⟩
            go_simp
            try with_reducible rfl
          simp only [Act.put, List.setIfInBounds_toArray, List.set_cons_zero, List.set_cons_succ]
          refine wpAnyH_takeD (i := 11) (d := some 83) (v := ?_) rfl (by kernel_rfl) (by kernel_rfl) (by kernel_rfl) NoPanic.hQ ?_ (by assumption) ?_
          rotate_left
          · intro o ho
            simp only [List.getElem?_toArray, List.getElem?_cons_zero, List.getElem?_cons_succ, Option.some.injEq] at ho
            subst ho
            refine ⟨by rfl, fun w hSw => ?_⟩
            go_simp
            try with_reducible rfl
          simp only [Act.put, List.setIfInBounds_toArray, List.set_cons_zero, List.set_cons_succ]
          refine wpAnyH_takeD (i := 12) (d := some 84) (v := ?_) rfl (by kernel_rfl) (by kernel_rfl) (by kernel_rfl) NoPanic.hQ ?_ (by assumption) ?_
          rotate_left
          · intro o ho
            simp only [List.getElem?_toArray, List.getElem?_cons_zero, List.getElem?_cons_succ, Option.some.injEq] at ho
            subst ho
            refine ⟨by rfl, fun w hSw => ?_⟩
            go_simp
            try with_reducible rfl
          simp only [Act.put, List.setIfInBounds_toArray, List.set_cons_zero, List.set_cons_succ]
          refine wpAnyH_takeD (i := 14) (d := some 86) (v := ?_) rfl (by kernel_rfl) (by kernel_rfl) (by kernel_rfl) NoPanic.hQ ?_ (by assumption) ?_
          rotate_left
          · intro o ho
            simp only [List.getElem?_toArray, List.getElem?_cons_zero, List.getElem?_cons_succ, Option.some.injEq] at ho
            subst ho
            refine ⟨by rfl, fun w hSw => ?_⟩
            go_simp
            try with_reducible rfl
          simp only [Act.put, List.setIfInBounds_toArray, List.set_cons_zero, List.set_cons_succ]
          refine wpAnyH_takeD (i := 15) (d := some 87) (v := ?_) rfl (by kernel_rfl) (by kernel_rfl) (by kernel_rfl) NoPanic.hQ ?_ (by assumption) ?_
          rotate_left
          · intro o ho
            simp only [List.getElem?_toArray, List.getElem?_cons_zero, List.getElem?_cons_succ, Option.some.injEq] at ho
            subst ho
            refine ⟨by rfl, fun w hSw => ?_⟩
            go_simp
            try with_reducible rfl
          simp only [Act.put, List.setIfInBounds_toArray, List.set_cons_zero, List.set_cons_succ]
          refine wpAnyH_takeD (i := 16) (d := some 88) (v := ?_) rfl (by kernel_rfl) (by kernel_rfl) (by kernel_rfl) NoPanic.hQ ?_ (by assumption) ?_
          rotate_left
          · intro o ho
            simp only [List.getElem?_toArray, List.getElem?_cons_zero, List.getElem?_cons_succ, Option.some.injEq] at ho
            subst ho
            refine ⟨by rfl, fun w hSw => ?_⟩
            go_simp
            try with_reducible rfl
          simp only [Act.put, List.setIfInBounds_toArray, List.set_cons_zero, List.set_cons_succ]
          refine wpAnyH_takeD (i := 17) (d := some 89) (v := ?_) rfl (by kernel_rfl) (by kernel_rfl) (by kernel_rfl) NoPanic.hQ ?_ (by assumption) ?_
          rotate_left
          · intro o ho
            simp only [List.getElem?_toArray, List.getElem?_cons_zero, List.getElem?_cons_succ, Option.some.injEq] at ho
            subst ho
            refine ⟨by rfl, fun w hSw => ?_⟩
            obtain ⟨hs0, hs1, hs2⟩ := hSw
            go_simp
            try with_reducible rfl
          simp only [Act.put, List.setIfInBounds_toArray, List.set_cons_zero, List.set_cons_succ]
          refine wpAnyH_oneD (i := 13) (by kernel_rfl) ?_
          intro o ho
          simp only [List.getElem?_toArray, List.getElem?_cons_zero, List.getElem?_cons_succ, Option.some.injEq] at ho
          subst ho
          refine ⟨by rfl, fun K hK => ?_⟩
          go_simp
          refine (N2.out _ HP7.out).mono ?_
          rintro e w8 ⟨rfl, h, u⟩
          have HP8 := Lib.hid h
          have HQ8 := Lib.hid (HQ7.out.upd u (by omega))
          have b8 := b7.trans (u.2.1.mono hbs)
          have hs8 : w8.cell? ⟨c, 0, none⟩ = some (.int .i64 m) ∧ w8.cell? ⟨c, 1, none⟩ = some (.int .i64 hv') ∧ w8.cell? ⟨c, 2, none⟩ = some (.int .i64 pv') := ⟨HQ8.out.c0, HQ8.out.c1, HQ8.out.c2⟩
          clear h u
          go_wp2_with fail
          refine hK.out _ _ hs8 ?_
          clear hK K
          refine wpAnyH_takeD (i := 18) (d := some 90) (v := ?_) rfl (by kernel_rfl) (by kernel_rfl) (by kernel_rfl) NoPanic.hQ ?_ (by assumption) ?_
          rotate_left
          · intro o ho
            simp only [List.getElem?_toArray, List.getElem?_cons_zero, List.getElem?_cons_succ, Option.some.injEq] at ho
            subst ho
            refine ⟨by rfl, fun w hSw => ?_⟩
            go_simp
            try with_reducible rfl
          simp only [Act.put, List.setIfInBounds_toArray, List.set_cons_zero, List.set_cons_succ]
          refine wpAnyH_takeD (i := 19) (d := some 91) (v := ?_) rfl (by kernel_rfl) (by kernel_rfl) (by kernel_rfl) NoPanic.hQ ?_ (by assumption) ?_
          rotate_left
          · intro o ho
            simp only [List.getElem?_toArray, List.getElem?_cons_zero, List.getElem?_cons_succ, Option.some.injEq] at ho
            subst ho
            refine ⟨by rfl, fun w hSw => ?_⟩
            go_simp
            try with_reducible rfl
          simp only [Act.put, List.setIfInBounds_toArray, List.set_cons_zero, List.set_cons_succ]
          refine wpAnyH_takeD (i := 20) (d := some 92) (v := ?_) rfl (by kernel_rfl) (by kernel_rfl) (by kernel_rfl) NoPanic.hQ ?_ (by assumption) ?_
          rotate_left
          · intro o ho
            simp only [List.getElem?_toArray, List.getElem?_cons_zero, List.getElem?_cons_succ, Option.some.injEq] at ho
            subst ho
            refine ⟨by rfl, fun w hSw => ?_⟩
            go_simp
            try with_reducible rfl
          simp only [Act.put, List.setIfInBounds_toArray, List.set_cons_zero, List.set_cons_succ]
          refine wpAnyH_takeD (i := 21) (d := some 93) (v := ?_) rfl (by kernel_rfl) (by kernel_rfl) (by kernel_rfl) NoPanic.hQ ?_ (by assumption) ?_
          rotate_left
          · intro o ho
            simp only [List.getElem?_toArray, List.getElem?_cons_zero, List.getElem?_cons_succ, Option.some.injEq] at ho
            subst ho
            refine ⟨by rfl, fun w hSw => ?_⟩
            go_simp
            try with_reducible rfl
          simp only [Act.put, List.setIfInBounds_toArray, List.set_cons_zero, List.set_cons_succ]
          refine wpAnyH_takeD (i := 23) (d := some 95) (v := ?_) rfl (by kernel_rfl) (by kernel_rfl) (by kernel_rfl) NoPanic.hQ ?_ (by assumption) ?_
          rotate_left
          · intro o ho
            simp only [List.getElem?_toArray, List.getElem?_cons_zero, List.getElem?_cons_succ, Option.some.injEq] at ho
            subst ho
            refine ⟨by rfl, fun w hSw => ?_⟩
            go_simp
            try with_reducible rfl
          simp only [Act.put, List.setIfInBounds_toArray, List.set_cons_zero, List.set_cons_succ]
          refine wpAnyH_takeD (i := 24) (d := some 96) (v := ?_) rfl (by kernel_rfl) (by kernel_rfl) (by kernel_rfl) NoPanic.hQ ?_ (by assumption) ?_
          rotate_left
          · intro o ho
            simp only [List.getElem?_toArray, List.getElem?_cons_zero, List.getElem?_cons_succ, Option.some.injEq] at ho
            subst ho
            refine ⟨by rfl, fun w hSw => ?_⟩
            go_simp
            try with_reducible rfl
          simp only [Act.put, List.setIfInBounds_toArray, List.set_cons_zero, List.set_cons_succ]
          refine wpAnyH_takeD (i := 25) (d := some 97) (v := ?_) rfl (by kernel_rfl) (by kernel_rfl) (by kernel_rfl) NoPanic.hQ ?_ (by assumption) ?_
          rotate_left
          · intro o ho
            simp only [List.getElem?_toArray, List.getElem?_cons_zero, List.getElem?_cons_succ, Option.some.injEq] at ho
            subst ho
            refine ⟨by rfl, fun w hSw => ?_⟩
            go_simp
            try with_reducible rfl
          simp only [Act.put, List.setIfInBounds_toArray, List.set_cons_zero, List.set_cons_succ]
          refine wpAnyH_takeD (i := 26) (d := some 98) (v := ?_) rfl (by kernel_rfl) (by kernel_rfl) (by kernel_rfl) NoPanic.hQ ?_ (by assumption) ?_
          rotate_left
          · intro o ho
            simp only [List.getElem?_toArray, List.getElem?_cons_zero, List.getElem?_cons_succ, Option.some.injEq] at ho
            subst ho
            refine ⟨by rfl, fun w hSw => ?_⟩
            obtain ⟨hs0, hs1, hs2⟩ := hSw
            go_simp
            try with_reducible rfl
          simp only [Act.put, List.setIfInBounds_toArray, List.set_cons_zero, List.set_cons_succ]
          refine wpAnyH_takeD (i := 27) (d := some 99) (v := ?_) rfl (by kernel_rfl) (by kernel_rfl) (by kernel_rfl) NoPanic.hQ ?_ (by assumption) ?_
          rotate_left
          · intro o ho
            simp only [List.getElem?_toArray, List.getElem?_cons_zero, List.getElem?_cons_succ, Option.some.injEq] at ho
            subst ho
            refine ⟨by rfl, fun w hSw => ?_⟩
            go_simp
            try with_reducible rfl
          simp only [Act.put, List.setIfInBounds_toArray, List.set_cons_zero, List.set_cons_succ]
          refine wpAnyH_takeD (i := 28) (d := some 100) (v := ?_) rfl (by kernel_rfl) (by kernel_rfl) (by kernel_rfl) NoPanic.hQ ?_ (by assumption) ?_
          rotate_left
          · intro o ho
            simp only [List.getElem?_toArray, List.getElem?_cons_zero, List.getElem?_cons_succ, Option.some.injEq] at ho
            subst ho
            refine ⟨by rfl, fun w hSw => ?_⟩
            go_simp
            try with_reducible rfl
          simp only [Act.put, List.setIfInBounds_toArray, List.set_cons_zero, List.set_cons_succ]
          refine wpAnyH_takeD (i := 29) (d := some 101) (v := ?_) rfl (by kernel_rfl) (by kernel_rfl) (by kernel_rfl) NoPanic.hQ ?_ (by assumption) ?_
          rotate_left
          · intro o ho
            simp only [List.getElem?_toArray, List.getElem?_cons_zero, List.getElem?_cons_succ, Option.some.injEq] at ho
            subst ho
            refine ⟨by rfl, fun w hSw => ?_⟩
            go_simp
            try with_reducible rfl
          simp only [Act.put, List.setIfInBounds_toArray, List.set_cons_zero, List.set_cons_succ]
          refine wpAnyH_takeD (i := 30) (d := some 102) (v := ?_) rfl (by kernel_rfl) (by kernel_rfl) (by kernel_rfl) NoPanic.hQ ?_ (by assumption) ?_
          rotate_left
          · intro o ho
            simp only [List.getElem?_toArray, List.getElem?_cons_zero, List.getElem?_cons_succ, Option.some.injEq] at ho
            subst ho
            refine ⟨by rfl, fun w hSw => ?_⟩
            obtain ⟨hs0, hs1, hs2⟩ := hSw
            go_simp
            try with_reducible rfl
          simp only [Act.put, List.setIfInBounds_toArray, List.set_cons_zero, List.set_cons_succ]
          refine wpAnyH_takeD (i := 31) (d := some 103) (v := ?_) rfl (by kernel_rfl) (by kernel_rfl) (by kernel_rfl) NoPanic.hQ ?_ (by assumption) ?_
          rotate_left
          · intro o ho
            simp only [List.getElem?_toArray, List.getElem?_cons_zero, List.getElem?_cons_succ, Option.some.injEq] at ho
            subst ho
            refine ⟨by rfl, fun w hSw => ?_⟩
            go_simp
            try with_reducible rfl
          simp only [Act.put, List.setIfInBounds_toArray, List.set_cons_zero, List.set_cons_succ]
          refine wpAnyH_oneD (i := 22) (by kernel_rfl) ?_
          intro o ho
          simp only [List.getElem?_toArray, List.getElem?_cons_zero, List.getElem?_cons_succ, Option.some.injEq] at ho
          subst ho
          refine ⟨by rfl, fun K hK => ?_⟩
          go_simp
          refine (left_any b m (m - hv') (m - pv') _ HP8.out).mono ?_
          rintro e w9 ⟨rfl, h, u⟩
          have HP9 := Lib.hid h
          have HQ9 := Lib.hid (HQ8.out.upd u (by omega))
          have b9 := b8.trans (u.2.1.mono hbs)
          have hs9 : w9.cell? ⟨c, 0, none⟩ = some (.int .i64 m) ∧ w9.cell? ⟨c, 1, none⟩ = some (.int .i64 hv') ∧ w9.cell? ⟨c, 2, none⟩ = some (.int .i64 pv') := ⟨HQ9.out.c0, HQ9.out.c1, HQ9.out.c2⟩
          clear h u
          go_wp2_with fail
          refine hK.out _ _ hs9 ?_
          clear hK K
          refine wpAnyH_takeD (i := 32) (d := some 104) (v := ?_) rfl (by kernel_rfl) (by kernel_rfl) (by kernel_rfl) NoPanic.hQ ?_ (by assumption) ?_
          rotate_left
          · intro o ho
            simp only [List.getElem?_toArray, List.getElem?_cons_zero, List.getElem?_cons_succ, Option.some.injEq] at ho
            subst ho
            refine ⟨by rfl, fun w hSw => ?_⟩
            go_simp
            try with_reducible rfl
          simp only [Act.put, List.setIfInBounds_toArray, List.set_cons_zero, List.set_cons_succ]
          refine wpAnyH_takeD (i := 33) (d := some 105) (v := ?_) rfl (by kernel_rfl) (by kernel_rfl) (by kernel_rfl) NoPanic.hQ ?_ (by assumption) ?_
          rotate_left
          · intro o ho
            simp only [List.getElem?_toArray, List.getElem?_cons_zero, List.getElem?_cons_succ, Option.some.injEq] at ho
            subst ho
            refine ⟨by rfl, fun w hSw => ?_⟩
            go_simp
            try with_reducible rfl
          simp only [Act.put, List.setIfInBounds_toArray, List.set_cons_zero, List.set_cons_succ]
          refine wpAnyH_done (by kernel_rfl) ?_ _
          refine NoPanic.normal ?_
          clear hq0 hq1 hq2 hwr hs7 hs8 hs9 N1 N2
          go_wp2
          go_roundw
          case rel => exact ⟨k + 1, by omega, by go_num, hv', pv', OK', HP9, HQ9, b9⟩
          case measure => simp [intOf]; omega
        · obtain ⟨E, hv', ok', e1, e2, f1, f2⟩ := give_pair (v := v) OK.out
          have g := give_any b m (m - hv) (m - pv) v (wr.alloc (.cells #[.bool true, .int .i64 v] 37)).drew hpa.out.drew OK.out.ok
          rw [retP_cast e1 e2 rfl] at g
          have G := Lib.hid g
          have q : ∀ w, Held w c 39 m hv pv → Calls Try.prog 15 #[.pointer (some ⟨c, 0, none⟩), .int .i64 v] w (RetQ c E m hv' pv w) := fun w h => by
            have := refGive_any c m hv pv v w h OK.out
            rw [retQ_cast f1 f2 rfl] at this
            exact this
          have OK' := Lib.hid ok'
          have QQ := Lib.hid q
          clear g q ok' e1 e2 f1 f2
          go_wp2_with fail
          refine wp_region_noPanic ?_
          refine wp_region_held_drew (S := fun w' => w'.cell? ⟨wr.heap.size, 1, none⟩ = some (.int .i64 v)) (by kernel_rfl) (hx0) (fun hHeld => ?_)
          refine wpAnyH_takeD (i := 0) (d := some 54) (v := ?_) rfl (by kernel_rfl) (by kernel_rfl) (by kernel_rfl) NoPanic.hQ ?_ (by assumption) ?_
          rotate_left
          · intro o ho
            simp only [List.getElem?_toArray, List.getElem?_cons_zero, Option.some.injEq] at ho
            subst ho
            refine ⟨by rfl, fun w hSw => ?_⟩
            go_simp
            try with_reducible rfl
          simp only [Act.put, List.setIfInBounds_toArray, List.set_cons_zero, List.set_cons_succ]
          refine wpAnyH_takeD (i := 1) (d := some 55) (v := ?_) rfl (by kernel_rfl) (by kernel_rfl) (by kernel_rfl) NoPanic.hQ ?_ (by assumption) ?_
          rotate_left
          · intro o ho
            simp only [List.getElem?_toArray, List.getElem?_cons_zero, List.getElem?_cons_succ, Option.some.injEq] at ho
            subst ho
            refine ⟨by rfl, fun w hSw => ?_⟩
            go_simp
            try with_reducible rfl
          simp only [Act.put, List.setIfInBounds_toArray, List.set_cons_zero, List.set_cons_succ]
          refine wpAnyH_takeD (i := 2) (d := some 56) (v := ?_) rfl (by kernel_rfl) (by kernel_rfl) (by kernel_rfl) NoPanic.hQ ?_ (by assumption) ?_
          rotate_left
          · intro o ho
            simp only [List.getElem?_toArray, List.getElem?_cons_zero, List.getElem?_cons_succ, Option.some.injEq] at ho
            subst ho
            refine ⟨by rfl, fun w hSw => ?_⟩
            go_simp
            try with_reducible rfl
          simp only [Act.put, List.setIfInBounds_toArray, List.set_cons_zero, List.set_cons_succ]
          refine wpAnyH_takeD (i := 4) (d := some 58) (v := ?_) rfl (by kernel_rfl) (by kernel_rfl) (by kernel_rfl) NoPanic.hQ ?_ (by assumption) ?_
          rotate_left
          · intro o ho
            simp only [List.getElem?_toArray, List.getElem?_cons_zero, List.getElem?_cons_succ, Option.some.injEq] at ho
            subst ho
            refine ⟨by rfl, fun w hSw => ?_⟩
            go_simp
            try with_reducible rfl
          simp only [Act.put, List.setIfInBounds_toArray, List.set_cons_zero, List.set_cons_succ]
          refine wpAnyH_takeD (i := 5) (d := some 59) (v := ?_) rfl (by kernel_rfl) (by kernel_rfl) (by kernel_rfl) NoPanic.hQ ?_ (by assumption) ?_
          rotate_left
          · intro o ho
            simp only [List.getElem?_toArray, List.getElem?_cons_zero, List.getElem?_cons_succ, Option.some.injEq] at ho
            subst ho
            refine ⟨by rfl, fun w hSw => ?_⟩
            go_simp
            try with_reducible rfl
          simp only [Act.put, List.setIfInBounds_toArray, List.set_cons_zero, List.set_cons_succ]
          refine wpAnyH_takeD (i := 6) (d := some 60) (v := ?_) rfl (by kernel_rfl) (by kernel_rfl) (by kernel_rfl) NoPanic.hQ ?_ (by assumption) ?_
          rotate_left
          · intro o ho
            simp only [List.getElem?_toArray, List.getElem?_cons_zero, List.getElem?_cons_succ, Option.some.injEq] at ho
            subst ho
            refine ⟨by rfl, fun w hSw => ?_⟩
            go_simp
            try with_reducible rfl
          simp only [Act.put, List.setIfInBounds_toArray, List.set_cons_zero, List.set_cons_succ]
          refine wpAnyH_oneD (i := 3) (by kernel_rfl) ?_
          intro o ho
          simp only [List.getElem?_toArray, List.getElem?_cons_zero, List.getElem?_cons_succ, Option.some.injEq] at ho
          subst ho
          refine ⟨by rfl, fun K hK => ?_⟩
          go_simp
          refine G.out.mono ?_
          rintro e w5 ⟨rfl, h, u⟩
          have HP5 := Lib.hid h
          have HQ5 := Lib.hid (hqa.out.drew.upd u (by omega))
          have b5 := b4.drew.trans (u.2.1.mono hbs)
          have hx5 := (u.2.2 wr.heap.size (by omega))
          have hy5 : w5.cell? ⟨wr.heap.size, 1, none⟩ = some (.int .i64 v) := by rw [← hx0]; exact World.cell?_of_block hx5
          clear h u hx5
          go_wp2_with fail
          refine hK.out _ _ hy5 ?_
          clear hK K
          refine wpAnyH_oneD (i := 7) (by kernel_rfl) ?_
          intro o ho
          simp only [List.getElem?_toArray, List.getElem?_cons_zero, List.getElem?_cons_succ, Option.some.injEq] at ho
          subst ho
          refine ⟨by rfl, fun K hK => ?_⟩
          go_simp
          refine (QQ.out _ HQ5.out).mono ?_
          rintro e w6 ⟨rfl, h, u⟩
          have HQ6 := Lib.hid h
          have HP6 := Lib.hid (HP5.out.upd u (by omega))
          have b6 := b5.trans (u.2.1.mono hbc)
          have hx6 := (u.2.2 wr.heap.size (by omega))
          have hy6 : w6.cell? ⟨wr.heap.size, 1, none⟩ = some (.int .i64 v) := by rw [← hy5]; exact World.cell?_of_block hx6
          clear h u hx6
          go_wp2_with fail
          refine hK.out _ _ hy6 ?_
          clear hK K
          refine wpAnyH_takeD (i := 8) (d := some 62) (v := ?_) rfl (by kernel_rfl) (by kernel_rfl) (by kernel_rfl) NoPanic.hQ ?_ (by assumption) ?_
          rotate_left
          · intro o ho
            simp only [List.getElem?_toArray, List.getElem?_cons_zero, List.getElem?_cons_succ, Option.some.injEq] at ho
            subst ho
            refine ⟨by rfl, fun w hSw => ?_⟩
            go_simp
            try with_reducible rfl
          simp only [Act.put, List.setIfInBounds_toArray, List.set_cons_zero, List.set_cons_succ]
          refine wpAnyH_takeD (i := 9) (d := some 12) (v := ?_) rfl (by kernel_rfl) (by kernel_rfl) (by kernel_rfl) NoPanic.hQ ?_ (by assumption) ?_
          rotate_left
          · intro o ho
            simp only [List.getElem?_toArray, List.getElem?_cons_zero, List.getElem?_cons_succ, Option.some.injEq] at ho
            subst ho
            refine ⟨by rfl, fun w hSw => ?_⟩
            go_simp
            try with_reducible rfl
          simp only [Act.put, List.setIfInBounds_toArray, List.set_cons_zero, List.set_cons_succ]
          refine wpAnyH_done (by kernel_rfl) ?_ _
          refine NoPanic.normal ?_
          clear hx0 hy5 hy6 HP5 HQ5 G QQ
          go_wp2_with fail
          have hq0 := HQ6.out.c0
          have hq1 := HQ6.out.c1
          have hq2 := HQ6.out.c2
          have hwr := OK'.out.wrap
          have N1 := Lib.hid (fun w h => by have := now_any b m (m - hv') (m - pv) w h OK'.out.ok; rw [retP_cast (show m - (m - hv') = hv' by omega) rfl rfl] at this; exact this : ∀ w, Held w b 53 m (m - hv') (m - pv) → Calls Try.prog 12 #[.pointer (some ⟨b, 0, none⟩)] w (RetP b hv' m (m - hv') (m - pv) w))
          have N2 := Lib.hid (fun w h => by have := peak_any b m (m - hv') (m - pv) w h OK'.out.ok; rw [retP_cast (show m - (m - pv) = pv by omega) rfl rfl] at this; exact this : ∀ w, Held w b 53 m (m - hv') (m - pv) → Calls Try.prog 13 #[.pointer (some ⟨b, 0, none⟩)] w (RetP b pv m (m - hv') (m - pv) w))
          refine wp_region_noPanic ?_
          refine wp_region_held_drew (S := fun w' => w'.cell? ⟨c, 0, none⟩ = some (.int .i64 m) ∧ w'.cell? ⟨c, 1, none⟩ = some (.int .i64 hv') ∧ w'.cell? ⟨c, 2, none⟩ = some (.int .i64 pv)) (by kernel_rfl) (⟨hq0, hq1, hq2⟩) (fun hHeld => ?_)
          refine wpAnyH_takeD (i := 0) (d := some 72) (v := ?_) rfl (by kernel_rfl) (by kernel_rfl) (by kernel_rfl) NoPanic.hQ ?_ (by assumption) ?_
          rotate_left
          · intro o ho
            simp only [List.getElem?_toArray, List.getElem?_cons_zero, Option.some.injEq] at ho
            subst ho
            refine ⟨by rfl, fun w hSw => ?_⟩
            go_simp
            try with_reducible rfl
          simp only [Act.put, List.setIfInBounds_toArray, List.set_cons_zero, List.set_cons_succ]
          refine wpAnyH_takeD (i := 1) (d := some 73) (v := ?_) rfl (by kernel_rfl) (by kernel_rfl) (by kernel_rfl) NoPanic.hQ ?_ (by assumption) ?_
          rotate_left
          · intro o ho
            simp only [List.getElem?_toArray, List.getElem?_cons_zero, List.getElem?_cons_succ, Option.some.injEq] at ho
            subst ho
            refine ⟨by rfl, fun w hSw => ?_⟩
            go_simp
            try with_reducible rfl
          simp only [Act.put, List.setIfInBounds_toArray, List.set_cons_zero, List.set_cons_succ]
          refine wpAnyH_takeD (i := 2) (d := some 74) (v := ?_) rfl (by kernel_rfl) (by kernel_rfl) (by kernel_rfl) NoPanic.hQ ?_ (by assumption) ?_
          rotate_left
          · intro o ho
            simp only [List.getElem?_toArray, List.getElem?_cons_zero, List.getElem?_cons_succ, Option.some.injEq] at ho
            subst ho
            refine ⟨by rfl, fun w hSw => ?_⟩
            go_simp
            try with_reducible rfl
          simp only [Act.put, List.setIfInBounds_toArray, List.set_cons_zero, List.set_cons_succ]
          refine wpAnyH_takeD (i := 3) (d := some 75) (v := ?_) rfl (by kernel_rfl) (by kernel_rfl) (by kernel_rfl) NoPanic.hQ ?_ (by assumption) ?_
          rotate_left
          · intro o ho
            simp only [List.getElem?_toArray, List.getElem?_cons_zero, List.getElem?_cons_succ, Option.some.injEq] at ho
            subst ho
            refine ⟨by rfl, fun w hSw => ?_⟩
            go_simp
            try with_reducible rfl
          simp only [Act.put, List.setIfInBounds_toArray, List.set_cons_zero, List.set_cons_succ]
          refine wpAnyH_takeD (i := 5) (d := some 77) (v := ?_) rfl (by kernel_rfl) (by kernel_rfl) (by kernel_rfl) NoPanic.hQ ?_ (by assumption) ?_
          rotate_left
          · intro o ho
            simp only [List.getElem?_toArray, List.getElem?_cons_zero, List.getElem?_cons_succ, Option.some.injEq] at ho
            subst ho
            refine ⟨by rfl, fun w hSw => ?_⟩
            go_simp
            try with_reducible rfl
          simp only [Act.put, List.setIfInBounds_toArray, List.set_cons_zero, List.set_cons_succ]
          refine wpAnyH_takeD (i := 6) (d := some 78) (v := ?_) rfl (by kernel_rfl) (by kernel_rfl) (by kernel_rfl) NoPanic.hQ ?_ (by assumption) ?_
          rotate_left
          · intro o ho
            simp only [List.getElem?_toArray, List.getElem?_cons_zero, List.getElem?_cons_succ, Option.some.injEq] at ho
            subst ho
            refine ⟨by rfl, fun w hSw => ?_⟩
            go_simp
            try with_reducible rfl
          simp only [Act.put, List.setIfInBounds_toArray, List.set_cons_zero, List.set_cons_succ]
          refine wpAnyH_takeD (i := 7) (d := some 79) (v := ?_) rfl (by kernel_rfl) (by kernel_rfl) (by kernel_rfl) NoPanic.hQ ?_ (by assumption) ?_
          rotate_left
          · intro o ho
            simp only [List.getElem?_toArray, List.getElem?_cons_zero, List.getElem?_cons_succ, Option.some.injEq] at ho
            subst ho
            refine ⟨by rfl, fun w hSw => ?_⟩
            go_simp
            try with_reducible rfl
          simp only [Act.put, List.setIfInBounds_toArray, List.set_cons_zero, List.set_cons_succ]
          refine wpAnyH_takeD (i := 8) (d := some 80) (v := ?_) rfl (by kernel_rfl) (by kernel_rfl) (by kernel_rfl) NoPanic.hQ ?_ (by assumption) ?_
          rotate_left
          · intro o ho
            simp only [List.getElem?_toArray, List.getElem?_cons_zero, List.getElem?_cons_succ, Option.some.injEq] at ho
            subst ho
            refine ⟨by rfl, fun w hSw => ?_⟩
            obtain ⟨hs0, hs1, hs2⟩ := hSw
            go_simp
            try with_reducible rfl
          simp only [Act.put, List.setIfInBounds_toArray, List.set_cons_zero, List.set_cons_succ]
          have HP66 := Lib.hid HP6.out.drew
          have HQ66 := Lib.hid HQ6.out.drew
          have b66 := b6.drew
          refine wpAnyH_oneD (i := 4) (by kernel_rfl) ?_
          intro o ho
          simp only [List.getElem?_toArray, List.getElem?_cons_zero, List.getElem?_cons_succ, Option.some.injEq] at ho
          subst ho
          refine ⟨by rfl, fun K hK => ?_⟩
          go_simp
          refine (N1.out _ HP66.out).mono ?_
          rintro e w7 ⟨rfl, h, u⟩
          have HP7 := Lib.hid h
          have HQ7 := Lib.hid (HQ66.out.upd u (by omega))
          have b7 := b66.trans (u.2.1.mono hbs)
          have hs7 : w7.cell? ⟨c, 0, none⟩ = some (.int .i64 m) ∧ w7.cell? ⟨c, 1, none⟩ = some (.int .i64 hv') ∧ w7.cell? ⟨c, 2, none⟩ = some (.int .i64 pv) := ⟨HQ7.out.c0, HQ7.out.c1, HQ7.out.c2⟩
          clear h u
          go_wp2_with fail
          refine hK.out _ _ hs7 ?_
          clear hK K
          refine wpAnyH_takeD (i := 9) (d := some 81) (v := ?_) rfl (by kernel_rfl) (by kernel_rfl) (by kernel_rfl) NoPanic.hQ ?_ (by assumption) ?_
          rotate_left
          · intro o ho
            simp only [List.getElem?_toArray, List.getElem?_cons_zero, List.getElem?_cons_succ, Option.some.injEq] at ho
            subst ho
            refine ⟨by rfl, fun w hSw => ?_⟩
            go_simp
            try with_reducible rfl
          simp only [Act.put, List.setIfInBounds_toArray, List.set_cons_zero, List.set_cons_succ]
          refine wpAnyH_takeD (i := 10) (d := some 82) (v := ?_) rfl (by kernel_rfl) (by kernel_rfl) (by kernel_rfl) NoPanic.hQ ?_ (by assumption) ?_
          rotate_left
          · intro o ho
            simp only [List.getElem?_toArray, List.getElem?_cons_zero, List.getElem?_cons_succ, Option.some.injEq] at ho
            subst ho
            refine ⟨by rfl, fun w hSw => ?_⟩
            go_simp
            try with_reducible rfl
          simp only [Act.put, List.setIfInBounds_toArray, List.set_cons_zero, List.set_cons_succ]
          refine wpAnyH_takeD (i := 11) (d := some 83) (v := ?_) rfl (by kernel_rfl) (by kernel_rfl) (by kernel_rfl) NoPanic.hQ ?_ (by assumption) ?_
          rotate_left
          · intro o ho
            simp only [List.getElem?_toArray, List.getElem?_cons_zero, List.getElem?_cons_succ, Option.some.injEq] at ho
            subst ho
            refine ⟨by rfl, fun w hSw => ?_⟩
            go_simp
            try with_reducible rfl
          simp only [Act.put, List.setIfInBounds_toArray, List.set_cons_zero, List.set_cons_succ]
          refine wpAnyH_takeD (i := 12) (d := some 84) (v := ?_) rfl (by kernel_rfl) (by kernel_rfl) (by kernel_rfl) NoPanic.hQ ?_ (by assumption) ?_
          rotate_left
          · intro o ho
            simp only [List.getElem?_toArray, List.getElem?_cons_zero, List.getElem?_cons_succ, Option.some.injEq] at ho
            subst ho
            refine ⟨by rfl, fun w hSw => ?_⟩
            go_simp
            try with_reducible rfl
          simp only [Act.put, List.setIfInBounds_toArray, List.set_cons_zero, List.set_cons_succ]
          refine wpAnyH_takeD (i := 14) (d := some 86) (v := ?_) rfl (by kernel_rfl) (by kernel_rfl) (by kernel_rfl) NoPanic.hQ ?_ (by assumption) ?_
          rotate_left
          · intro o ho
            simp only [List.getElem?_toArray, List.getElem?_cons_zero, List.getElem?_cons_succ, Option.some.injEq] at ho
            subst ho
            refine ⟨by rfl, fun w hSw => ?_⟩
            go_simp
            try with_reducible rfl
          simp only [Act.put, List.setIfInBounds_toArray, List.set_cons_zero, List.set_cons_succ]
          refine wpAnyH_takeD (i := 15) (d := some 87) (v := ?_) rfl (by kernel_rfl) (by kernel_rfl) (by kernel_rfl) NoPanic.hQ ?_ (by assumption) ?_
          rotate_left
          · intro o ho
            simp only [List.getElem?_toArray, List.getElem?_cons_zero, List.getElem?_cons_succ, Option.some.injEq] at ho
            subst ho
            refine ⟨by rfl, fun w hSw => ?_⟩
            go_simp
            try with_reducible rfl
          simp only [Act.put, List.setIfInBounds_toArray, List.set_cons_zero, List.set_cons_succ]
          refine wpAnyH_takeD (i := 16) (d := some 88) (v := ?_) rfl (by kernel_rfl) (by kernel_rfl) (by kernel_rfl) NoPanic.hQ ?_ (by assumption) ?_
          rotate_left
          · intro o ho
            simp only [List.getElem?_toArray, List.getElem?_cons_zero, List.getElem?_cons_succ, Option.some.injEq] at ho
            subst ho
            refine ⟨by rfl, fun w hSw => ?_⟩
            go_simp
            try with_reducible rfl
          simp only [Act.put, List.setIfInBounds_toArray, List.set_cons_zero, List.set_cons_succ]
          refine wpAnyH_takeD (i := 17) (d := some 89) (v := ?_) rfl (by kernel_rfl) (by kernel_rfl) (by kernel_rfl) NoPanic.hQ ?_ (by assumption) ?_
          rotate_left
          · intro o ho
            simp only [List.getElem?_toArray, List.getElem?_cons_zero, List.getElem?_cons_succ, Option.some.injEq] at ho
            subst ho
            refine ⟨by rfl, fun w hSw => ?_⟩
            obtain ⟨hs0, hs1, hs2⟩ := hSw
            go_simp
            try with_reducible rfl
          simp only [Act.put, List.setIfInBounds_toArray, List.set_cons_zero, List.set_cons_succ]
          refine wpAnyH_oneD (i := 13) (by kernel_rfl) ?_
          intro o ho
          simp only [List.getElem?_toArray, List.getElem?_cons_zero, List.getElem?_cons_succ, Option.some.injEq] at ho
          subst ho
          refine ⟨by rfl, fun K hK => ?_⟩
          go_simp
          refine (N2.out _ HP7.out).mono ?_
          rintro e w8 ⟨rfl, h, u⟩
          have HP8 := Lib.hid h
          have HQ8 := Lib.hid (HQ7.out.upd u (by omega))
          have b8 := b7.trans (u.2.1.mono hbs)
          have hs8 : w8.cell? ⟨c, 0, none⟩ = some (.int .i64 m) ∧ w8.cell? ⟨c, 1, none⟩ = some (.int .i64 hv') ∧ w8.cell? ⟨c, 2, none⟩ = some (.int .i64 pv) := ⟨HQ8.out.c0, HQ8.out.c1, HQ8.out.c2⟩
          clear h u
          go_wp2_with fail
          refine hK.out _ _ hs8 ?_
          clear hK K
          refine wpAnyH_takeD (i := 18) (d := some 90) (v := ?_) rfl (by kernel_rfl) (by kernel_rfl) (by kernel_rfl) NoPanic.hQ ?_ (by assumption) ?_
          rotate_left
          · intro o ho
            simp only [List.getElem?_toArray, List.getElem?_cons_zero, List.getElem?_cons_succ, Option.some.injEq] at ho
            subst ho
            refine ⟨by rfl, fun w hSw => ?_⟩
            go_simp
            try with_reducible rfl
          simp only [Act.put, List.setIfInBounds_toArray, List.set_cons_zero, List.set_cons_succ]
          refine wpAnyH_takeD (i := 19) (d := some 91) (v := ?_) rfl (by kernel_rfl) (by kernel_rfl) (by kernel_rfl) NoPanic.hQ ?_ (by assumption) ?_
          rotate_left
          · intro o ho
            simp only [List.getElem?_toArray, List.getElem?_cons_zero, List.getElem?_cons_succ, Option.some.injEq] at ho
            subst ho
            refine ⟨by rfl, fun w hSw => ?_⟩
            go_simp
            try with_reducible rfl
          simp only [Act.put, List.setIfInBounds_toArray, List.set_cons_zero, List.set_cons_succ]
          refine wpAnyH_takeD (i := 20) (d := some 92) (v := ?_) rfl (by kernel_rfl) (by kernel_rfl) (by kernel_rfl) NoPanic.hQ ?_ (by assumption) ?_
          rotate_left
          · intro o ho
            simp only [List.getElem?_toArray, List.getElem?_cons_zero, List.getElem?_cons_succ, Option.some.injEq] at ho
            subst ho
            refine ⟨by rfl, fun w hSw => ?_⟩
            go_simp
            try with_reducible rfl
          simp only [Act.put, List.setIfInBounds_toArray, List.set_cons_zero, List.set_cons_succ]
          refine wpAnyH_takeD (i := 21) (d := some 93) (v := ?_) rfl (by kernel_rfl) (by kernel_rfl) (by kernel_rfl) NoPanic.hQ ?_ (by assumption) ?_
          rotate_left
          · intro o ho
            simp only [List.getElem?_toArray, List.getElem?_cons_zero, List.getElem?_cons_succ, Option.some.injEq] at ho
            subst ho
            refine ⟨by rfl, fun w hSw => ?_⟩
            go_simp
            try with_reducible rfl
          simp only [Act.put, List.setIfInBounds_toArray, List.set_cons_zero, List.set_cons_succ]
          refine wpAnyH_takeD (i := 23) (d := some 95) (v := ?_) rfl (by kernel_rfl) (by kernel_rfl) (by kernel_rfl) NoPanic.hQ ?_ (by assumption) ?_
          rotate_left
          · intro o ho
            simp only [List.getElem?_toArray, List.getElem?_cons_zero, List.getElem?_cons_succ, Option.some.injEq] at ho
            subst ho
            refine ⟨by rfl, fun w hSw => ?_⟩
            go_simp
            try with_reducible rfl
          simp only [Act.put, List.setIfInBounds_toArray, List.set_cons_zero, List.set_cons_succ]
          refine wpAnyH_takeD (i := 24) (d := some 96) (v := ?_) rfl (by kernel_rfl) (by kernel_rfl) (by kernel_rfl) NoPanic.hQ ?_ (by assumption) ?_
          rotate_left
          · intro o ho
            simp only [List.getElem?_toArray, List.getElem?_cons_zero, List.getElem?_cons_succ, Option.some.injEq] at ho
            subst ho
            refine ⟨by rfl, fun w hSw => ?_⟩
            go_simp
            try with_reducible rfl
          simp only [Act.put, List.setIfInBounds_toArray, List.set_cons_zero, List.set_cons_succ]
          refine wpAnyH_takeD (i := 25) (d := some 97) (v := ?_) rfl (by kernel_rfl) (by kernel_rfl) (by kernel_rfl) NoPanic.hQ ?_ (by assumption) ?_
          rotate_left
          · intro o ho
            simp only [List.getElem?_toArray, List.getElem?_cons_zero, List.getElem?_cons_succ, Option.some.injEq] at ho
            subst ho
            refine ⟨by rfl, fun w hSw => ?_⟩
            go_simp
            try with_reducible rfl
          simp only [Act.put, List.setIfInBounds_toArray, List.set_cons_zero, List.set_cons_succ]
          refine wpAnyH_takeD (i := 26) (d := some 98) (v := ?_) rfl (by kernel_rfl) (by kernel_rfl) (by kernel_rfl) NoPanic.hQ ?_ (by assumption) ?_
          rotate_left
          · intro o ho
            simp only [List.getElem?_toArray, List.getElem?_cons_zero, List.getElem?_cons_succ, Option.some.injEq] at ho
            subst ho
            refine ⟨by rfl, fun w hSw => ?_⟩
            obtain ⟨hs0, hs1, hs2⟩ := hSw
            go_simp
            try with_reducible rfl
          simp only [Act.put, List.setIfInBounds_toArray, List.set_cons_zero, List.set_cons_succ]
          refine wpAnyH_takeD (i := 27) (d := some 99) (v := ?_) rfl (by kernel_rfl) (by kernel_rfl) (by kernel_rfl) NoPanic.hQ ?_ (by assumption) ?_
          rotate_left
          · intro o ho
            simp only [List.getElem?_toArray, List.getElem?_cons_zero, List.getElem?_cons_succ, Option.some.injEq] at ho
            subst ho
            refine ⟨by rfl, fun w hSw => ?_⟩
            go_simp
            try with_reducible rfl
          simp only [Act.put, List.setIfInBounds_toArray, List.set_cons_zero, List.set_cons_succ]
          refine wpAnyH_takeD (i := 28) (d := some 100) (v := ?_) rfl (by kernel_rfl) (by kernel_rfl) (by kernel_rfl) NoPanic.hQ ?_ (by assumption) ?_
          rotate_left
          · intro o ho
            simp only [List.getElem?_toArray, List.getElem?_cons_zero, List.getElem?_cons_succ, Option.some.injEq] at ho
            subst ho
            refine ⟨by rfl, fun w hSw => ?_⟩
            go_simp
            try with_reducible rfl
          simp only [Act.put, List.setIfInBounds_toArray, List.set_cons_zero, List.set_cons_succ]
          refine wpAnyH_takeD (i := 29) (d := some 101) (v := ?_) rfl (by kernel_rfl) (by kernel_rfl) (by kernel_rfl) NoPanic.hQ ?_ (by assumption) ?_
          rotate_left
          · intro o ho
            simp only [List.getElem?_toArray, List.getElem?_cons_zero, List.getElem?_cons_succ, Option.some.injEq] at ho
            subst ho
            refine ⟨by rfl, fun w hSw => ?_⟩
            go_simp
            try with_reducible rfl
          simp only [Act.put, List.setIfInBounds_toArray, List.set_cons_zero, List.set_cons_succ]
          refine wpAnyH_takeD (i := 30) (d := some 102) (v := ?_) rfl (by kernel_rfl) (by kernel_rfl) (by kernel_rfl) NoPanic.hQ ?_ (by assumption) ?_
          rotate_left
          · intro o ho
            simp only [List.getElem?_toArray, List.getElem?_cons_zero, List.getElem?_cons_succ, Option.some.injEq] at ho
            subst ho
            refine ⟨by rfl, fun w hSw => ?_⟩
            obtain ⟨hs0, hs1, hs2⟩ := hSw
            go_simp
            try with_reducible rfl
          simp only [Act.put, List.setIfInBounds_toArray, List.set_cons_zero, List.set_cons_succ]
          refine wpAnyH_takeD (i := 31) (d := some 103) (v := ?_) rfl (by kernel_rfl) (by kernel_rfl) (by kernel_rfl) NoPanic.hQ ?_ (by assumption) ?_
          rotate_left
          · intro o ho
            simp only [List.getElem?_toArray, List.getElem?_cons_zero, List.getElem?_cons_succ, Option.some.injEq] at ho
            subst ho
            refine ⟨by rfl, fun w hSw => ?_⟩
            go_simp
            try with_reducible rfl
          simp only [Act.put, List.setIfInBounds_toArray, List.set_cons_zero, List.set_cons_succ]
          refine wpAnyH_oneD (i := 22) (by kernel_rfl) ?_
          intro o ho
          simp only [List.getElem?_toArray, List.getElem?_cons_zero, List.getElem?_cons_succ, Option.some.injEq] at ho
          subst ho
          refine ⟨by rfl, fun K hK => ?_⟩
          go_simp
          refine (left_any b m (m - hv') (m - pv) _ HP8.out).mono ?_
          rintro e w9 ⟨rfl, h, u⟩
          have HP9 := Lib.hid h
          have HQ9 := Lib.hid (HQ8.out.upd u (by omega))
          have b9 := b8.trans (u.2.1.mono hbs)
          have hs9 : w9.cell? ⟨c, 0, none⟩ = some (.int .i64 m) ∧ w9.cell? ⟨c, 1, none⟩ = some (.int .i64 hv') ∧ w9.cell? ⟨c, 2, none⟩ = some (.int .i64 pv) := ⟨HQ9.out.c0, HQ9.out.c1, HQ9.out.c2⟩
          clear h u
          go_wp2_with fail
          refine hK.out _ _ hs9 ?_
          clear hK K
          refine wpAnyH_takeD (i := 32) (d := some 104) (v := ?_) rfl (by kernel_rfl) (by kernel_rfl) (by kernel_rfl) NoPanic.hQ ?_ (by assumption) ?_
          rotate_left
          · intro o ho
            simp only [List.getElem?_toArray, List.getElem?_cons_zero, List.getElem?_cons_succ, Option.some.injEq] at ho
            subst ho
            refine ⟨by rfl, fun w hSw => ?_⟩
            go_simp
            try with_reducible rfl
          simp only [Act.put, List.setIfInBounds_toArray, List.set_cons_zero, List.set_cons_succ]
          refine wpAnyH_takeD (i := 33) (d := some 105) (v := ?_) rfl (by kernel_rfl) (by kernel_rfl) (by kernel_rfl) NoPanic.hQ ?_ (by assumption) ?_
          rotate_left
          · intro o ho
            simp only [List.getElem?_toArray, List.getElem?_cons_zero, List.getElem?_cons_succ, Option.some.injEq] at ho
            subst ho
            refine ⟨by rfl, fun w hSw => ?_⟩
            go_simp
            try with_reducible rfl
          simp only [Act.put, List.setIfInBounds_toArray, List.set_cons_zero, List.set_cons_succ]
          refine wpAnyH_done (by kernel_rfl) ?_ _
          refine NoPanic.normal ?_
          clear hq0 hq1 hq2 hwr hs7 hs8 hs9 N1 N2
          go_wp2
          go_roundw
          case rel => exact ⟨k + 1, by omega, by go_num, hv', pv, OK', HP9, HQ9, b9⟩
          case measure => simp [intOf]; omega
    · go_wp2
      go_ret
      exact ⟨rfl, hbel⟩
end Go.Proofs.Ytbmndojfemekdaa
