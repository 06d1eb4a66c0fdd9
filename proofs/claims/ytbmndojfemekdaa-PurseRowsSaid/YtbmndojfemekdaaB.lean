/-
  PROVED: Take, Give, Now, Peak and Left of a purse (take_any, give_any, now_any, peak_any, left_any) and of a nil one. Conditions: 0 ≤ S ≤ L ≤ M ≤ 1048576.
-/
import Derived.Test.YtbmndojfemekdaaA
import Derived.BigRegion
namespace Go.Proofs.Ytbmndojfemekdaa
open Go.RowKit
/-- the numbers of a purse -/
def Ok (M L S : Int) : Prop := 0 ≤ S ∧ S ≤ L ∧ L ≤ M ∧ M ≤ 1048576
/-- the call returns the number E; the purse in block b then holds M, L, S; nothing else is other -/
def RetP (b : Nat) (E M L S : Int) (w : World) (e : Ending) (w' : World) : Prop := e = .returned (.int .i64 E) ∧ Held w' b 53 M L S ∧ Upd b w w'
set_option maxRecDepth 100000 in
theorem take_any (b : Nat) (M L S n : Int) (w : World) (h : Held w b 53 M L S) (ho : Ok M L S) :
    Calls Try.prog 10 #[.pointer (some ⟨b, 0, none⟩), .int .i64 n] w (RetP b (takeE L n) M (takeL L n) (takeS L S n) w) := by
  obtain ⟨o1, o2, o3, o4⟩ := ho
  have h0 := h.c0
  have h1 := h.c1
  have h2 := h.c2
  have f1 := h.free 1
  have f2 := h.free 2
  have HH := Lib.hid h
  clear h
  by_cases hn : n < 0
  · have e1 : takeE L n = 1 := by simp [takeE, hn]
    have e2 : takeL L n = L := by simp [takeL, hn]
    have e3 : takeS L S n = S := by simp [takeS, hn]
    rw [e1, e2, e3]
    clear e1 e2 e3
    go_enter Try.func10, Try.ntmps10
    go_wp2
    go_ret
    exact ⟨rfl, HH.out, Upd.refl _ _⟩
  by_cases hl : L < n
  · have e1 : takeE L n = 5 := by simp [takeE, hn, hl]
    have e2 : takeL L n = L := by simp [takeL, hl]
    have e3 : takeS L S n = S := by simp [takeS, hl]
    rw [e1, e2, e3]
    clear e1 e2 e3
    go_enter Try.func10, Try.ntmps10
    go_wp2
    go_ret
    exact ⟨rfl, HH.out, Upd.refl _ _⟩
  · have e1 : takeE L n = 0 := by simp [takeE, hn, hl]
    have e2 : takeL L n = L - n := by simp [takeL, hn, hl]
    rw [e1, e2]
    clear e1 e2
    have hs1 := HH.out.set1 (L - n)
    have g1 := hs1.c1
    have g2 := hs1.c2
    have k2 := hs1.free 2
    have HS := Lib.hid hs1
    clear hs1
    by_cases hm : S ≤ L - n
    · have hx : True := trivial
      clear hx
      have e3 : takeS L S n = S := by simp [takeS, hn, hl, hm]
      rw [e3]
      clear e3
      go_enter Try.func10, Try.ntmps10
      go_wp2
      have hu := Lib.hid ((Upd.refl b w).setCell 1 (.int .i64 (L - n)))
      generalize w.setCell ⟨b, 1, none⟩ (.int .i64 (L - n)) = w1 at *
      clear h0 h1 h2 f1 f2
      go_region
      go_wp2
      go_ret
      exact ⟨rfl, HS.out.set2 _, (hu.out.setCell 2 _).drew⟩
    · have hx : True := trivial
      clear hx
      have e3 : takeS L S n = L - n := by simp [takeS, hn, hl, hm]
      rw [e3]
      clear e3
      go_enter Try.func10, Try.ntmps10
      go_wp2
      have hu := Lib.hid ((Upd.refl b w).setCell 1 (.int .i64 (L - n)))
      generalize w.setCell ⟨b, 1, none⟩ (.int .i64 (L - n)) = w1 at *
      clear h0 h1 h2 f1 f2
      go_region
      go_wp2
      go_ret
      exact ⟨rfl, HS.out.set2 _, (hu.out.setCell 2 _).drew⟩
set_option maxRecDepth 100000 in
theorem now_any (b : Nat) (M L S : Int) (w : World) (h : Held w b 53 M L S) (ho : Ok M L S) :
    Calls Try.prog 12 #[.pointer (some ⟨b, 0, none⟩)] w (RetP b (M - L) M L S w) := by
  obtain ⟨o1, o2, o3, o4⟩ := ho
  have h0 := h.c0
  have h1 := h.c1
  have HH := Lib.hid h
  clear h
  go_enter Try.func12, Try.ntmps12
  go_wp2
  go_region
  go_wp2
  go_ret
  exact ⟨rfl, HH.out, (Upd.refl _ _).drew⟩
set_option maxRecDepth 100000 in
theorem peak_any (b : Nat) (M L S : Int) (w : World) (h : Held w b 53 M L S) (ho : Ok M L S) :
    Calls Try.prog 13 #[.pointer (some ⟨b, 0, none⟩)] w (RetP b (M - S) M L S w) := by
  obtain ⟨o1, o2, o3, o4⟩ := ho
  have h0 := h.c0
  have h2 := h.c2
  have HH := Lib.hid h
  clear h
  go_enter Try.func13, Try.ntmps13
  go_wp2
  go_region
  go_wp2
  go_ret
  exact ⟨rfl, HH.out, (Upd.refl _ _).drew⟩
set_option maxRecDepth 100000 in
theorem left_any (b : Nat) (M L S : Int) (w : World) (h : Held w b 53 M L S) :
    Calls Try.prog 17 #[.pointer (some ⟨b, 0, none⟩)] w (RetP b L M L S w) := by
  have h1 := h.c1
  have HH := Lib.hid h
  clear h
  go_enter Try.func17, Try.ntmps17
  go_wp2
  go_ret
  exact ⟨rfl, HH.out, Upd.refl _ _⟩
set_option maxRecDepth 100000 in
theorem give_any (b : Nat) (M L S n : Int) (w : World) (h : Held w b 53 M L S) (ho : Ok M L S) :
    Calls Try.prog 11 #[.pointer (some ⟨b, 0, none⟩), .int .i64 n] w (RetP b (giveE M L n) M (giveL M L n) S w) := by
  have HO := Lib.hid ho
  obtain ⟨o1, o2, o3, o4⟩ := ho
  by_cases hn : n < 0
  · have e1 : giveE M L n = 1 := by simp [giveE, hn]
    have e2 : giveL M L n = L := by simp [giveL, hn]
    rw [e1, e2]
    clear e1 e2
    have HH := Lib.hid h
    clear h
    go_enter Try.func11, Try.ntmps11
    go_wp2
    go_ret
    exact ⟨rfl, HH.out, Upd.refl _ _⟩
  by_cases hl : M - L < n
  · have e1 : giveE M L n = 1 := by simp [giveE, hl]
    have e2 : giveL M L n = L := by simp [giveL, hl]
    rw [e1, e2]
    clear e1 e2
    have HH := Lib.hid h
    clear h
    go_enter Try.func11, Try.ntmps11
    go_wp2_with fail
    refine (now_any b M L S w HH.out HO.out).mono ?_
    rintro e w1 ⟨rfl, hh, hu⟩
    have HH1 := Lib.hid hh
    clear hh
    go_wp2
    go_ret
    exact ⟨rfl, HH1.out, hu⟩
  · have e1 : giveE M L n = 0 := by simp [giveE, hl, hn]
    have e2 : giveL M L n = L + n := by simp [giveL, hl, hn]
    rw [e1, e2]
    clear e1 e2
    have HH := Lib.hid h
    clear h
    go_enter Try.func11, Try.ntmps11
    go_wp2_with fail
    refine (now_any b M L S w HH.out HO.out).mono ?_
    rintro e w1 ⟨rfl, hh, hu⟩
    have h1 := hh.c1
    have f1 := hh.free 1
    have HH1 := Lib.hid hh
    clear hh
    go_wp2
    go_ret
    exact ⟨rfl, HH1.out.set1 _, hu.setCell 1 _⟩
/-! ### a nil purse -/
theorem take_nil (n : Int) (w : World) : Calls Try.prog 10 #[.pointer none, .int .i64 n] w fun e w' => e = .returned (.int .i64 2) ∧ w = w' := by
  go_enter Try.func10, Try.ntmps10
  go_wp2
  go_ret
  exact ⟨rfl, rfl⟩
theorem give_nil (n : Int) (w : World) : Calls Try.prog 11 #[.pointer none, .int .i64 n] w fun e w' => e = .returned (.int .i64 2) ∧ w = w' := by
  go_enter Try.func11, Try.ntmps11
  go_wp2
  go_ret
  exact ⟨rfl, rfl⟩
theorem now_nil (w : World) : Calls Try.prog 12 #[.pointer none] w fun e w' => e = .returned (.int .i64 0) ∧ w = w' := by
  go_enter Try.func12, Try.ntmps12
  go_wp2
  go_ret
  exact ⟨rfl, rfl⟩
theorem peak_nil (w : World) : Calls Try.prog 13 #[.pointer none] w fun e w' => e = .returned (.int .i64 0) ∧ w = w' := by
  go_enter Try.func13, Try.ntmps13
  go_wp2
  go_ret
  exact ⟨rfl, rfl⟩
theorem left_nil (w : World) : Calls Try.prog 17 #[.pointer none] w fun e w' => e = .returned (.int .i64 0) ∧ w = w' := by
  go_enter Try.func17, Try.ntmps17
  go_wp2
  go_ret
  exact ⟨rfl, rfl⟩
end Go.Proofs.Ytbmndojfemekdaa
