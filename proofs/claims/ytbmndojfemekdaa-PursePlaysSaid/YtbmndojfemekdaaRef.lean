/-
  PROVED: the reference's New, Take and Give compute what a purse of limit M, with N held and K held at most, computes (refNew_ok, refTake_any, refGive_any). Conditions: 0 ≤ N ≤ K ≤ M ≤ 1048576.
-/
import Derived.Test.YtbmndojfemekdaaIn
namespace Go.Proofs.Ytbmndojfemekdaa
open Go.RowKit
/-- the numbers of a reference's purse -/
def OkR (M N K : Int) : Prop := 0 ≤ N ∧ N ≤ K ∧ K ≤ M ∧ M ≤ 1048576
def RetQ (b : Nat) (E M N K : Int) (w : World) (e : Ending) (w' : World) : Prop := e = .returned (.int .i64 E) ∧ Held w' b 39 M N K ∧ Upd b w w'
def rTakeE (M N n : Int) : Int := if n < 0 then 1 else if M - N < n then 5 else 0
def rTakeN (M N n : Int) : Int := if n < 0 then N else if M - N < n then N else N + n
def rTakeK (M N K n : Int) : Int := if n < 0 then K else if M - N < n then K else if N + n ≤ K then K else N + n
def rGiveE (N n : Int) : Int := if n < 0 ∨ N < n then 1 else 0
def rGiveN (N n : Int) : Int := if n < 0 ∨ N < n then N else N - n
set_option maxRecDepth 100000 in
theorem refNew_ok (m : Int) (w : World) (h0 : 0 ≤ m) (h1 : m ≤ 1048576) :
    Calls Try.prog 14 #[.int .i64 m] w fun e w' => e = .returned (.tuple #[.pointer (some ⟨w.heap.size, 0, none⟩), .int .i64 0]) ∧ w' = w.alloc (.cells #[.int .i64 m, .int .i64 0, .int .i64 0] 39) := by
  go_enter Try.func14, Try.ntmps14
  go_wp2
  go_ret2
  exact ⟨rfl, rfl⟩
theorem refNew_bad (m : Int) (w : World) (h : m < 0 ∨ 1048576 < m) :
    Calls Try.prog 14 #[.int .i64 m] w fun e w' => e = .returned (.tuple #[.pointer none, .int .i64 1]) ∧ w = w' := by
  by_cases h0 : m < 0
  · clear h
    go_enter Try.func14, Try.ntmps14
    go_wp2
    go_ret2
    exact ⟨rfl, rfl⟩
  · have h1 := h.resolve_left h0
    clear h
    go_enter Try.func14, Try.ntmps14
    go_wp2
    go_ret2
    exact ⟨rfl, rfl⟩
set_option maxRecDepth 100000 in
theorem refGive_any (b : Nat) (M N K n : Int) (w : World) (h : Held w b 39 M N K) (ho : OkR M N K) :
    Calls Try.prog 15 #[.pointer (some ⟨b, 0, none⟩), .int .i64 n] w (RetQ b (rGiveE N n) M (rGiveN N n) K w) := by
  obtain ⟨o1, o2, o3, o4⟩ := ho
  have h1 := h.c1
  have f1 := h.free 1
  have HH := Lib.hid h
  clear h
  by_cases hn : n < 0
  · have e1 : rGiveE N n = 1 := by simp [rGiveE, hn]
    have e2 : rGiveN N n = N := by simp [rGiveN, hn]
    rw [e1, e2]
    clear e1 e2
    go_enter Try.func15, Try.ntmps15
    go_wp2
    go_ret
    exact ⟨rfl, HH.out, Upd.refl _ _⟩
  by_cases hl : N < n
  · have e1 : rGiveE N n = 1 := by simp [rGiveE, hl]
    have e2 : rGiveN N n = N := by simp [rGiveN, hl]
    rw [e1, e2]
    clear e1 e2
    go_enter Try.func15, Try.ntmps15
    go_wp2
    go_ret
    exact ⟨rfl, HH.out, Upd.refl _ _⟩
  · have e1 : rGiveE N n = 0 := by simp [rGiveE, hl, hn]
    have e2 : rGiveN N n = N - n := by simp [rGiveN, hl, hn]
    rw [e1, e2]
    clear e1 e2
    go_enter Try.func15, Try.ntmps15
    go_wp2
    go_ret
    exact ⟨rfl, HH.out.set1 _, (Upd.refl _ _).setCell 1 _⟩
set_option maxRecDepth 100000 in
theorem refTake_any (b : Nat) (M N K n : Int) (w : World) (h : Held w b 39 M N K) (ho : OkR M N K) :
    Calls Try.prog 16 #[.pointer (some ⟨b, 0, none⟩), .int .i64 n] w (RetQ b (rTakeE M N n) M (rTakeN M N n) (rTakeK M N K n) w) := by
  obtain ⟨o1, o2, o3, o4⟩ := ho
  have h0 := h.c0
  have h1 := h.c1
  have h2 := h.c2
  have f1 := h.free 1
  have f2 := h.free 2
  have HH := Lib.hid h
  clear h
  by_cases hn : n < 0
  · have e1 : rTakeE M N n = 1 := by simp [rTakeE, hn]
    have e2 : rTakeN M N n = N := by simp [rTakeN, hn]
    have e3 : rTakeK M N K n = K := by simp [rTakeK, hn]
    rw [e1, e2, e3]
    clear e1 e2 e3
    go_enter Try.func16, Try.ntmps16
    go_wp2
    go_ret
    exact ⟨rfl, HH.out, Upd.refl _ _⟩
  by_cases hl : M - N < n
  · have e1 : rTakeE M N n = 5 := by simp [rTakeE, hn, hl]
    have e2 : rTakeN M N n = N := by simp [rTakeN, hl]
    have e3 : rTakeK M N K n = K := by simp [rTakeK, hl]
    rw [e1, e2, e3]
    clear e1 e2 e3
    go_enter Try.func16, Try.ntmps16
    go_wp2
    go_region
    go_wp2
    go_ret
    exact ⟨rfl, HH.out, (Upd.refl _ _).drew⟩
  · have e1 : rTakeE M N n = 0 := by simp [rTakeE, hn, hl]
    have e2 : rTakeN M N n = N + n := by simp [rTakeN, hn, hl]
    rw [e1, e2]
    clear e1 e2
    by_cases hm : N + n ≤ K
    · have e3 : rTakeK M N K n = K := by simp [rTakeK, hn, hl, hm]
      rw [e3]
      clear e3
      go_enter Try.func16, Try.ntmps16
      go_wp2
      go_region
      go_wp2
      have hs1 := (HH.out.set1 (N + n)).drew
      have hu := Lib.hid ((Upd.refl b w).setCell 1 (.int .i64 (N + n))).drew
      generalize (w.setCell ⟨b, 1, none⟩ (.int .i64 (N + n))).drew = w1 at *
      have g1 := hs1.c1
      have g2 := hs1.c2
      have k2 := hs1.free 2
      have HS := Lib.hid hs1
      clear hs1 h0 h1 h2 f1 f2
      go_region
      go_wp2
      go_ret
      exact ⟨rfl, HS.out.set2 _, (hu.out.setCell 2 _).drew⟩
    · have e3 : rTakeK M N K n = N + n := by simp [rTakeK, hn, hl, hm]
      rw [e3]
      clear e3
      go_enter Try.func16, Try.ntmps16
      go_wp2
      go_region
      go_wp2
      have hs1 := (HH.out.set1 (N + n)).drew
      have hu := Lib.hid ((Upd.refl b w).setCell 1 (.int .i64 (N + n))).drew
      generalize (w.setCell ⟨b, 1, none⟩ (.int .i64 (N + n))).drew = w1 at *
      have g1 := hs1.c1
      have g2 := hs1.c2
      have k2 := hs1.free 2
      have HS := Lib.hid hs1
      clear hs1 h0 h1 h2 f1 f2
      go_region
      go_wp2
      go_ret
      exact ⟨rfl, HS.out.set2 _, (hu.out.setCell 2 _).drew⟩
end Go.Proofs.Ytbmndojfemekdaa
