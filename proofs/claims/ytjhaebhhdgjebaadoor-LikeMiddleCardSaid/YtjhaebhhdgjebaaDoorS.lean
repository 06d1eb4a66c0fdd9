/-
  PROVED: warplaw03.shown, the document's examples, returns true (shown_any). Conditions: none.
-/
import Derived.Test.YtjhaebhhdgjebaaDoorF
namespace Go.Proofs.YtjhaebhhdgjebaaDoor
open Go.RowKit Like
theorem letters_ascii : ∀ l : L, (l.all fun c => decide (c.toNat < 128)) = true → letters l = l.map fun c => [c]
  | [], _ => rfl
  | c :: r, h => by
    simp only [List.all_cons, Bool.and_eq_true, decide_eq_true_eq] at h
    rw [letters_cons c r h.1, letters_ascii r (by simpa using h.2)]
    rfl
def likeC (p s : L) : Bool := (parse (p.map fun c => [c])).2 && matchL (parse (p.map fun c => [c])).1 (s.map fun c => [c])
theorem like_ascii (p s : L) (hp : (p.all fun c => decide (c.toNat < 128)) = true) (hs : (s.all fun c => decide (c.toNat < 128)) = true) : like p s = likeC p s := by unfold like likeC; rw [letters_ascii p hp, letters_ascii s hs]
def RetI (b : Bool) (w : World) (e : Ending) (w' : World) : Prop := e = .returned (.bool b) ∧ Below w.heap.size w w'
theorem is_at (p s : L) (b : Bool) (h : like p s = b) (hp : p.length ≤ 100000) (hs : s.length ≤ 100000) (w : World) : Calls Tryd.prog 12 #[.string (str p), .string (str s)] w (RetI b w) := by
  rw [← h]
  exact is_any p s w hp hs
theorem i1 (w : World) : Calls Tryd.prog 12 #[.string { data := #[97, 37] }, .string { data := #[97, 98, 99] }] w (RetI true w) := is_at [97, 37] [97, 98, 99] true (by rw [like_ascii _ _ (by decide) (by decide)]; decide) (by decide) (by decide) w
theorem i2 (w : World) : Calls Tryd.prog 12 #[.string { data := #[95, 98, 95] }, .string { data := #[97, 98, 99] }] w (RetI true w) := is_at [95, 98, 95] [97, 98, 99] true (by rw [like_ascii _ _ (by decide) (by decide)]; decide) (by decide) (by decide) w
theorem i3 (w : World) : Calls Tryd.prog 12 #[.string { data := #[37, 99] }, .string { data := #[97, 98, 99] }] w (RetI true w) := is_at [37, 99] [97, 98, 99] true (by rw [like_ascii _ _ (by decide) (by decide)]; decide) (by decide) (by decide) w
theorem i4 (w : World) : Calls Tryd.prog 12 #[.string { data := #[97, 95] }, .string { data := #[97, 98, 99] }] w (RetI false w) := is_at [97, 95] [97, 98, 99] false (by rw [like_ascii _ _ (by decide) (by decide)]; decide) (by decide) (by decide) w
theorem i5 (w : World) : Calls Tryd.prog 12 #[.string { data := #[49, 48, 48, 92, 37] }, .string { data := #[49, 48, 48, 37] }] w (RetI true w) := is_at [49, 48, 48, 92, 37] [49, 48, 48, 37] true (by rw [like_ascii _ _ (by decide) (by decide)]; decide) (by decide) (by decide) w
theorem f1 (w : World) : Calls Tryd.prog 10 #[.string { data := #[97, 98, 92, 95, 99, 37, 100] }] w (RetF [97, 98, 95, 99] false 0 w) := by
  have h := fixed_ok [97, 98, 92, 95, 99, 37, 100] w (by decide) (by rw [letters_ascii _ (by decide)]; decide)
  have e : fixedOf [97, 98, 92, 95, 99, 37, 100] = ([97, 98, 95, 99], false) := by unfold fixedOf; rw [letters_ascii _ (by decide)]; decide
  rw [e] at h
  exact h
theorem q1 (w : World) : Calls Tryd.prog 14 #[.string { data := #[53, 37] }] w (RetT [53, 92, 37] w) := by
  have h := quote_any [53, 37] w (by decide)
  have e : quote [53, 37] = [53, 92, 37] := by unfold quote; rw [letters_ascii _ (by decide)]; decide
  rw [e] at h
  exact h
set_option maxRecDepth 100000 in
theorem shown_any (w : World) : Calls Tryd.prog 8 #[] w (RetI true w) := by
  have e1 : ((str [97, 98, 95, 99]).toList == [97, 98, 95, 99]) = true := by rw [toList_str]; rfl
  have e2 : ((str [53, 92, 37]).toList == [53, 92, 37]) = true := by rw [toList_str]; rfl
  go_enter Tryd.func8, Tryd.ntmps8
  go_wp2_with fail
  refine (f1 _).mono ?_
  rintro e w1 ⟨rfl, b1⟩
  go_wp2_with fail
  refine (i1 _).mono ?_
  rintro e w2 ⟨rfl, hb⟩
  have b2 := b1.trans (hb.mono b1.size)
  clear hb
  go_wp2_with fail
  refine (i2 _).mono ?_
  rintro e w3 ⟨rfl, hb⟩
  have b3 := b2.trans (hb.mono b2.size)
  clear hb
  go_wp2_with fail
  refine (i3 _).mono ?_
  rintro e w4 ⟨rfl, hb⟩
  have b4 := b3.trans (hb.mono b3.size)
  clear hb
  go_wp2_with fail
  refine (i4 _).mono ?_
  rintro e w5 ⟨rfl, hb⟩
  have b5 := b4.trans (hb.mono b4.size)
  clear hb
  go_wp2_with fail
  refine (i5 _).mono ?_
  rintro e w6 ⟨rfl, hb⟩
  have b6 := b5.trans (hb.mono b5.size)
  clear hb
  go_wp2_with fail
  refine (q1 _).mono ?_
  rintro e w7 ⟨rfl, hb⟩
  have b7 := b6.trans (hb.mono b6.size)
  clear hb
  go_wp2
  go_ret
  exact ⟨rfl, b7⟩
end Go.Proofs.YtjhaebhhdgjebaaDoor
