/-
  PROVED: the walk of the law CrcParts: it returns true and changes nothing that was there (parts_walk). Conditions: the slices read as some bytes.
-/
import Derived.Test.YthhfhiiiniogdaaC
namespace Go.Proofs.Ythhfhiiiniogdaa
open Go.RowKit Crc
set_option maxRecDepth 100000 in
theorem parts_walk (s : Int) (x : BitVec 32) (hx : Is s x) (a : Option Addr) (n cap : Nat) (l : List UInt8) (a2 : Option Addr) (n2 cap2 : Nat) (l2 : List UInt8) (w : World) (hs : Shape a n cap) (hr : Rd w a n l) (hs2 : Shape a2 n2 cap2) (hr2 : Rd w a2 n2 l2) :
    Calls Try.prog 4 #[.int .u32 s, .slice a n cap, .slice a2 n2 cap2] w fun e w' => e = .returned (.bool true) ∧ Below w.heap.size w w' := by
  obtain ⟨hn1, hn2⟩ := fewN_le n
  have hra := hr.take (fewN n) hn1
  have hsa := hs.less (fewN n) hn1
  obtain ⟨hm1, hm2⟩ := fewN_le n2
  have hrb := hr2.take (fewN n2) hm1
  have hsb := hs2.less (fewN n2) hm1
  generalize l.take (fewN n) = x1 at *
  generalize l2.take (fewN n2) = x2 at *
  go_enter Try.func4, Try.ntmps4
  go_wp2_with fail
  refine (few_any a n cap w hs).mono ?_
  rintro e w' ⟨rfl, rfl⟩
  go_wp2_with fail
  refine (few_any a2 n2 cap2 w hs2).mono ?_
  rintro e w' ⟨rfl, rfl⟩
  go_wp2_with fail
  refine (shown_any _).mono ?_
  rintro e w1 ⟨rfl, hb1⟩
  have hra1 := hra.below hb1
  have hrb1 := hrb.below hb1
  go_wp2_with (first
    | (at_builtin; refine append23w rfl (.tmp 16) (.tmp 17) rfl w1.heap.size _ 0 0 [] rfl (Own.empty w1 _ (Nat.le_refl _)) a _ cap x1 rfl (hra1.alloc _) hsa (by omega) (by rw [World.size_alloc]; omega) ?_; intro g1 c1 w2 ho2 hg2; simp only [Nat.zero_add, List.nil_append] at ho2 ⊢; have hb2 : Below w1.heap.size w1 w2 := (Own.empty w1 _ (Nat.le_refl _)).below (Below.start' w1 _) hg2 (by rw [World.size_alloc]; omega))
    | (at_builtin; refine append23w rfl (.tmp 18) (.tmp 19) rfl w1.heap.size g1 (fewN n) c1 x1 rfl ho2 a2 _ cap2 x2 rfl (hrb1.below hb2) hsb (by omega) hb2.size ?_; intro g2 c2 w3 ho3 hg3))
  have hb3 : Below w1.heap.size w1 w3 := ho2.below hb2 hg3 hb2.size
  refine (more_any s x hx g2 _ c2 _ _ ho3.rd (by omega)).mono ?_
  rintro e w4 ⟨r1, h1, rfl, hb4⟩
  have hb14 : Below w1.heap.size w1 w4 := hb3.trans (hb4.mono hb3.size)
  go_wp2_with fail
  refine (more_any s x hx a _ cap _ _ (hra1.below hb14) (by omega)).mono ?_
  rintro e w5 ⟨r2, h2, rfl, hb5⟩
  have hb15 : Below w1.heap.size w1 w5 := hb14.trans (hb5.mono hb14.size)
  go_wp2_with fail
  refine (more_any r2 _ h2 a2 _ cap2 _ _ (hrb1.below hb15) (by omega)).mono ?_
  rintro e w6 ⟨r3, h3, rfl, hb6⟩
  rw [← more_append] at h3
  obtain rfl := Is.same h1 h3
  go_wp2
  go_ret
  exact ⟨rfl, (hb1.trans (hb15.mono hb1.size)).trans (hb6.mono (Nat.le_trans hb1.size hb15.size))⟩
end Go.Proofs.Ythhfhiiiniogdaa
