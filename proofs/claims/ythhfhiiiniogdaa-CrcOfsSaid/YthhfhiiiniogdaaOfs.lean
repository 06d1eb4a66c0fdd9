/-
  PROVED: the walk of the law CrcOfs: it returns true and changes nothing that was there (ofs_walk). Conditions: the slice reads as some bytes.
-/
import Derived.Test.YthhfhiiiniogdaaI
namespace Go.Proofs.Ythhfhiiiniogdaa
open Go.RowKit Crc
theorem Is.same {m r : Int} {x : BitVec 32} (h : Is m x) (k : Is r x) : r = m := by unfold Is at *; omega
set_option maxRecDepth 100000 in
theorem ofs_walk (s : Int) (x : BitVec 32) (hx : Is s x) (a : Option Addr) (n cap : Nat) (l : List UInt8) (w : World) (hs : Shape a n cap) (hr : Rd w a n l) :
    Calls Try.prog 3 #[.int .u32 s, .slice a n cap] w fun e w' => e = .returned (.bool true) ∧ Below w.heap.size w w' := by
  obtain ⟨hn1, hn2⟩ := fewN_le n
  have hr0 := hr.take (fewN n) hn1
  go_enter Try.func3, Try.ntmps3
  go_wp2_with fail
  refine (few_any a n cap w hs).mono ?_
  rintro e w' ⟨rfl, rfl⟩
  go_wp2_with fail
  refine (shown_any _).mono ?_
  rintro e w1 ⟨rfl, hb1⟩
  have hr1 := hr0.below hb1
  go_wp2_with fail
  refine (of_any a _ cap _ _ hr1 (by omega)).mono ?_
  rintro e w2 ⟨r1, h1, rfl, hb2⟩
  have hr2 := hr1.below hb2
  go_wp2_with fail
  refine (refOf_any a _ cap _ _ hr2 (by omega)).mono ?_
  rintro e w2' ⟨r2, h2, rfl, rfl⟩
  obtain rfl := Is.same h1 h2
  go_wp2_with fail
  refine (more_any s x hx a _ cap _ _ hr2 (by omega)).mono ?_
  rintro e w3 ⟨r3, h3, rfl, hb3⟩
  have hr3 := hr2.below hb3
  go_wp2_with fail
  refine (refMore_any s x hx a _ cap _ _ hr3 (by omega)).mono ?_
  rintro e w3' ⟨r4, h4, rfl, rfl⟩
  obtain rfl := Is.same h3 h4
  go_wp2
  go_ret
  exact ⟨rfl, (hb1.trans (hb2.mono hb1.size)).trans (hb3.mono (Nat.le_trans hb1.size hb2.size))⟩
end Go.Proofs.Ythhfhiiiniogdaa
