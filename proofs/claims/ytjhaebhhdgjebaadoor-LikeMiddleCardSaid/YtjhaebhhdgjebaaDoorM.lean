/-
  PROVED: texts as values, slices of texts as they lie, the built-in append of one text (appendS), parts of a text cut out (run_sub, run_subTo, run_subFrom). Conditions: the sizes are small.
-/
import Derived.Test.YtjhaebhhdgjebaaDoorRows
import Derived.Test.YtjhaebhhdgjebaaDoorLaws
import Derived.WalkKit
import Derived.Lib.Hide
import Derived.Lib.OthersKept
import Derived.Laws.AppendOwnNone
import Derived.IntWalk
namespace Go.Proofs.YtjhaebhhdgjebaaDoor
open Go.RowKit Like
/-- a text as the program holds it -/
def str (l : L) : ByteArray := ⟨l.toArray⟩
theorem str_size (l : L) : (str l).size = l.length := rfl
theorem str_toList (l : L) : (str l).data.toList = l := by simp [str]
theorem str_of (s : ByteArray) : str s.data.toList = s := by simp [str]
theorem str_inj {a b : L} (h : str a = str b) : a = b := by rw [← str_toList a, h, str_toList]
theorem toList_str (l : L) : (str l).toList = l := by rw [ByteArray.toList_eq, str_toList]
theorem decode_str (l : L) (pos : Nat) : Utf8.decode (str l) pos = Lib.decodeL (l.drop pos) := by rw [← Lib.decodeL_drop, str_toList]
/-! ### parts of a text -/
theorem extract_str (l : L) (i j : Nat) : (str l).extract i j = str ((l.drop i).take (j - i)) := by
  apply ByteArray.ext
  apply Array.toList_inj.1
  simp [str, List.extract_eq_take_drop]
theorem run_sub (l : L) (i j : Nat) (hij : i ≤ j) (hj : j ≤ l.length) (w : World) : (Instr.slice 9 (.string (str l)) (some (.int .i64 (i : Int))) (some (.int .i64 (j : Int))) none).run Tryd.prog w = .ok (.string (str ((l.drop i).take (j - i)))) w := by
  have h1 : (i : Int) ≤ (j : Int) := by omega
  have h2 : (j : Int) ≤ ((str l).size : Int) := by rw [str_size]; omega
  simp [Instr.slice, run_underlying Tryd.underlying9, Instr.sliceBounds, run_sliceBound, h1, h2, extract_str]
theorem run_subTo (l : L) (j : Nat) (i : Int) (hi : i = j) (hj : j ≤ l.length) (w : World) : (Instr.slice 9 (.string (str l)) none (some (.int .i64 i)) none).run Tryd.prog w = .ok (.string (str (l.take j))) w := by
  subst hi
  have h2 : (j : Int) ≤ ((str l).size : Int) := by rw [str_size]; omega
  simp [Instr.slice, run_underlying Tryd.underlying9, Instr.sliceBounds, run_sliceBound, h2, extract_str]
theorem run_subFrom (l : L) (i : Nat) (hi : i ≤ l.length) (w : World) : (Instr.slice 9 (.string (str l)) (some (.int .i64 (i : Int))) none none).run Tryd.prog w = .ok (.string (str (l.drop i))) w := by
  have h2 : (i : Int) ≤ (l.length : Int) := by omega
  have h3 : (l.drop i).take (l.length - i) = l.drop i := List.take_of_length_le (by rw [List.length_drop]; omega)
  simp [Instr.slice, run_underlying Tryd.underlying9, Instr.sliceBounds, run_sliceBound, h2, extract_str, str_size, h3]
/-! ### slices of texts -/
theorem info_str : (Tryd.prog.info? 9).map (fun i => (i.zero, i.size, i.bytes)) = some (some (.string { data := #[] }), 1, 16) := by kernel_rfl
theorem info_part : (Tryd.prog.info? 45).map (fun i => (i.zero, i.size, i.bytes)) = some (some (.agg #[.int .i32 0, .string { data := #[] }]), 2, 24) := by kernel_rfl
/-- the n places from a on hold these texts -/
def SRd (w : World) (a : Option Addr) (n : Nat) (ts : List L) : Prop := ts.length = n ∧ ∀ i t, ts[i]? = some t → ∃ b, a = some ⟨b, 0, none⟩ ∧ b < w.heap.size ∧ w.cell? ⟨b, i, none⟩ = some (.string (str t))
theorem SRd.below {w w' : World} {a : Option Addr} {n : Nat} {ts : List L} (h : SRd w a n ts) (hb : Below w.heap.size w w') : SRd w' a n ts := by
  refine ⟨h.1, fun i t hi => ?_⟩
  obtain ⟨b, ha, hlt, hc⟩ := h.2 i t hi
  exact ⟨b, ha, Nat.lt_of_lt_of_le hlt hb.size, by rw [hb.cell (p := ⟨b, i, none⟩) hlt]; exact hc⟩
theorem SRd.at {w : World} {a : Option Addr} {n : Nat} {ts : List L} (h : SRd w a n ts) (i : Nat) (hi : i < n) : ∃ b t, ts[i]? = some t ∧ a = some ⟨b, 0, none⟩ ∧ b < w.heap.size ∧ w.cell? ⟨b, i, none⟩ = some (.string (str t)) := by
  have hl : i < ts.length := by rw [h.1]; exact hi
  obtain ⟨b, h1, h2, h3⟩ := h.2 i ts[i] (List.getElem?_eq_getElem hl)
  exact ⟨b, ts[i], List.getElem?_eq_getElem hl, h1, h2, h3⟩
/-- a slice of texts of the call's own -/
def OwnS (w : World) (base : Nat) (a : Option Addr) (n c : Nat) (ts : List L) : Prop := ts.length = n ∧ w.ownsRow base 9 1 (.slice a n c) n (ts.map fun t => .string (str t))
theorem OwnS.nil (w : World) (base : Nat) : OwnS w base none 0 0 [] := ⟨rfl, World.ownsRow_nil _ _ _ _⟩
theorem OwnS.alloc {w : World} {base : Nat} {a : Option Addr} {n c : Nat} {ts : List L} (h : OwnS w base a n c ts) (o : Obj) : OwnS (w.alloc o) base a n c ts := ⟨h.1, h.2.alloc o⟩
theorem OwnS.form {w : World} {base : Nat} {v : Value} {n : Nat} {ts : List L} (hl : ts.length = n) (h : w.ownsRow base 9 1 v n (ts.map fun t => .string (str t))) : ∃ a c, v = .slice a n c ∧ OwnS w base a n c ts := by
  have h2 := h
  obtain ⟨_, h3⟩ := h
  rcases h3 with ⟨rfl, rfl⟩ | ⟨g, c, cur, rfl, _⟩
  · exact ⟨none, 0, rfl, hl, h2⟩
  · exact ⟨_, c, rfl, hl, h2⟩
theorem OwnS.rd {w : World} {base : Nat} {a : Option Addr} {n c : Nat} {ts : List L} (h : OwnS w base a n c ts) : SRd w a n ts := by
  refine ⟨h.1, fun i t hi => ?_⟩
  have hil : i < ts.length := (List.getElem?_eq_some_iff.1 hi).1
  rcases h.2.2 with ⟨_, h0⟩ | ⟨g, c', cur, hv, _⟩
  · rw [h.1] at hil; omega
  · cases hv
    have hc := h.2.cells (g := g) rfl i (.string (str t)) (by rw [List.getElem?_map, hi]; rfl)
    refine ⟨g, rfl, (h.2.lt g rfl).2, ?_⟩
    have e : (⟨g, 0, none⟩ : Addr).add i = ⟨g, i, none⟩ := by
      unfold Addr.add
      split
      · rename_i h0; subst h0; rfl
      · simp
    rw [e] at hc
    exact hc
theorem OwnS.below {w w' W : World} {base : Nat} {a : Option Addr} {n c : Nat} {ts : List L} (h : OwnS w base a n c ts) (hb : Below base W w) (hg : w.grownBy w' (Value.slice a n c).ownBlock) (hbase : base ≤ w.heap.size) : Below base W w' :=
  hb.grown hg hbase (fun k e => (h.2.lt k e).1)
/-- an iterator stays where it stands -/
theorem OwnS.iter {w w' : World} {base : Nat} {a : Option Addr} {n c : Nat} {ts : List L} (h : OwnS w base a n c ts) (hg : w.grownBy w' (Value.slice a n c).ownBlock) {k : Nat} {s : ByteArray} {pos : Nat} (hit : w.heap[k]? = some (.stringIter s pos)) : w'.heap[k]? = some (.stringIter s pos) := by
  have hlt : k < w.heap.size := (Array.getElem?_eq_some_iff.1 hit).1
  rw [hg.block k hlt ?_]
  · exact hit
  · intro e
    rcases h.2.2 with ⟨hv, _⟩ | ⟨g, c', cur, hv, _, hgc, _⟩
    · rw [hv] at e; cases e
    · rw [hv] at e
      have : k = g := Option.some.inj e
      subst this
      rw [hgc] at hit
      cases hit
theorem alloc_iter {w : World} {k : Nat} {s : ByteArray} {pos : Nat} (hit : w.heap[k]? = some (.stringIter s pos)) (o : Obj) : (w.alloc o).heap[k]? = some (.stringIter s pos) := by
  have hlt : k < w.heap.size := (Array.getElem?_eq_some_iff.1 hit).1
  rw [Lib.alloc_old w _ k hlt]
  exact hit
theorem OwnS.iterAt {w : World} {base : Nat} {a : Option Addr} {n c : Nat} {ts : List L} (h : OwnS w base a n c ts) {k : Nat} {s : ByteArray} {pos : Nat} (hit : w.heap[k]? = some (.stringIter s pos)) (p : Nat) : OwnS (w.iterAt k s p) base a n c ts := by
  refine ⟨h.1, h.2.1, ?_⟩
  rcases h.2.2 with hv | ⟨g, c', cur, hv, hg, hgc, r⟩
  · exact Or.inl hv
  · refine Or.inr ⟨g, c', cur, hv, hg, ?_, r⟩
    rw [Lib.iterAt_other w k g s p ?_]
    · exact hgc
    · rintro rfl
      rw [hgc] at hit
      cases hit
theorem appendS {w : World} {ops : Array Oper} {rest : List Oper} {o : Oper} {a : Act} {Q : Exit → Act → World → Prop} (hgd : o.guard = none) (s x : Operand)
    (ho : o.op = .call { callee := .builtin .append, args := #[s, x], argTypes := #[30, 30] })
    (base : Nat) (a1 : Option Addr) (n c1 : Nat) (ts : List L) (hs : a.eval s = .slice a1 n c1) (hown : OwnS w base a1 n c1 ts)
    (t : L) (hx : a.eval x = .slice (some ⟨w.heap.size, 0, none⟩) 1 1) (hb : n ≤ 200000) (hbase : base ≤ w.heap.size)
    (h : ∀ a' c' w', OwnS w' base a' (n + 1) c' (ts ++ [t]) → (w.alloc (.cells #[.string (str t)] 9)).grownBy w' (Value.slice a1 n c1).ownBlock → wpList Tryd.prog ops Q rest (a.put o.dst (.slice a' (n + 1) c')) w') :
    wpList Tryd.prog ops Q (o :: rest) a (w.alloc (.cells #[.string (str t)] 9)) := by
  obtain ⟨i0, hi, hz0, hz1, hz2⟩ := info_parts info_str
  have hrow := World.ownsRow_lit (base := 0) (e := 9) (size := 1) w #[.string (str t)] 1 (Nat.zero_le _) (by unfold maxLen; omega) rfl
  refine wpList_append_own _ hgd s x 30 ho base 9 i0 (.string { data := #[] }) 1 16 Tryd.underlying30 hi hz0 hz1 hz2 rfl (by decide) _ n _ hs (hown.alloc _).2 ⟨w.heap.size, 0, none⟩ 1 1 [.string (str t)] hx rfl (hrow.cells rfl) (by intro u hu; simp at hu; subst hu; rfl) (by unfold maxLen; omega) (by omega) (by rw [World.size_alloc]; omega) ?_
  intro v' w' ho' hg' _
  obtain ⟨a', c', rfl, hO⟩ := OwnS.form (n := n + 1) (ts := ts ++ [t]) (by simp [hown.1]) (by rw [List.map_append]; exact ho')
  exact h a' c' w' hO hg'
end Go.Proofs.YtjhaebhhdgjebaaDoor
