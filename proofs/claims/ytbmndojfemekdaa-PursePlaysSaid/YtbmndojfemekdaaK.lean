/-
  PROVED: a region that draws its order may be walked under a condition on the world that grows stronger on the way (wpAnyH_mono); one operation that alone may come up comes up (wpAnyH_one). Conditions: none.
-/
import Derived.Deep.RegionHeld3
namespace Go.Proofs.Ytbmndojfemekdaa
section
variable {P : Program} {ops : Array Oper} {Q : Exit → Act → World → Prop} {md : Region.Mode} {S S2 : World → Prop}
theorem wpAnyH_mono (h : ∀ w, S2 w → S w) : ∀ (fuel : Nat) (listed : Array Bool) (a : Act) (w : World), wpAnyH P md ops Q S2 fuel listed a w → wpAnyH P md ops Q S fuel listed a w
  | 0, _, _, _, k => k
  | fuel + 1, _, _, _, k => ⟨k.1, fun i hi => wpOp_mono (fun a' w' k' => ⟨h w' k'.1, wpAnyH_mono h fuel _ a' w' k'.2⟩) (k.2 i hi)⟩
theorem wpAnyH_one {i : Nat} {o : Oper} {fuel : Nat} {listed : Array Bool} {a : Act} {w : World} (hr : Region.ready md ops listed = [i]) (ho : ops[i]? = some o) (hw : Region.wanted o (yielded ops a.tmps) = true)
    (h : ∀ K : Act → World → Prop, Shut (∀ a w, S w → wpAnyH P md ops Q S fuel (listed.setIfInBounds i true) a w → K a w) → Oper.wp P o a w K Q) : wpAnyH P md ops Q S (fuel + 1) listed a w :=
  wpAnyH_ready hr (by simp) (AllReadyH.cons ho (fun K hK => by rw [if_pos hw]; exact h K (fun a w hs hq => hK a w hs (fun _ => hq))) AllReadyH.nil)
/-- number i taken first: d is where its value goes, v its value -/
theorem wpAnyH_takeD {i : Nat} {d : Option Tmp} {v : Value} {fuel : Nat} {listed : Array Bool} {a : Act} {w : World} (hd : (ops[i]?).map (fun o => o.dst) = some d)
    (hs : Region.noSelect ops = true) (hf : Region.free md ops listed i = true) (hr : (Region.ready md ops listed).contains i = true)
    (hQ : ∀ c a d v w, Q (.panic c) (a.put d v) w → Q (.panic c) a w)
    (hy : ∀ o, ops[i]? = some o → Region.wanted o (yielded ops a.tmps) = true ∧ ∀ w, S w → (execOp a.eval o).run P w = .ok (.value v) w) (hS : S w)
    (h : wpAnyH P md ops Q S fuel (listed.setIfInBounds i true) (a.put d v) w) : wpAnyH P md ops Q S (fuel + 1) listed a w := by
  obtain ⟨o, ho, hod⟩ := Option.map_eq_some_iff.1 hd
  refine wpAnyH_take ho hs hf hr (fun c a w => hQ c a _ v w) (Or.inl (hy o ho)) hS ?_
  rw [hod]
  exact h
theorem wpAnyH_skipD {i : Nat} {d : Option Tmp} {fuel : Nat} {listed : Array Bool} {a : Act} {w : World} (hd : (ops[i]?).map (fun o => o.dst) = some d)
    (hs : Region.noSelect ops = true) (hf : Region.free md ops listed i = true) (hr : (Region.ready md ops listed).contains i = true)
    (hQ : ∀ c a d v w, Q (.panic c) (a.put d v) w → Q (.panic c) a w)
    (hy : ∀ o, ops[i]? = some o → Region.wanted o (yielded ops a.tmps) = false) (hS : S w)
    (h : wpAnyH P md ops Q S fuel (listed.setIfInBounds i true) (a.put d undef) w) : wpAnyH P md ops Q S (fuel + 1) listed a w := by
  obtain ⟨o, ho, hod⟩ := Option.map_eq_some_iff.1 hd
  refine wpAnyH_take ho hs hf hr (fun c a w => hQ c a _ undef w) (Or.inr ⟨hy o ho, rfl⟩) hS ?_
  rw [hod]
  exact h
/-- number i alone may come up, and comes up -/
theorem wpAnyH_oneD {i : Nat} {fuel : Nat} {listed : Array Bool} {a : Act} {w : World} (hr : Region.ready md ops listed = [i])
    (h : ∀ o, ops[i]? = some o → Region.wanted o (yielded ops a.tmps) = true ∧ ∀ K : Act → World → Prop, Shut (∀ a w, S w → wpAnyH P md ops Q S fuel (listed.setIfInBounds i true) a w → K a w) → Oper.wp P o a w K Q) : wpAnyH P md ops Q S (fuel + 1) listed a w := by
  have hm : i ∈ Region.ready md ops listed := by rw [hr]; simp
  obtain ⟨_, o, ho, _⟩ := mem_ready.1 hm
  exact wpAnyH_one hr ho (h o ho).1 (h o ho).2
theorem NoPanic.hQ {Q : Exit → Act → World → Prop} : ∀ c (a : Act) d v w, NoPanic Q (.panic c) (a.put d v) w → NoPanic Q (.panic c) a w := fun _ _ _ _ _ h => h
end
end Go.Proofs.Ytbmndojfemekdaa
