/- Contracts of calls that own nothing: the heap is as before. -/
import Derived.Test.YtaghpkljmnpjoaaGreatDoorEN
set_option linter.unusedVariables false
set_option linter.unusedSimpArgs false
noncomputable section
namespace Go.Ai
variable {ξ : Env}
/-- A call that needs no object of its own and gives back one value: at every heap with the same variables. -/
theorem AC.still {P : Program} {g : Nat} {as : List AV} {gl : List (Nat × List AV)} {Q : AV → Prop} (h : AC ξ P g as ⟨.nil, 0, gl⟩ (fun z _ => Q z)) (hq : ∀ z, Q z → ∀ Φ μ n v Φ' μ' n', V ξ Φ μ n v z → V ξ Φ' μ' n' v z)
    {H : AH} (hg : H.glob = gl) (ha : ∀ Φ μ v, Vs ξ Φ μ H.next v as → Vs ξ Φ μ 0 v as) : AC ξ P g as H (fun z H' => Q z ∧ H' = H) := by
  intro Φ μ w cargs hR hV
  have hget : ∀ i, (⟨.nil, 0, gl⟩ : AH).get i = none := fun i => rfl
  have hR0 : R ξ Φ μ ⟨.nil, 0, gl⟩ w := by
    refine ⟨fun i o h => ?_, fun i o h => ?_, fun i j a b h => ?_, hR.frz, fun i a b ob h => ?_, fun g cs h => hR.glob g cs ?_⟩
    · rw [hget] at h; cases h
    · rw [hget] at h; cases h
    · rw [hget] at h; cases h
    · rw [hget] at h; cases h
    · subst hg; exact h
  refine (h Φ μ w cargs hR0 (ha _ _ _ hV)).mono fun e w' ⟨v, z, H', Φ', μ', h1, h2, h3, h4, h5⟩ => ?_
  have hsame : ∀ b, b < w.heap.size → w'.heap[b]? = w.heap[b]? := fun b hb => h4.same b hb (fun i o hi => by rw [hget] at hi; cases hi)
  have hlt : ∀ b ob, Φ b = some ob → b < w.heap.size := fun b ob hb => by
    have := hR.frz b ob hb
    exact (Array.getElem?_eq_some_iff.1 this).1
  refine ⟨v, z, H, Φ, μ, h1, hq z h5 _ _ _ _ _ _ _ h2, ⟨fun i o hi => ?_, hR.lt, hR.inj, fun b ob hb => ?_, hR.dis, hR.glob⟩, ⟨fun _ _ h => h, fun _ _ => rfl, Nat.le_refl _, h4.size, h4.os, h4.tape, h4.output, fun b hb _ => hsame b hb, fun i o hi => .inl ⟨i, o, hi, rfl⟩, fun _ _ h => .inl h⟩, h5, rfl⟩
  · exact (hR.obj i o hi).mono (fun _ _ h => h) (Nat.le_refl _) (fun _ _ => rfl) (hsame _ (hR.block_lt hi))
  · rw [hsame b (hlt b ob hb)]; exact hR.frz b ob hb
/-- What a run that needs no object leaves of a world that it finds. -/
theorem AC.calls {P : Program} {g : Nat} {as : List AV} {gl : List (Nat × List AV)} {Q : AV → AH → Prop} (h : AC ξ P g as ⟨.nil, 0, gl⟩ Q) {Φ : Nat → Option Obj} {μ : Nat → Pl} {w : World} {cargs : List Value}
    (hf : ∀ b ob, Φ b = some ob → w.heap[b]? = some ob) (hgl : ∀ g cs, (⟨.nil, 0, gl⟩ : AH).gl g = some cs → ∃ c t fz vs, Φ g = some (.cells c t fz) ∧ (∀ (j : Nat) v, vs[j]? = some v → c[j]? = some v) ∧ Vs ξ Φ μ 0 vs cs) (hV : Vs ξ Φ μ 0 cargs as) :
    Calls P g cargs.toArray w (fun e w' => ∃ v z H' Φ' μ', e = .returned v ∧ V ξ Φ' μ' H'.next v z ∧ Q z H' ∧ w'.os = w.os ∧ w'.tape = w.tape ∧ w'.output = w.output ∧ w.heap.size ≤ w'.heap.size ∧ ∀ b, b < w.heap.size → w'.heap[b]? = w.heap[b]?) := by
  have hget : ∀ i, (⟨.nil, 0, gl⟩ : AH).get i = none := fun i => rfl
  have hR0 : R ξ Φ μ ⟨.nil, 0, gl⟩ w := by
    refine ⟨fun i o h => ?_, fun i o h => ?_, fun i j a b h => ?_, hf, fun i a b ob h => ?_, hgl⟩ <;> (rw [hget] at h; cases h)
  exact (h Φ μ w cargs hR0 hV).mono fun e w' ⟨v, z, H', Φ', μ', h1, h2, h3, h4, h5⟩ =>
    ⟨v, z, H', Φ', μ', h1, h2, h5, h4.os, h4.tape, h4.output, h4.size, fun b hb => h4.same b hb (fun i o hi => by rw [hget] at hi; cases hi)⟩
end Go.Ai
end
