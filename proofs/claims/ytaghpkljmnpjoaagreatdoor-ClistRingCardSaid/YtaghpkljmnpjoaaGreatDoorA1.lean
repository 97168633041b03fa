/- The document's example of layer 23 is true, at every heap that holds the table of powers. -/
import Derived.Test.YtaghpkljmnpjoaaGreatDoorC1
import Derived.Test.YtaghpkljmnpjoaaGreatDoorS1
set_option linter.unusedVariables false
set_option linter.unusedSimpArgs false
noncomputable section
open Go.Proofs
namespace Go.Ai
def powsFrom : Nat → Nat → List AV
  | 0, _ => []
  | n + 1, p => .int .u64 p :: powsFrom n (10 * p)
def gl0 : List (Nat × List AV) := [(1, powsFrom 20 1)]
def H0 : AH := ⟨.nil, 0, gl0⟩
def beqG : List (Nat × List AV) → List (Nat × List AV) → Bool
  | [], [] => true
  | a :: r, b :: s => Nat.beq a.1 b.1 && (AV.beqL a.2 b.2 && beqG r s)
  | _, _ => false
theorem beqG_eq : ∀ {a b : List (Nat × List AV)}, beqG a b = true → a = b
  | [], [], _ => rfl
  | (i, x) :: r, (j, y) :: s, h => by
    simp only [beqG, Bool.and_eq_true] at h
    rw [Nat.eq_of_beq_eq_true h.1, AV.beqL_eq h.2.1, beqG_eq h.2.2]
  | [], _ :: _, h => by cases h
  | _ :: _, [], h => by cases h
noncomputable def ctx0 : Ctx := ctxOf fun _ _ _ _ => none
theorem ctx0_ok {ξ : Env} : CtxOk ξ Tryz.prog ctx0 := ctxOf_ok fun _ _ _ _ _ h => by cases h
set_option maxRecDepth 100000
theorem awake_runs : callF ctx0 (runF ctx0 tab 100000000) false 21 [] ⟨[], []⟩ H0 (fun _ z _ => AV.beq z (.bool true)) = true := by kernel_rfl
theorem awake_AC {ξ : Env} {H : AH} (hg : beqG H.glob gl0 = true) : AC ξ Tryz.prog 21 [] H (fun z H' => (z, H') ∈ [(AV.bool true, H)]) := by
  have h0 : AC ξ Tryz.prog 21 [] ⟨.nil, 0, gl0⟩ (fun z _ => z = .bool true) :=
    (AC.runF tab_eq ctx0_ok 100000000 awake_runs ⟨fun p hp => by simp at hp, fun p hp => by simp at hp⟩).mono fun z H' ⟨x, _, h⟩ => AV.beq_eq h
  refine (AC.still h0 (fun z hz Φ μ n v Φ' μ' n' hv => ?_) (beqG_eq hg) (fun _ _ v hv => ?_)).mono fun z H' h => by rw [h.1, h.2]; simp
  · subst hz; cases hv; exact .bool _ _
  · have : v = [] := by have := hv.1; simpa using this
    subst this; exact Vs.nil
/-- The contract of 'awake'. -/
def conA (g : Nat) (_ : X) (ys : List AV) (H : AH) : Option (List (AV × AH)) :=
  bif Nat.beq g 21 && (ys.isEmpty && beqG H.glob gl0) then some [(.bool true, H)] else none
theorem conA_ok {ξ : Env} (g : Nat) (x : X) (ys : List AV) (H : AH) (l : List (AV × AH)) (h : conA g x ys H = some l) (_ : x.holds ξ) : AC ξ Tryz.prog g ys H (fun z H' => (z, H') ∈ l) := by
  unfold conA at h
  cases hc : (Nat.beq g 21 && (ys.isEmpty && beqG H.glob gl0))
  · rw [hc] at h; cases h
  · rw [hc] at h
    simp only [cond_true, Option.some.injEq] at h
    simp only [Bool.and_eq_true] at hc
    have h1 := Nat.eq_of_beq_eq_true hc.1
    have h2 : ys = [] := by simpa using hc.2.1
    subst h1; subst h2; subst h
    exact awake_AC hc.2.2
noncomputable def ctxA : Ctx := ctxOf conA
theorem ctxA_ok {ξ : Env} : CtxOk ξ Tryz.prog ctxA := ctxOf_ok conA_ok
end Go.Ai
end
