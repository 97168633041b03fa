/- The program's context is well: its plans fit its code. -/
import Derived.Test.YtaghpkljmnpjoaaGreatDoorT1
set_option linter.unusedVariables false
set_option linter.unusedSimpArgs false
noncomputable section
open Go.Proofs
namespace Go.Ai
set_option maxRecDepth 100000
noncomputable def okF (g : Nat) : Bool :=
  match funcsT.get g with
  | some fn => match fn.body with
    | some c => okC (plan g) fn.ntmps c
    | none => true
  | none => true
noncomputable def okTo : Nat → Bool
  | 0 => true
  | n + 1 => okF n && okTo n
theorem okTo_ok : ∀ {n g : Nat}, okTo n = true → g < n → okF g = true
  | n + 1, g, h, hg => by
    simp only [okTo, Bool.and_eq_true] at h
    rcases Nat.lt_succ_iff_lt_or_eq.1 hg with hg | rfl
    · exact okTo_ok h.2 hg
    · exact h.1
theorem ok478 : okTo 478 = true := by kernel_rfl
theorem size478 : Tryz.prog.funcs.size = 478 := by kernel_rfl
theorem mixed : Tryz.prog.follows .mixedOrders = true := by kernel_rfl
noncomputable def ctxOf (con : Nat → X → List AV → AH → Option (List (AV × AH))) : Ctx := { fn := funcsT.get, pl := plan, con := con }
theorem ctxOf_ok {ξ : Env} {con : Nat → X → List AV → AH → Option (List (AV × AH))} (h : ∀ (g : Nat) (x : X) (ys : List AV) (H : AH) (l : List (AV × AH)), con g x ys H = some l → x.holds ξ → AC ξ Tryz.prog g ys H (fun z H' => (z, H') ∈ l)) :
    CtxOk ξ Tryz.prog (ctxOf con) where
  mixed := mixed
  fn g fn hf := by
    have hf : funcsT.get g = some fn := hf
    have h1 := hf
    rw [funcs_get] at h1
    refine ⟨h1, fun c hc => ?_⟩
    have hlt : g < 478 := by
      rw [← size478]
      exact (Array.getElem?_eq_some_iff.1 h1).1
    have := okTo_ok ok478 hlt
    unfold okF at this
    rw [hf] at this
    simp only [hc] at this
    exact this
  con := h
end Go.Ai
end
