/- FROM A COMPUTED CALL TO THE ROW: what the listed variables hold; what a call that owns nothing leaves. -/
import Derived.Test.YtaghpkljmnpjoaaGreatDoorA1
import Derived.Test.YtaghpkljmnpjoaaGreatDoorTie
import Derived.ProofKit
import Derived.LaidMore
import Derived.OpenShut
import Derived.Stop.Joined
import Derived.Below
import Derived.ChangeSame
import Derived.SliceStrings
import Derived.Carry
open Go.Proofs Go.Proofs.YtaghpkljmnpjoaaGreatDoor Go.ChangeShapes Go.WideShapes Go.ChangeAt Go.RowKit
namespace Go.Ai

abbrev laid5 : List (String × DataW Unit) := [("math/bits.deBruijn32tab", Rows.laid_math_bits_deBruijn32tab), ("math/bits.deBruijn64tab", Rows.laid_math_bits_deBruijn64tab), ("internal/strconv.uint64pow10", Rows.laid_internal_strconv_uint64pow10), ("strconv.ErrRange", Rows.laid_strconv_ErrRange), ("strconv.ErrSyntax", Rows.laid_strconv_ErrSyntax)]
theorem own : ownKnob Tryz.prog.godebug = none := by kernel_rfl
theorem gPow : Tryz.prog.globalNamed "internal/strconv.uint64pow10" = some 1 := by kernel_rfl
theorem tPow : (Tryz.prog.globals[1]?).map (·.type) = some 436 := by kernel_rfl

/-- The door's own heap meets the condition. -/
theorem door_met (os : Os) (args : Array Value) : laidMetH Tryz.prog laid5 ((World.doorLaid Tryz.prog 400 os).forCall (fun _ _ => 0) ⟨#[], args, []⟩).memory :=
  laidMetH_of_parts3 (fuel := 8) (laidMet_of_run' 8 (by kernel_rfl) (by kernel_rfl)) (by kernel_rfl) (by kernel_rfl)

def powsI : List Int := [1, 10, 100, 1000, 10000, 100000, 1000000, 10000000, 100000000, 1000000000, 10000000000, 100000000000, 1000000000000, 10000000000000, 100000000000000, 1000000000000000, 10000000000000000, 100000000000000000, 1000000000000000000, 10000000000000000000]
theorem pows_lits : (Rows.laid_internal_strconv_uint64pow10 : DataW Unit) = .agg (powsI.map fun k => .lit (.int .u64 k)) := rfl
theorem pows_from : powsFrom 20 1 = powsI.map fun k => .int .u64 k := AV.beqL_eq (by kernel_rfl)
theorem pow_of_laid {W : World} (h : laidMetH Tryz.prog laid5 W) : ∃ cs t fz, W.heap[1]? = some (.cells cs t fz) ∧ ∀ (j : Nat) v, (powsI.map fun k => Value.int .u64 k)[j]? = some v → cs[j]? = some v := by
  rw [MakeChecks.laidMetH_plain _ _ _ (by kernel_rfl)] at h
  obtain ⟨ps, ⟨_, _, _, _, _, _, _, _, _, _, ⟨_, _, _, _, _, _, _, _, _, _, ⟨g2, t2, cs2, f2, p2, q2, hg2, ht2, hv2, hd2, _, _⟩, _⟩, _⟩, _, _⟩ := h
  obtain rfl := Option.some.inj (gPow.symm.trans hg2)
  obtain rfl := Option.some.inj (tPow.symm.trans ht2)
  have hheap : ∃ t fz, W.heap[1]? = some (.cells cs2 t fz) := by
    simp only [World.var?, hg2, Option.bind_some] at hv2
    split at hv2
    · rename_i c t fz hh
      cases hv2
      exact ⟨t, fz, hh⟩
    · cases hv2
  obtain ⟨t, fz, hh⟩ := hheap
  refine ⟨cs2, t, fz, hh, fun j v hj => ?_⟩
  obtain ⟨xs, m1, rfl, hx1, hlen, hn, hel⟩ := DataW.trod_array Tryz.underlying436 hd2
  have hc : Tryz.prog.cellsOf 151 = 1 := by kernel_rfl
  rw [pows_lits] at hx1
  simp only [Prod.mk.injEq, DataW.agg.injEq] at hx1
  have hjl : j < 20 := by
    have := (List.getElem?_eq_some_iff.1 hj).1
    simpa [powsI] using this
  have h0 := hel j hjl
  have hxj : xs[j]? = some xs[j] := List.getElem?_eq_getElem (by omega)
  rw [hxj, hc] at h0
  obtain ⟨k, e1, e2, _⟩ := DataW.trod_int Tryz.underlying151 h0
  have hd : (xs.map (·.1))[j]? = some (.lit (.int .u64 k)) := by
    rw [List.getElem?_map, hxj, Option.map_some, e2]
  rw [← hx1.1, List.getElem?_map] at hd
  rw [List.getElem?_map] at hj
  cases hp : powsI[j]? with
  | none => rw [hp] at hj; cases hj
  | some q =>
    rw [hp] at hd hj
    simp only [Option.map_some, Option.some.injEq, DataW.lit.injEq, Lit.int.injEq, true_and] at hd
    simp only [Option.map_some, Option.some.injEq] at hj
    subst hj; subst hd
    have h1 := congrArg (fun l : List Value => l[0]?) e1
    simp only [Nat.mul_one, List.getElem?_take, List.getElem?_drop] at h1
    simpa using h1

theorem vs_ints {ξ : Env} {Φ : Nat → Option Obj} {μ : Nat → Pl} {n : Nat} (k : IntKind) (l : List Int) : Vs ξ Φ μ n (l.map fun q => .int k q) (l.map fun q => .int k q) := by
  refine ⟨by simp, fun j v a h1 h2 => ?_⟩
  rw [List.getElem?_map] at h1 h2
  cases hq : l[j]? with
  | none => rw [hq] at h1; cases h1
  | some q =>
    rw [hq] at h1 h2
    cases h1; cases h2
    exact .int _ _ _
/-- What is known of a world at the beginning: all of it. -/
def Φof (W : World) : Nat → Option Obj := fun b => W.heap[b]?
theorem glob_of_laid {ξ : Env} {μ : Nat → Pl} {W : World} (h : laidMetH Tryz.prog laid5 W) (g : Nat) (cs : List AV) (hg : (⟨.nil, 0, gl0⟩ : AH).gl g = some cs) :
    ∃ c t fz vs, Φof W g = some (.cells c t fz) ∧ (∀ (j : Nat) v, vs[j]? = some v → c[j]? = some v) ∧ Vs ξ (Φof W) μ 0 vs cs := by
  obtain ⟨c, t, fz, h1, h2⟩ := pow_of_laid h
  have hg1 : g = 1 ∧ cs = powsFrom 20 1 := by
    have e : glL gl0 g = some cs := hg
    simp only [gl0, glL] at e
    cases hb : Nat.beq 1 g
    · rw [hb] at e; cases e
    · rw [hb] at e; cases e; exact ⟨(Nat.eq_of_beq_eq_true hb).symm, rfl⟩
  obtain ⟨rfl, rfl⟩ := hg1
  refine ⟨c, t, fz, _, h1, h2, ?_⟩
  rw [pows_from]
  exact vs_ints _ _

section
variable {H : Type} {enc : TypeId × Value → H} {P : Program}
/-- The row's last step where of old memory nothing has turned. -/
theorem post_of_below {f : Func} {s : ChangeSpec} {apart fresh handsOn again : Bool} {W W' : World} {args : Array Value} {v : Value} {ds gs : List (DataW H)} {before pa pv : List MemPlace}
    (hW : DataW.Whole enc P f.params.toList s.vars apart W args.toList ds gs before)
    (hres : ∀ (b : Nat) (sp : Nat → Bool) (hd : Bool), DataW.TrodAll enc P W' b sp hd f.resultTypes.toList (v.resultList f.resultTypes.size) (s.fn H (ds ++ gs)).results [])
    (hargs : ∀ sp : Nat → Bool, (∀ p ∈ before, sp p.block = true) → DataW.TrodAll enc P W' 0 sp true f.params.toList args.toList (s.fn H (ds ++ gs)).args pa)
    (hvars : ∀ sp : Nat → Bool, (∀ p ∈ before, sp p.block = true) → DataW.TrodVars enc P W' sp s.vars (s.fn H (ds ++ gs)).vars pv)
    (hps : before = pa ++ pv) (hb : Below W.heap.size W W')
    (hok : ∀ (j : Nat) (t : TypeId) (r : Value), f.resultTypes[j]? = some t → (v.resultList f.resultTypes.size)[j]? = some r → Value.okWide P W' .any 0 t r) :
    s.post enc P f apart fresh handsOn again W args v W' := by
  have hlt : ∀ p ∈ before, p.block < W.heap.size := fun p hp => hW.lt p hp
  have hold : ∀ p ∈ before, (fun b => decide (b < W.heap.size)) p.block = true := fun p hp => by simpa using hlt p hp
  refine ⟨ds, gs, before, [], pa, pv, hW, hres _ _ _, hargs _ hold, hvars _ hold, World.keptBut_mono (fun p hp => ⟨hp, ?_⟩) (hb.frame (· ∈ before)), fun _ => ?_⟩
  · rw [hps, List.mem_append] at hp
    exact Or.inr hp
  · obtain ⟨_, _, _, _, _, hz, hn⟩ := hW
    refine ⟨hok, _, _, ([] ++ pa) ++ pv, ⟨[] ++ pa, pv, trodAll_append (hargs _ (fun _ _ => rfl)) (hres _ _ _), hvars _ (fun _ _ => rfl), rfl, ?_, ?_⟩, ?_⟩
    · intro b off hp
      have hin : MemPlace.cell b off ∈ before := by rw [hps]; simpa using hp
      rw [hb.frozen (hlt _ hin)]
      exact hz b off hin
    · intro ha
      have := hn ha
      rw [hps] at this
      simpa using this
    · intro p hp _
      rw [hps]
      simpa using hp
end
end Go.Ai
