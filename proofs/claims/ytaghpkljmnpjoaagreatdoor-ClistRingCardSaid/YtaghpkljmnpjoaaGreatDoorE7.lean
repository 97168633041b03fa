/- THE ABSTRACT INTERPRETER, PART 7: append, copy, make, maps that are written; the operation that writes, whole. -/
import Derived.Test.YtaghpkljmnpjoaaGreatDoorE6
set_option linter.unusedVariables false
set_option linter.unusedSimpArgs false
noncomputable section
namespace Go.Ai
variable {ξ : Env}

section
variable {P : Program} {Φ : Nat → Option Obj} {μ : Nat → Pl}

/-- Of a slice type's element: its type, whether it is a struct or an array, its cells, its bytes. -/
def elemInfo (P : Tab) (t : TypeId) : Option (TypeId × Bool × Nat × Nat) :=
  match elemShp P t with
  | some (e, ag, m) => match zeroInfo P e, P.info? e with
    | some m', some i => if m' = m ∧ i.bytes ≠ 0 then some (e, ag, m, i.bytes) else none
    | _, _ => none
  | none => none
theorem elemInfo_spec {t e : TypeId} {ag : Bool} {m by' : Nat} (h : elemInfo P t = some (e, ag, m, by')) :
    P.underlying t = some (.slice e) ∧ shp P e = some (ag, m) ∧ m ≠ 0 ∧ by' ≠ 0 ∧ (∃ z : Value, (∀ w, (zeroValue e).run P w = .ok z w) ∧ z.cells.size = m) ∧ ∃ i, P.info? e = some i ∧ i.bytes = by' := by
  unfold elemInfo at h
  split at h
  · rename_i e' ag' m' he
    obtain ⟨hu, hs⟩ := elemShp_spec he
    split at h
    · rename_i m'' i hz hi
      split at h
      · rename_i hc
        obtain ⟨rfl, hb⟩ := hc
        cases h
        obtain ⟨z, h1, h2, h3, _⟩ := zeroInfo_spec hz
        exact ⟨hu, hs, h3, hb, ⟨z, h1, h2⟩, i, hi, rfl⟩
      · cases h
    · cases h
  · cases h

/-- The cells that stand in the slice that is appended to; the heap without its object. -/
def ownedA (H : AH) (m : Nat) (s : AV) (n : Nat) : Option (Nat × List AV × AH) :=
  match s with
  | .fslice esz els cap => match cap with
    | some c => if c < els.length + n ∧ (els = [] ∨ esz = m ∧ els.all AV.flat) then some (els.length, els.flatMap AV.cells, H) else none
    | none => none
  | .slice id off len esz _ _ => match H.get id with
    | some (.cells false cs) => if esz = m ∧ off + len * m ≤ cs.length then some (len, (cs.drop off).take (len * m), H.kill id) else none
    | _ => none
  | _ => none
def lenS : AV → Option Nat
  | .fslice _ els _ => some els.length
  | .slice _ _ len _ _ _ => some len
  | _ => none

def appendA (P : Tab) (H : AH) (t t2 : TypeId) (s x : AV) : Option (AV × AH) :=
  match elemInfo P t with
  | some (_, ag, m, bs) => match srcA P H t2 m x with
    | some (0, _) => match lenS s with
      | some _ => some (s, H)
      | none => none
    | some (n, new) => if new.all AV.one then
        match ownedA H m s n with
        | some (len, old, H') => if old.all AV.one ∧ (len + n) * bs ≤ 140737488355328 then
            some (.slice H'.next 0 (len + n) m ag none, H'.push (.cells false (old ++ new)))
          else none
        | none => none
      else none
    | none => none
  | none => none

theorem oldCells {H : AH} {w : World} {m len n : Nat} {s : AV} {old : List AV} {H' : AH} {v : Value} (hR : R ξ Φ μ H w) (h : ownedA H m s n = some (len, old, H')) (hv : V ξ Φ μ H.next v s) (hone : old.all AV.one = true) :
    ∃ a c vs, v = .slice a len c ∧ len ≤ c ∧ vs.length = len * m ∧ Vs ξ Φ μ H.next vs old ∧ (∀ u ∈ vs, u.oneCell' = true) ∧ H'.next = H.next ∧
      (∀ w', w'.heap = w.heap → (Builtin.firstCells m len v).run P w' = .ok vs.toArray w') ∧
      ((c < len + n ∧ (H' = H ∨ ∃ id, H' = H.kill id)) ∨
        ∃ id off str cs, H' = H.kill id ∧ H.get id = some (.cells false cs) ∧ str = false ∧ a = some ⟨(μ id).block, (μ id).base + off, none⟩ ∧ old = (cs.drop off).take (len * m) ∧ off + len * m ≤ cs.length ∧
          (μ id).base + off + c * m ≤ (μ id).size) := by
  have cellEq : ∀ (w' : World), w'.heap = w.heap → ∀ a, w'.cell? a = w.cell? a := fun w' hw a => by simp [World.cell?, hw]
  unfold ownedA at h
  split at h
  · rename_i esz els cap
    split at h
    · rename_i c0
      split at h
      · rename_i hc'
        obtain ⟨hlt, hf⟩ := hc'
        cases h
        cases hv with
        | fnil _ _ a c _ hcap =>
          have := hcap c0 rfl
          subst this
          refine ⟨a, c, [], rfl, Nat.zero_le _, by simp, Vs.nil, by simp, rfl, fun w' hw => ?_, .inl ⟨hlt, .inl rfl⟩⟩
          cases a <;> simp [Builtin.firstCells, loadCells, loadCellsFrom]
        | fslice _ b o c _ _ cs' t' fz ws els hcap hlc hb hl hsz hc hv' =>
          have := hcap c0 rfl
          subst this
          have hfl : els.all AV.flat = true := by
            rcases hf with rfl | ⟨_, hf⟩
            · rfl
            · exact hf
          have hVs := Vs.flat (m := esz) (n := H.next) hl (fun j w a h1 h2 => (hv' j w a h1 h2).up) hfl
          have hlen : (ws.flatMap fun w => w.cells.toList).length = els.length * m := by
            rw [flat_len ws hsz, hl]
            rcases hf with rfl | ⟨rfl, _⟩
            · simp
            · rfl
          refine ⟨_, c, _, rfl, hlc, hlen, hVs, flat_ones hVs hone, rfl, fun w' hw => ?_, .inl ⟨hlt, .inl rfl⟩⟩
          have := run_loadCells_list (P := P) w' ⟨b, o, none⟩ (ws.flatMap fun w => w.cells.toList) (fun i u hi => by
            rw [add_off, cellEq w' hw, cell_of_row' w _ _ _ _ _ (hR.frz _ _ hb)]
            exact hc i u hi)
          rw [hlen] at this
          simpa [Builtin.firstCells] using this
      · cases h
    · cases h
  · rename_i id off len' esz ag cap
    split at h
    · rename_i cs hg
      split at h
      · rename_i hc'
        obtain ⟨rfl, hle⟩ := hc'
        cases h
        cases hv with
        | slice _ _ _ _ _ _ c _ hid hcap hlc hsz =>
          obtain ⟨c', t', vs, h1, h2, h3, h4, h5⟩ := hR.obj _ _ hg
          have hVs := (h5.drop off).take (len * esz)
          have hvl := h5.1
          have hlen0 : ((vs.drop off).take (len * esz)).length = len * esz := by simp; omega
          refine ⟨_, c, _, rfl, hlc, hlen0, hVs, flat_ones hVs hone, rfl, fun w' hw => ?_, .inr ⟨id, off, false, cs, rfl, hg, rfl, rfl, rfl, hle, hsz⟩⟩
          have := run_loadCells_list (P := P) w' ⟨(μ id).block, (μ id).base + off, none⟩ ((vs.drop off).take (len * esz)) (fun i u hi => by
            rw [add_off, cellEq w' hw, cell_of_row' w _ _ _ _ _ h1]
            rw [List.getElem?_take] at hi
            split at hi
            · have := h4 (off + i) u (by simpa using hi)
              rw [← this]; congr 1; omega
            · cases hi)
          rw [hlen0] at this
          simpa [Builtin.firstCells] using this
      · cases h
    · cases h
  · cases h

theorem lenS_slice {n len : Nat} {s : AV} {v : Value} (h : lenS s = some len) (hv : V ξ Φ μ n v s) : ∃ a c, v = .slice a len c ∧ len ≤ c := by
  cases hv <;> simp only [lenS] at h <;> (try (cases h; done))
  · cases h; exact ⟨_, _, rfl, by assumption⟩
  · cases h; exact ⟨_, _, rfl, Nat.zero_le _⟩
  · cases h; exact ⟨_, _, rfl, by assumption⟩

theorem append_fits {t t2 ty e : TypeId} {base : Option Addr} {sLen sCap m n : Nat} {x : Value} {w w' : World} {news : List Value} (hu : P.underlying t = some (.slice e)) (hs : ∀ w, (sizeOf e).run P w = .ok m w)
    (hd : (∃ e, P.underlying t2 = some (.slice e)) ∨ P.underlying t2 = some .string) (hn : (Builtin.lenOf x).run P w = .ok n w) (hf : (Builtin.firstCells m n x).run P w = .ok news.toArray w) (hroom : sLen + n ≤ sCap)
    (hst : ∀ a, base = some a → (storeCells (a.add (sLen * m)) news).run P w = .ok () w') (hst0 : base = none → w' = w) :
    (Builtin.append_ #[t, t2] ty #[.slice base sLen sCap, x]).run P w = .ok (.slice base (sLen + n) sCap) w' := by
  cases base with
  | none =>
    have := hst0 rfl
    subst this
    rcases hd with ⟨e2, h2⟩ | h2
    · simp [Builtin.append_, run_underlying hu, run_underlying h2, hs, hn, hf, hroom]
    · simp [Builtin.append_, run_underlying hu, run_underlying h2, hs, hn, hf, hroom]
  | some a =>
    have hst := hst a rfl
    rcases hd with ⟨e2, h2⟩ | h2
    · simp [Builtin.append_, run_underlying hu, run_underlying h2, hs, hn, hf, hroom, hst]
    · simp [Builtin.append_, run_underlying hu, run_underlying h2, hs, hn, hf, hroom, hst]

theorem append_grows {t t2 ty e : TypeId} {base : Option Addr} {sLen sCap m n : Nat} {x z : Value} {i : TypeInfo} {w : World} {news olds : List Value} (hu : P.underlying t = some (.slice e))
    (hs : ∀ w, (sizeOf e).run P w = .ok m w) (hi : P.info? e = some i) (hb : i.bytes ≠ 0) (hz : ∀ w, (zeroValue e).run P w = .ok z w)
    (hd : (∃ e, P.underlying t2 = some (.slice e)) ∨ P.underlying t2 = some .string) (hn : (Builtin.lenOf x).run P w = .ok n w) (hf : (Builtin.firstCells m n x).run P w.drew = .ok news.toArray w.drew)
    (ho : (Builtin.firstCells m sLen (.slice base sLen sCap)).run P w.drew = .ok olds.toArray w.drew)
    (hg : sCap < sLen + n) (hbig : (sLen + n) * i.bytes ≤ 140737488355328) :
    ∃ c, sLen + n ≤ c ∧ (Builtin.append_ #[t, t2] ty #[.slice base sLen sCap, x]).run P w =
      .ok (.slice (some ⟨w.heap.size, 0, none⟩) (sLen + n) c) (w.drew.alloc (.cells (olds ++ news ++ (Builtin.zeroCells z.cells (c - (sLen + n))).toList).toArray e)) := by
  have hnr : ¬ (sLen + n ≤ sCap) := by omega
  have h48 := growslice_fits hg hbig
  have h48' : ¬ (281474976710656 < Builtin.nextslicecap (sLen + n) sCap * i.bytes) := by omega
  refine ⟨grownCap w (sLen + n) sCap e, by simp [grownCap, Question.cut], ?_⟩
  have hti : ∀ w, (typeInfo e).run P w = .ok i w := fun w => by simp [typeInfo, hi]
  have heq : ∀ A : Array Value, (olds ++ news ++ A.toList).toArray = olds.toArray ++ (news.toArray ++ A) := fun A => by apply Array.ext'; simp
  rw [heq]
  rcases hd with ⟨e2, h2⟩ | h2
  · simp [Builtin.append_, run_underlying hu, run_underlying h2, hs, hn, hnr, hti, hb, h48', Question.forced, hf, ho, hz, newRow, grownCap]
  · simp [Builtin.append_, run_underlying hu, run_underlying h2, hs, hn, hnr, hti, hb, h48', Question.forced, hf, ho, hz, newRow, grownCap]

theorem size_zeroCells' (z : Array Value) (n : Nat) : (Builtin.zeroCells z n).size = n * z.size := by simp [Builtin.zeroCells]

theorem appendA_sound {H H' : AH} {w : World} {t t2 ty : TypeId} {s x z : AV} {vs vx : Value} (hR : R ξ Φ μ H w) (h : appendA P H t t2 s x = some (z, H')) (hs : V ξ Φ μ H.next vs s) (hx : V ξ Φ μ H.next vx x) :
    ∃ r w', (Builtin.append_ #[t, t2] ty #[vs, vx]).run P w = .ok r w' ∧ Done ξ Φ μ H w r z H' w' := by
  unfold appendA at h
  split at h
  · rename_i e ag m bs hei
    obtain ⟨hu, hsh, hm0, hb0, ⟨zv, hz1, hz2⟩, i, hi, hib⟩ := elemInfo_spec hei
    have hsz := shp_size hsh
    split at h
    · rename_i cs0 hsrc
      split at h
      · rename_i len hl
        cases h
        obtain ⟨a, c, rfl, hlc⟩ := lenS_slice hl hs
        have hcs0 : cs0.all AV.one = true := by
          unfold srcA at hsrc
          split at hsrc
          · split at hsrc
            · cases hsrc; rfl
            · rename_i hne
              split at hsrc
              · rename_i hc
                have hl0 : _ = 0 := congrArg Prod.fst (Option.some.inj hsrc)
                simp only at hl0
                exact absurd (List.eq_nil_of_length_eq_zero hl0) hne
              · cases hsrc
          · split at hsrc
            · split at hsrc
              · split at hsrc
                · cases hsrc; simp
                · cases hsrc
              · cases hsrc
            · cases hsrc
          · split at hsrc
            · have hl0 : _ = 0 := congrArg Prod.fst (Option.some.inj hsrc)
              have hcs := congrArg Prod.snd (Option.some.inj hsrc)
              simp only at hl0 hcs
              rw [← hcs]
              simp [AV.one]
            · cases hsrc
          · cases hsrc
        obtain ⟨us, h1, h2, h3, h4, h5, h6⟩ := srcA_sound (P := P) hR hsrc hcs0 hx
        have hf := h6 0 (Nat.le_refl _) w rfl
        simp only [Nat.zero_mul, List.take_zero] at hf
        refine ⟨.slice a (len + 0) c, w, append_fits hu hsz h5 h1 hf (by simpa using hlc) (fun _ _ => rfl) (fun _ => rfl), ⟨Φ, μ, by simpa using hs, hR, T.refl _ _ _ _⟩⟩
      · cases h
    · rename_i n new hn0 hsrc
      split at h
      · rename_i hnew
        split at h
        · rename_i len old H1 hown
          split at h
          · rename_i hc
            obtain ⟨hold, hbig⟩ := hc
            cases h
            obtain ⟨us, h1, h2, h3, h4, h5, h6⟩ := srcA_sound (P := P) hR hsrc hnew hx
            obtain ⟨a, c, os, rfl, hlc, hol, hO, hO1, hnext, hof, hcase⟩ := oldCells (P := P) hR hown hs hold
            have hfull : us.take (n * m) = us := List.take_of_length_le (by omega)
            have hf : ∀ w', w'.heap = w.heap → (Builtin.firstCells m n vx).run P w' = .ok us.toArray w' := fun w' hw => by
              have := h6 n (Nat.le_refl _) w' hw
              rwa [hfull] at this
            by_cases hroom : len + n ≤ c
            · rcases hcase with ⟨hlt, _⟩ | ⟨id, off, str, cs, rfl, hg, _, rfl, rfl, hle, hszp⟩
              · omega
              · obtain ⟨c', t', vs', g1, g2, g3, g4, g5⟩ := hR.obj _ _ hg
                have hvl := g5.1
                have hnm : (len + n) * m ≤ c * m := Nat.mul_le_mul_right _ hroom
                have hadd : (len + n) * m = len * m + n * m := Nat.add_mul _ _ _
                have hrun := storeCells_run (P := P) us (μ id).block ((μ id).base + off + len * m) 0 (μ id).size c' t' false w g1 g2 (by omega) h4
                refine ⟨_, _, append_fits hu hsz h5 h1 (hf w rfl) hroom (fun a ha => by cases ha; rw [add_off]; exact hrun) (fun h => by cases h), ⟨Φ, upd μ H.next ⟨(μ id).block, (μ id).base + off, (μ id).size⟩, ?_, ?_, ?_⟩⟩
                · have := V.slice (ξ := ξ) (Φ := Φ) (μ := upd μ H.next ⟨(μ id).block, (μ id).base + off, (μ id).size⟩) ((H.kill id).push (.cells false ((cs.drop off).take (len * m) ++ new))).next H.next 0 (len + n) m ag c none
                    (Nat.lt_succ_self _) (fun k hk => by cases hk) hroom (by rw [upd_same]; simpa using hszp)
                  rw [upd_same] at this
                  exact this
                · refine R.moved hR id _ _ _ hg rfl (fun b hb => setRow_other w _ b _ hb) ?_
                  refine ⟨_, t', (vs'.drop off).take (len * m) ++ us, setRow_heap w _ c' _ t' _ g1, by simp [setSeg_length, g2], ?_, fun j v hj => ?_, ?_⟩
                  · have := h3.1
                    simp only [List.length_append, List.length_take, List.length_drop]
                    rw [← this]
                    have : min (len * m) (cs.length - off) = len * m := by omega
                    rw [this]
                    omega
                  · simp only [List.getElem?_toArray, Nat.add_zero]
                    rw [setSeg_get _ _ _ _ (by simp [g2]; omega)]
                    have hl1 : ((vs'.drop off).take (len * m)).length = len * m := by simp; omega
                    rw [List.getElem?_append, hl1] at hj
                    split at hj
                    · rename_i hjl
                      rw [if_neg (by omega)]
                      rw [List.getElem?_take, if_pos hjl, List.getElem?_drop] at hj
                      have := g4 _ v hj
                      simp only [Array.getElem?_toList]
                      rw [← this]; congr 1; omega
                    · rename_i hjl
                      have hju := (List.getElem?_eq_some_iff.1 hj).1
                      rw [if_pos (by omega)]
                      rw [← hj]; congr 1; omega
                  · exact (((g5.drop off).take (len * m)).append h3).mono (fun _ _ h => h) (Nat.le_succ _) (fun i hi => upd_other _ _ _ _ (Nat.ne_of_lt hi))
                · exact T.moved id _ _ _ hg rfl hR (fun b hb => setRow_other w _ b _ hb) (by simp) rfl rfl rfl
            · obtain ⟨nc, hnc, hrun⟩ := append_grows (P := P) (ty := ty) hu hsz hi (by rw [hib]; exact hb0) hz1 h5 h1 (hf w.drew rfl) (hof w.drew rfl) (by omega) (by rw [hib]; exact hbig)
              refine ⟨_, _, hrun, ?_⟩
              have hR1 : R ξ Φ μ H1 w := by
                rcases hcase with ⟨_, rfl | ⟨id, rfl⟩⟩ | ⟨id, off, str, cs, rfl, _⟩
                · exact hR
                · exact hR.kill id
                · exact hR.kill id
              have hT1 : T Φ μ H w Φ μ H1 w := by
                rcases hcase with ⟨_, rfl | ⟨id, rfl⟩⟩ | ⟨id, off, str, cs, rfl, _⟩
                · exact T.refl _ _ _ _
                · exact T.kill id
                · exact T.kill id
              have hR2 : R ξ Φ μ H1 w.drew := hR1.drew rfl
              have hT2 : T Φ μ H1 w Φ μ H1 w.drew := T.drew rfl rfl rfl rfl
              have hV : Vs ξ Φ μ H1.next (os ++ us) (old ++ new) := by rw [hnext]; exact hO.append h3
              obtain ⟨k1, k2⟩ := newRow_ok hR2 e (Builtin.zeroCells zv.cells (nc - (len + n))).toList hV
              refine ⟨Φ, _, ?_, k1, (hT1.trans hT2).trans k2⟩
              refine slice_new (w := w.drew) (fun k hk => by cases hk) hnc ?_ _
              have hzl : (Builtin.zeroCells zv.cells (nc - (len + n))).toList.length = (nc - (len + n)) * m := by
                rw [Array.length_toList, size_zeroCells', hz2]
              rw [hzl, List.length_append, hol, h2, ← Nat.add_mul, ← Nat.add_mul]
              exact Nat.mul_le_mul_right _ (by omega)
          · cases h
        · cases h
      · cases h
    · cases h
  · cases h
end
end Go.Ai
end
