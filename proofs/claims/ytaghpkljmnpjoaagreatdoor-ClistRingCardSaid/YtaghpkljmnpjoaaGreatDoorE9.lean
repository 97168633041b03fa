/- THE ABSTRACT INTERPRETER, PART 9: the operation that makes or writes memory, whole. -/
import Derived.Test.YtaghpkljmnpjoaaGreatDoorE8
set_option linter.unusedVariables false
set_option linter.unusedSimpArgs false
noncomputable section
namespace Go.Ai
variable {ξ : Env}

section
variable {P : Program} {Φ : Nat → Option Obj} {μ : Nat → Pl}

def makeMapA (P : Tab) (H : AH) (t : TypeId) (r : Option AV) : Option (AV × AH) :=
  match r with
  | none => some (.map H.next, H.push (.map [] [] 0))
  | some (.int _ _) => match mapTy P t with
    | some _ => some (.map H.next, H.push (.map [] [] 0))
    | none => none
  | _ => none
theorem newMap_ok {H : AH} {w : World} (hR : R ξ Φ μ H w) : Done ξ Φ μ H w (.map (some w.heap.size)) (.map H.next) (H.push (.map [] [] 0)) (w.alloc (.map #[] 0)) := by
  refine ⟨Φ, upd μ H.next ⟨w.heap.size, 0, 0⟩, ?_, hR.push _ _ rfl (by simp) (fun b hb => alloc_old w _ b hb) ?_, T.push hR _ _ rfl (by simp) (fun b hb => alloc_old w _ b hb) rfl rfl rfl⟩
  · have := V.map (ξ := ξ) (Φ := Φ) (μ := upd μ H.next ⟨w.heap.size, 0, 0⟩) (H.push (.map [] [] 0)).next H.next (Nat.lt_succ_self _)
    rw [upd_same] at this
    exact this
  · exact ⟨#[], alloc_new w _, ⟨rfl, fun j e p h => by simp at h⟩, by simp, by simp, rfl⟩
theorem makeMapA_sound {H H' : AH} {w : World} {t : TypeId} {r : Option AV} {vr : Option Value} {z : AV} (hR : R ξ Φ μ H w) (h : makeMapA P H t r = some (z, H'))
    (h1 : ∀ x, r = some x → ∃ v, vr = some v ∧ V ξ Φ μ H.next v x) (h2 : r = none → vr = none) : ∃ v w', (Instr.makeMap t vr).run P w = .ok v w' ∧ Done ξ Φ μ H w v z H' w' := by
  unfold makeMapA at h
  split at h
  · cases h
    rw [h2 rfl]
    exact ⟨_, _, rfl, newMap_ok hR⟩
  · rename_i k i
    split at h
    · rename_i ke hmt
      cases h
      obtain ⟨v, hv, hV⟩ := h1 _ rfl
      rw [hv]
      cases hV
      obtain ⟨ke, ee⟩ := ke
      refine ⟨_, _, ?_, newMap_ok hR⟩
      simp [Instr.makeMap, run_underlying (mapTy_spec hmt), asInt, asIntOf]
    · cases h
  · cases h

def delL (k : AV) : List (AV × AV) → Option (List (AV × AV))
  | [] => some []
  | (k', x) :: r => match keyEq k k' with
    | some true => some r
    | some false => match delL k r with
      | some l => some ((k', x) :: l)
      | none => none
    | none => none
theorem delL_now {d : TypeDesc} {kt : TypeId} {n : Nat} {k : AV} {v : Value} (hd : keyKind P kt k = some d) (hv : V ξ Φ μ n v k) :
    ∀ {es es' : List (AV × AV)} {en : List MapEntry} (i : Nat), delL k es = some es' → Vm ξ Φ μ en es →
      ∃ q, Instr.findNow d v en i = some q ∧ match q with
        | none => Vm ξ Φ μ en es'
        | some (j, _) => i ≤ j ∧ Vm ξ Φ μ (en.eraseIdx (j - i)) es'
  | [], es', en, i, h, hm => by
    have : en = [] := by have := hm.1; simpa using this
    subst this
    simp only [delL, Option.some.injEq] at h; subst h
    exact ⟨none, rfl, hm⟩
  | (k', y) :: es, es', en, i, h, hm => by
    cases en with
    | nil => have := hm.1; simp at this
    | cons e en =>
      have h0 := hm.2 0 _ (k', y) rfl rfl
      have hm' : Vm ξ Φ μ en es := ⟨by have := hm.1; simpa using this, fun j e p h1 h2 => hm.2 (j + 1) e p (by simpa using h1) (by simpa using h2)⟩
      simp only [delL] at h
      split at h
      · rename_i he
        cases h
        exact ⟨some (i, e.val), by simp [Instr.findNow, keyEq_now hd he hv h0.1], Nat.le_refl _, by simpa using hm'⟩
      · rename_i he
        split at h
        · rename_i l hl
          cases h
          obtain ⟨q, h1, h2⟩ := delL_now hd hv (i + 1) hl hm'
          refine ⟨q, by simp [Instr.findNow, keyEq_now hd he hv h0.1, h1], ?_⟩
          have keep : ∀ {en' : List MapEntry} {l' : List (AV × AV)}, Vm ξ Φ μ en' l' → Vm ξ Φ μ (e :: en') ((k', y) :: l') := fun hh => by
            refine ⟨by simp [hh.1], fun j e' p e1 e2 => ?_⟩
            cases j with
            | zero => simp at e1 e2; subst e1; subst e2; exact h0
            | succ j => exact hh.2 j e' p (by simpa using e1) (by simpa using e2)
          cases q with
          | none => exact keep h2
          | some jq =>
            obtain ⟨j, vq⟩ := jq
            obtain ⟨hle, g⟩ := h2
            refine ⟨by omega, ?_⟩
            rw [show j - i = (j - (i + 1)) + 1 by omega]
            exact keep g
        · cases h
      · cases h
def deleteA (P : Tab) (H : AH) (t : TypeId) (m k : AV) : Option AH :=
  match mapTy P t with
  | some (kt, _) => match keyKind P kt k, m with
    | some _, .nilmap => some H
    | some _, .map id => match H.get id with
      | some (.map es bs c) => match delL k es with
        | some es' => bif Nat.beq es'.length es.length then some (H.set id (.map es' bs c)) else bif Nat.beq es'.length 0 then some (H.set id (.map es' [] c)) else none
        | none => none
      | _ => none
    | _, _ => none
  | none => none
theorem findNow_lt {d : TypeDesc} {v : Value} : ∀ {en : List MapEntry} {i j : Nat} {u : Value}, Instr.findNow d v en i = some (some (j, u)) → i ≤ j → j - i < en.length
  | [], i, j, u, h, _ => by simp [Instr.findNow] at h
  | e :: en, i, j, u, h, hij => by
    simp only [Instr.findNow] at h
    split at h
    · simp at h; obtain ⟨rfl, _⟩ := h; simp
    · rcases Nat.lt_or_ge i j with h' | h'
      · have := findNow_lt h (by omega); simp; omega
      · simp; omega
    · cases h
theorem deleteA_sound {H H' : AH} {w : World} {t ty : TypeId} {m k : AV} {vm vk : Value} (hR : R ξ Φ μ H w) (h : deleteA P H t m k = some H') (hm : V ξ Φ μ H.next vm m) (hk : V ξ Φ μ H.next vk k) :
    ∃ r w', (Builtin.delete_ #[t, ty] ty #[vm, vk]).run P w = .ok r w' ∧ Done ξ Φ μ H w r .undef H' w' := by
  unfold deleteA at h
  split at h
  · rename_i kt et hmt
    have hu := mapTy_spec hmt
    split at h
    · rename_i d hd
      cases h; cases hm
      refine ⟨.tuple #[], w, ?_, ⟨Φ, μ, .undef _ _, hR, T.refl _ _ _ _⟩⟩
      simp [Builtin.delete_, run_underlying hu, checkKey_any hd hk]
    · rename_i d id hd
      split at h
      · rename_i es bs clock hg
        split at h
        · rename_i es' hdel
          cases hm with
          | map _ _ hid =>
            have hku := keyKind_under hd
            obtain ⟨en, h1, h2, h3, h4, h5⟩ := hR.obj _ _ hg
            obtain ⟨q, g1, g2⟩ := delL_now (P := P) hd hk 0 hdel h2
            cases q with
            | none =>
              have hlen : Nat.beq es'.length es.length = true := by
                have e1 := g2.1
                have e2 := h2.1
                simp at e1 e2
                rw [Nat.beq_eq]; omega
              rw [hlen] at h
              simp only [cond_true] at h
              cases h
              obtain ⟨k1, k2⟩ := mapSet_ok (en' := en) (c' := clock) (es' := es') (bs' := bs) hR hg h1 g2 h3 h4 h5
              refine ⟨.tuple #[], _, ?_, ⟨Φ, μ, .undef _ _, k1, k2⟩⟩
              simp [Builtin.delete_, run_underlying hu, run_getObj_map h1, checkKey_any hd hk, Instr.findKey, run_underlying hku, g1, setObj_run _ h1]
            | some jq =>
              obtain ⟨j, vq⟩ := jq
              obtain ⟨_, g3⟩ := g2
              simp only [Nat.sub_zero] at g3
              have her : (en.eraseIdxIfInBounds j).toList = en.toList.eraseIdx j := by
                simp [Array.eraseIdxIfInBounds]
                split
                · simp
                · rename_i hj
                  rw [List.eraseIdx_of_length_le (by simp; omega)]
              have hjlt : j < en.toList.length := (by have := findNow_lt g1 (Nat.zero_le _); simpa using this)
              have hlen : Nat.beq es'.length es.length = false := by
                have e1 := g3.1
                have e2 := h2.1
                rw [List.length_eraseIdx, if_pos hjlt] at e1
                cases hb : Nat.beq es'.length es.length
                · rfl
                · have := Nat.eq_of_beq_eq_true hb; omega
              rw [hlen] at h
              simp only [cond_false] at h
              cases hz : Nat.beq es'.length 0
              · rw [hz] at h; cases h
              rw [hz] at h
              simp only [cond_true] at h
              cases h
              have hz' := Nat.eq_of_beq_eq_true hz
              obtain ⟨k1, k2⟩ := mapSet_ok (en' := en.eraseIdxIfInBounds j) (c' := clock) (es' := es') (bs' := []) hR hg h1 (by rw [her]; exact g3)
                (by intro e he; rw [her] at he; exact h3 e (List.mem_of_mem_eraseIdx he))
                (by rw [her]; exact h4.sublist (List.eraseIdx_sublist _ _))
                (by
                  rw [her]
                  have e1 := g3.1
                  rw [hz'] at e1
                  rw [List.eq_nil_of_length_eq_zero e1]; rfl)
              refine ⟨.tuple #[], _, ?_, ⟨Φ, μ, .undef _ _, k1, k2⟩⟩
              simp [Builtin.delete_, run_underlying hu, run_getObj_map h1, checkKey_any hd hk, Instr.findKey, run_underlying hku, g1, setObj_run _ h1]
        · cases h
      · cases h
    · cases h
  · cases h

/-- []byte(s) -/
def bytesOfA (P : Tab) (H : AH) (s d : TypeId) (x : AV) : Option (AV × AH) :=
  match x, P.underlying s, P.underlying d with
  | .str b, some .string, some (.slice e) => match P.underlying e with
    | some (.int .u8) => some (.slice H.next 0 b.size 1 false none, H.push (.cells true ((bytes b).map fun c => .int .u8 c.toNat)))
    | _ => none
  | _, _, _ => none
theorem bytesOfA_sound {H H' : AH} {w : World} {s d : TypeId} {x z : AV} {v : Value} (hR : R ξ Φ μ H w) (h : bytesOfA P H s d x = some (z, H')) (hv : V ξ Φ μ H.next v x) :
    ∃ r w', (convert s d v).run P w = .ok r w' ∧ Done ξ Φ μ H w r z H' w' := by
  unfold bytesOfA at h
  split at h
  · rename_i b e hs hd
    split at h
    · rename_i he
      cases h; cases hv
      have hbl : (bytes b).length = b.size := by simp [bytes]
      have hge : b.size ≤ grownCap w b.size 0 e := by simp [grownCap, Question.cut]
      generalize hc : grownCap w b.size 0 e = c at hge
      let row : List Value := (bytes b).map fun c => .int .u8 c.toNat
      let junk : List Value := List.replicate (c - b.size) (.int .u8 0)
      have hrl : row.length = b.size := by simp [row, hbl]
      let w' : World := (w.drew.alloc (.cells (row ++ junk).toArray e)).freeze ⟨w.heap.size, c, none⟩ 1
      have hfz : w'.heap[w.heap.size]? = some (.cells (row ++ junk).toArray e (c, c + 1)) := by
        show (World.freeze _ _ _).heap[_]? = _
        simp only [World.freeze]
        rw [if_neg (by omega)]
        simp only [Array.getElem?_modify]
        have := alloc_new w.drew (.cells (row ++ junk).toArray e)
        simp only [World.size_drew] at this
        rw [this]
        simp
      have hold : ∀ k, k < w.heap.size → w'.heap[k]? = w.heap[k]? := fun k hk => by
        show (World.freeze _ _ _).heap[_]? = _
        simp only [World.freeze]
        rw [if_neg (by omega)]
        simp only [Array.getElem?_modify]
        rw [if_neg (by omega)]
        exact alloc_old w.drew _ k hk
      have hsz : w.heap.size ≤ w'.heap.size := by
        show _ ≤ (World.freeze _ _ _).heap.size
        simp only [World.freeze]
        rw [if_neg (by omega)]
        simp
      have hos : w'.os = w.os ∧ w'.tape = w.tape ∧ w'.output = w.output := ⟨rfl, rfl, rfl⟩
      have hjl : (row ++ junk).length = c := by simp [hrl, junk]; omega
      refine ⟨.slice (some ⟨w.heap.size, 0, none⟩) b.size c, w', ?_, ⟨Φ, upd μ H.next ⟨w.heap.size, 0, c⟩, slice_new (fun k hk => by cases hk) hge (by omega) _, ?_, ?_⟩⟩
      · have harr : (b.data.map fun b => Value.int .u8 b.toNat) ++ Array.replicate (c - b.size) (.int .u8 0) = (row ++ junk).toArray := by
          apply Array.ext'; simp [row, junk, bytes]
        have hsh : (w.drew.alloc (.cells (row ++ junk).toArray e)).shape? w.heap.size = some (e, c) := by
          have := alloc_new w.drew (.cells (row ++ junk).toArray e)
          simp only [World.size_drew] at this
          simp only [World.shape?, this]
          rw [← hjl]; rfl
        have hcut : (Question.appendCap b.size 0 e).cut (w.tape w.drawn (.appendCap b.size 0 e)) = c := hc
        simp only [convert, Sem.run_bind, run_underlying hs, run_underlying hd, Result.andThen_ok, run_underlying he, Conv.stringToBytes, run_choose, Question.forced, Bool.false_eq_true, if_false, hcut, harr, newRow, run_newObj, Sem.run_pure, markStringish,
          World.drew_eq, World.alloc_eq, World.size_drew, run_shape, hsh, run_freeze]
        rfl
      · refine hR.push _ _ rfl hsz hold ?_
        refine ⟨(row ++ junk).toArray, e, row, hfz, by simp [hjl], by simp [hbl]; omega, fun j v hj => ?_, ⟨by simp [row], fun j v a h1 h2 => ?_⟩⟩
        · have hlt := (List.getElem?_eq_some_iff.1 hj).1
          simp only [List.getElem?_toArray, Nat.zero_add]
          rw [List.getElem?_append_left hlt]; exact hj
        · simp only [row, List.getElem?_map] at h1 h2
          cases hq : (bytes b)[j]? with
          | none => rw [hq] at h1; cases h1
          | some x => rw [hq] at h1 h2; cases h1; cases h2; exact .int _ _ _
      · exact T.push hR _ _ rfl hsz hold hos.1 hos.2.1 hos.2.2
    · cases h
  · cases h

/-- THE OPERATIONS THAT MAKE OR WRITE MEMORY. -/
def eop (P : Tab) (H : AH) (F : AF) (o : Op) : Option (AV × AH) :=
  match o with
  | .alloc t => allocA P H t
  | .box _ x => match F.eval x with
    | some a => if a.flat then some (.ptr H.next 0, H.push (.cells false a.cells)) else none
    | none => none
  | .buildSlice t len parts => match F.parts parts.toList with
    | some xs => buildSliceA P H t len xs
    | none => none
  | .store t a x => match F.eval a, F.eval x with
    | some p, some v => match storeA P H t p v with
      | some H' => some (.undef, H')
      | none => none
    | _, _ => none
  | .makeMap t r => match F.evalO r with
    | some x => makeMapA P H t x
    | none => none
  | .makeSlice t l c => match F.eval l, F.eval c with
    | some a, some b => makeA P H t a b
    | _, _ => none
  | .mapUpdate t m k v => match F.eval m, F.eval k, F.eval v with
    | some a, some b, some c => match mapPut P H t a b c with
      | some H' => some (.undef, H')
      | none => none
    | _, _, _ => none
  | .insert t m k v => match F.eval m, F.eval k, F.eval v with
    | some a, some b, some c => match mapPut P H t a b c with
      | some H' => some (.undef, H')
      | none => none
    | _, _, _ => none
  | .convert s d x => match F.eval x with
    | some a => bytesOfA P H s d a
    | none => none
  | .call { callee := .builtin .append, args := as, argTypes := ts } => match as.toList, ts.toList with
    | [s, x], [t, t2] => match F.eval s, F.eval x with
      | some a, some b => appendA P H t t2 a.deN b.deN
      | _, _ => none
    | _, _ => none
  | .call { callee := .builtin .copy, args := as, argTypes := ts } => match as.toList, ts.toList with
    | [s, x], [t, t2] => match F.eval s, F.eval x with
      | some a, some b => copyA P H t t2 a.deN b.deN
      | _, _ => none
    | _, _ => none
  | .call { callee := .builtin .delete, args := as, argTypes := ts } => match as.toList, ts.toList with
    | [s, x], [t, _] => match F.eval s, F.eval x with
      | some a, some b => match deleteA P H t a b with
        | some H' => some (.undef, H')
        | none => none
      | _, _ => none
    | _, _ => none
  | _ => none

theorem toList_pair {α : Type} {a : Array α} {x y : α} (h : a.toList = [x, y]) : a = #[x, y] := by
  apply Array.ext'; simpa using h

theorem evalO_sound {n : Nat} {ρ : Operand → Value} {F : AF} (hE : EV ξ Φ μ n ρ F) {y : Option Operand} {r : Option AV} (hy : F.evalO y = some r) :
    (∀ x, r = some x → ∃ v, y.map ρ = some v ∧ V ξ Φ μ n v x) ∧ (r = none → y.map ρ = none) := by
  cases y with
  | none => simp [AF.evalO] at hy; subst hy; exact ⟨fun x hx => by simp at hx, fun _ => rfl⟩
  | some y =>
    simp only [AF.evalO] at hy
    split at hy
    · rename_i a' ha'
      cases hy
      exact ⟨fun x hx => by cases hx; exact ⟨ρ y, rfl, hE _ _ ha'⟩, fun hx => by cases hx⟩
    · cases hy

/-- What the machine does at such an operation: a value, or nothing. -/
def nextOf (v : Option Value) : Next :=
  match v with
  | some v => .value v
  | none => .skip
theorem eop_sound {H H' : AH} {w : World} {F : AF} {ρ : Operand → Value} {o : Oper} {z : AV} (hR : R ξ Φ μ H w) (hE : EV ξ Φ μ H.next ρ F) (h : eop P H F o.op = some (z, H')) :
    ∃ v w', (execOp ρ o).run P w = .ok (nextOf v) w' ∧ Done ξ Φ μ H w (v.getD undef) z H' w' := by
  obtain ⟨dst, op, type, pos, after, guard⟩ := o
  simp only at h
  cases op with
  | alloc t =>
    obtain ⟨r, w', h1, h2⟩ := allocA_sound (P := P) hR h
    exact ⟨some r, w', by simp [execOp, h1, nextOf], h2⟩
  | box t x =>
    simp only [eop] at h
    split at h
    · rename_i a ha
      split at h
      · rename_i hf
        cases h
        obtain ⟨r, w', h1, h2⟩ := boxed_ok (P := P) (t := t) hR hf (hE _ _ ha)
        exact ⟨some (.pointer (some r)), w', by simp [execOp, Instr.box, h1, nextOf], h2⟩
      · cases h
    · cases h
  | buildSlice t len parts =>
    simp only [eop] at h
    split at h
    · rename_i xs hxs
      have hp := parts_sound hE hxs
      obtain ⟨r, w', h1, h2⟩ := buildSliceA_sound (P := P) (us := parts.map fun (i, x) => (i, ρ x)) hR h (by simpa using hp)
      exact ⟨some r, w', by simp [execOp, h1, nextOf], h2⟩
    · cases h
  | store t a x =>
    simp only [eop] at h
    split at h
    · rename_i p v hp hv
      split at h
      · rename_i H1 hs
        cases h
        obtain ⟨w', h1, h2, h3⟩ := storeA_sound (P := P) hR hs (hE _ _ hp) (hE _ _ hv)
        exact ⟨none, w', by simp [execOp, h1, nextOf], ⟨Φ, μ, .undef _ _, h2, h3⟩⟩
      · cases h
    · cases h
  | makeMap t r =>
    simp only [eop] at h
    split at h
    · rename_i x hx
      obtain ⟨v, w', h1, h2⟩ := makeMapA_sound (P := P) hR h (evalO_sound hE hx).1 (evalO_sound hE hx).2
      exact ⟨some v, w', by simp [execOp, h1, nextOf], h2⟩
    · cases h
  | makeSlice t l c =>
    simp only [eop] at h
    split at h
    · rename_i a b ha hb
      obtain ⟨v, w', h1, h2⟩ := makeA_sound (P := P) hR h (hE _ _ ha) (hE _ _ hb)
      exact ⟨some v, w', by simp [execOp, h1, nextOf], h2⟩
    · cases h
  | mapUpdate t m k v =>
    simp only [eop] at h
    split at h
    · rename_i a b c ha hb hc
      split at h
      · rename_i H1 hs
        cases h
        obtain ⟨w', h1, h2, h3⟩ := mapPut_sound (P := P) hR hs (hE _ _ ha) (hE _ _ hb) (hE _ _ hc)
        exact ⟨none, w', by simp [execOp, h1, nextOf], ⟨Φ, μ, .undef _ _, h2, h3⟩⟩
      · cases h
    · cases h
  | insert t m k v =>
    simp only [eop] at h
    split at h
    · rename_i a b c ha hb hc
      split at h
      · rename_i H1 hs
        cases h
        obtain ⟨w', h1, h2, h3⟩ := mapPut_sound (P := P) hR hs (hE _ _ ha) (hE _ _ hb) (hE _ _ hc)
        exact ⟨none, w', by simp [execOp, h1, nextOf], ⟨Φ, μ, .undef _ _, h2, h3⟩⟩
      · cases h
    · cases h
  | convert s d x =>
    simp only [eop] at h
    split at h
    · rename_i a ha
      obtain ⟨v, w', h1, h2⟩ := bytesOfA_sound (P := P) hR h (hE _ _ ha)
      exact ⟨some v, w', by simp [execOp, h1, nextOf], h2⟩
    · cases h
  | call c =>
    obtain ⟨callee, args, argTypes⟩ := c
    cases callee with
    | builtin b =>
      cases b <;> simp only [eop] at h <;> (try (cases h; done))
      · split at h
        · rename_i s x t t2 hx ht
          split at h
          · rename_i a b ha hb
            have e1 := toList_pair hx
            have e2 := toList_pair ht
            subst e1; subst e2
            obtain ⟨r, w', h1, h2⟩ := appendA_sound (P := P) (ty := type) hR h (hE _ _ ha).deN (hE _ _ hb).deN
            exact ⟨some r, w', by simp [execOp, resolve, invoke, builtin, h1, nextOf], h2⟩
          · cases h
        · cases h
      · split at h
        · rename_i s x t t2 hx ht
          split at h
          · rename_i a b ha hb
            have e1 := toList_pair hx
            have e2 := toList_pair ht
            subst e1; subst e2
            obtain ⟨r, w', h1, h2⟩ := copyA_sound (P := P) (ty := type) hR h (hE _ _ ha).deN (hE _ _ hb).deN
            exact ⟨some r, w', by simp [execOp, resolve, invoke, builtin, h1, nextOf], h2⟩
          · cases h
        · cases h
      · split at h
        · rename_i s x t t2 hx ht
          split at h
          · rename_i a b ha hb
            split at h
            · rename_i H1 hs
              cases h
              have e1 := toList_pair hx
              have e2 := toList_pair ht
              subst e1; subst e2
              obtain ⟨r, w', h1, h2⟩ := deleteA_sound (P := P) (ty := t2) hR hs (hE _ _ ha) (hE _ _ hb)
              refine ⟨some r, w', ?_, h2⟩
              have h1' : (Builtin.delete_ #[t, t2] type #[ρ s, ρ x]).run P w = .ok r w' := h1
              simp [execOp, resolve, invoke, builtin, h1', nextOf]
            · cases h
          · cases h
        · cases h
    | _ => simp only [eop] at h; cases h
  | _ => simp only [eop] at h; cases h
end
end Go.Ai
end
