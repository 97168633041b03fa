/- THE EVALUATOR: equality of abstract values; pointers compared; ranges over maps. -/
import Derived.Test.YtaghpkljmnpjoaaGreatDoorEI
import Derived.LaidEql
set_option linter.unusedVariables false
set_option linter.unusedSimpArgs false
noncomputable section
namespace Go.Ai
variable {ξ : Env}

def eqB (a b : Bool) : Bool := bif a then b else !b
def eqON : Option Nat → Option Nat → Bool
  | none, none => true
  | some a, some b => Nat.beq a b
  | _, _ => false
mutual
def AV.beq : AV → AV → Bool
  | .undef, .undef => true
  | .bool a, .bool b => eqB a b
  | .int k a, .int j b => decide (k = j) && decide (a = b)
  | .str a, .str b => eqBA a b
  | .nilptr, .nilptr => true
  | .ptr i o, .ptr j p => Nat.beq i j && Nat.beq o p
  | .fptr a, .fptr b => AV.beqL a b
  | .slice i o l e g c, .slice i' o' l' e' g' c' => Nat.beq i i' && (Nat.beq o o' && (Nat.beq l l' && (Nat.beq e e' && (eqB g g' && eqON c c'))))
  | .fslice e l c, .fslice e' l' c' => Nat.beq e e' && (AV.beqL l l' && eqON c c')
  | .nilslice, .nilslice => true
  | .eslice c, .eslice c' => eqON c c'
  | .nilmap, .nilmap => true
  | .map i, .map j => Nat.beq i j
  | .nilfunc, .nilfunc => true
  | .func f a b, .func g c d => decide (f = g) && (AV.beqL a c && AV.beqL b d)
  | .niliface, .niliface => true
  | .iface t v, .iface u w => Nat.beq t u && AV.beq v w
  | .agg a, .agg b => AV.beqL a b
  | .tuple a, .tuple b => AV.beqL a b
  | .sym (.str a), .sym (.str b) => beqSp a b
  | .sym (.len i c), .sym (.len j d) => Nat.beq i j && decide (c = d)
  | .sym (.bool n b), .sym (.bool m c) => eqB n m && b.beq c
  | .yield i, .yield j => Nat.beq i j
  | .gptr i o, .gptr j p => Nat.beq i j && Nat.beq o p
  | .vslice i, .vslice j => Nat.beq i j
  | _, _ => false
def AV.beqL : List AV → List AV → Bool
  | [], [] => true
  | a :: r, b :: s => AV.beq a b && AV.beqL r s
  | _, _ => false
end
theorem eqB_eq {a b : Bool} (h : eqB a b = true) : a = b := by cases a <;> cases b <;> first | rfl | cases h
theorem eqON_eq {a b : Option Nat} (h : eqON a b = true) : a = b := by
  cases a <;> cases b <;> simp only [eqON] at h <;> first | (cases h; done) | rfl | rw [Nat.eq_of_beq_eq_true h]
mutual
theorem AV.beq_eq : ∀ {a b : AV}, AV.beq a b = true → a = b := by
  intro a b h
  unfold AV.beq at h
  split at h <;> (try (cases h; done)) <;> (try rfl) <;> (try simp only [Bool.and_eq_true, decide_eq_true_eq, eqBA] at h)
  · rw [eqB_eq h]
  · rw [h.1, h.2]
  · rw [h]
  · rw [Nat.eq_of_beq_eq_true h.1, Nat.eq_of_beq_eq_true h.2]
  · rw [AV.beqL_eq h]
  · rw [Nat.eq_of_beq_eq_true h.1, Nat.eq_of_beq_eq_true h.2.1, Nat.eq_of_beq_eq_true h.2.2.1, Nat.eq_of_beq_eq_true h.2.2.2.1, eqB_eq h.2.2.2.2.1, eqON_eq h.2.2.2.2.2]
  · rw [Nat.eq_of_beq_eq_true h.1, AV.beqL_eq h.2.1, eqON_eq h.2.2]
  · rw [eqON_eq h]
  · rw [Nat.eq_of_beq_eq_true h]
  · rw [h.1, AV.beqL_eq h.2.1, AV.beqL_eq h.2.2]
  · rw [Nat.eq_of_beq_eq_true h.1, AV.beq_eq h.2]
  · rw [AV.beqL_eq h]
  · rw [AV.beqL_eq h]
  · rw [beqSp_eq h]
  · rw [Nat.eq_of_beq_eq_true h.1, h.2]
  · rw [eqB_eq h.1, BE.beq_eq h.2]
  · rw [Nat.eq_of_beq_eq_true h]
  · rw [Nat.eq_of_beq_eq_true h.1, Nat.eq_of_beq_eq_true h.2]
  · rw [Nat.eq_of_beq_eq_true h]
theorem AV.beqL_eq : ∀ {a b : List AV}, AV.beqL a b = true → a = b := by
  intro a b h
  unfold AV.beqL at h
  split at h
  · rfl
  · simp only [Bool.and_eq_true] at h
    rw [AV.beq_eq h.1, AV.beqL_eq h.2]
  · cases h
end

section
variable {P : Program} {Φ : Nat → Option Obj} {μ : Nat → Pl}

/-- Pointers compared. -/
def ptrEq (P : Tab) (H : AH) (t : TypeId) (a b : AV) : Option Bool :=
  match P.underlying t with
  | some (.pointer e) => match shp P e with
    | some (_, m + 1) => match a, b with
      | .ptr i o, .ptr j p => bif Nat.beq i j then some (Nat.beq o p) else
        match H.get i, H.get j with
        | some (.cells false _), some (.cells false _) => some false
        | _, _ => none
      | _, _ => none
    | _ => none
  | _ => none
theorem ptrEq_ok {H : AH} {w : World} {t : TypeId} {a b : AV} {q : Bool} {u v : Value} (hR : R ξ Φ μ H w) (h : ptrEq P H t a b = some q) (hu : V ξ Φ μ H.next u a) (hv : V ξ Φ μ H.next v b) :
    (Op.equal t u v).run P w = .ok q w ∧ (∃ x y, u = .pointer x ∧ v = .pointer y) := by
  unfold ptrEq at h
  split at h
  · rename_i e hun
    split at h
    · rename_i bb m hs
      split at h
      · rename_i i o j p
        cases hu; cases hv
        refine ⟨?_, _, _, rfl, rfl⟩
        have hsz := shp_size hs w
        have key : ∀ r, (sameAddr ⟨(μ i).block, (μ i).base + o, none⟩ ⟨(μ j).block, (μ j).base + p, none⟩).run P w = .ok r w →
            (Op.equal t (.pointer (some ⟨(μ i).block, (μ i).base + o, none⟩)) (.pointer (some ⟨(μ j).block, (μ j).base + p, none⟩))).run P w = .ok r w := fun r hr => by
          show (Op.equalIn 10000 _ _ _).run P w = _
          unfold Op.equalIn
          simp [run_underlying hun, hsz, hr]
        cases hij : Nat.beq i j
        · rw [hij] at h
          simp only [cond_false] at h
          split at h
          · rename_i cs cs' hgi hgj
            cases h
            have hne : i ≠ j := fun e => by rw [e, Nat.beq_refl] at hij; cases hij
            have hb := hR.inj i j _ _ hgi hgj hne
            obtain ⟨c, ty, vs, h1, _⟩ := hR.obj _ _ hgi
            obtain ⟨c', ty', vs', h1', _⟩ := hR.obj _ _ hgj
            exact key _ (run_sameAddr_other w (fun e => hb (congrArg Addr.block e)) h1 h1')
          · cases h
        · rw [hij] at h
          simp only [cond_true] at h
          cases h
          have := Nat.eq_of_beq_eq_true hij
          subst this
          refine key _ ?_
          simp only [sameAddr, beq_self_eq_true, if_true, Sem.run_pure]
          congr 1
          rw [Bool.eq_iff_iff]
          simp [Nat.beq_eq]
      · cases h
    · cases h
  · cases h
def ptrA (P : Tab) (H : AH) (F : AF) (op : Op) : Option AV :=
  match op with
  | .binOp .eql t a b _ => match F.eval a, F.eval b with
    | some u, some v => (ptrEq P H t u v).map .bool
    | _, _ => none
  | .binOp .neq t a b _ => match F.eval a, F.eval b with
    | some u, some v => (ptrEq P H t u v).map fun q => .bool (!q)
    | _, _ => none
  | _ => none
theorem ptrA_ok {H : AH} {F : AF} {o : Oper} {z : AV} (h : ptrA P H F o.op = some z) : PS ξ P H o F z := by
  obtain ⟨dst, op, type, pos, after, guard⟩ := o
  simp only at h
  unfold ptrA at h
  split at h
  · rename_i t a b yt
    refine ⟨by simp, fun Φ μ w act hR hE => ?_⟩
    split at h
    · rename_i u v hu hv
      cases hq : ptrEq P H t u v with
      | none => rw [hq] at h; cases h
      | some q =>
        rw [hq] at h
        cases h
        obtain ⟨h1, x, y, e1, e2⟩ := ptrEq_ok hR hq (hE _ _ hu) (hE _ _ hv)
        rw [e1, e2] at h1
        refine ⟨.bool q, ?_, .bool _ _⟩
        simp [execOp, e1, e2, eqGuard, binOp, h1]
    · cases h
  · rename_i t a b yt
    refine ⟨by simp, fun Φ μ w act hR hE => ?_⟩
    split at h
    · rename_i u v hu hv
      cases hq : ptrEq P H t u v with
      | none => rw [hq] at h; cases h
      | some q =>
        rw [hq] at h
        cases h
        obtain ⟨h1, x, y, e1, e2⟩ := ptrEq_ok hR hq (hE _ _ hu) (hE _ _ hv)
        rw [e1, e2] at h1
        refine ⟨.bool (!q), ?_, .bool _ _⟩
        simp [execOp, e1, e2, eqGuard, binOp, h1]
    · cases h
  · cases h
/-- An array is sliced. -/
def sliceArr (P : Tab) (H : AH) (F : AF) (op : Op) : Option AV :=
  match op with
  | .slice t x lo hi none => match P.underlying t, F.eval x, F.evalO lo, F.evalO hi with
    | some (.array n e), some (.ptr id off), some lo', some hi' => match shp P e, H.get id with
      | some (ag, m), some (.cells _ cs) => match bnd hi' n n with
        | some h => match bnd lo' 0 h with
          | some l => bif Nat.ble (off + n * m) cs.length then
              (bif Nat.blt l h then some (.slice id (off + l * m) (h - l) m ag (some (n - l))) else some (.fslice m [] (some (n - l))))
            else none
          | none => none
        | none => none
      | _, _ => none
    | _, _, _, _ => none
  | _ => none
theorem sliceArr_ok {H : AH} {F : AF} {o : Oper} {z : AV} (h : sliceArr P H F o.op = some z) : PS ξ P H o F z := by
  obtain ⟨dst, op, type, pos, after, guard⟩ := o
  simp only at h
  unfold sliceArr at h
  split at h
  · rename_i t x lo hi
    refine ⟨by simp, fun Φ μ w a hR hE => ?_⟩
    split at h
    · rename_i n e id off lo' hi' hun hx hlo hhi
      split at h
      · rename_i ag m s cs hs hg
        split at h
        · rename_i hb hbh
          split at h
          · rename_i l hbl
            cases hle : Nat.ble (off + n * m) cs.length
            · rw [hle] at h; cases h
            rw [hle] at h
            simp only [cond_true] at h
            have hle := Nat.le_of_ble_eq_true hle
            obtain ⟨q1, q2⟩ := evalO_sound hE hlo
            obtain ⟨q3, q4⟩ := evalO_sound hE hhi
            obtain ⟨hbd, b1, b2, b3⟩ := sliceBounds_ok (P := P) (ξ := ξ) (Φ := Φ) (μ := μ) (n := H.next) (mx := none) (vmx := none) w false (len := n) (c := n) (m := n) rfl hbh hbl (Nat.le_refl _) (by simp) q1 q2 q3 q4 (by simp) (by simp)
            simp only [Option.isSome_none, Bool.false_eq_true, if_false] at hbd
            have hV := hE _ _ hx
            have hrun : ∃ blk base, a.eval x = .pointer (some ⟨blk, base, none⟩) ∧ blk = (μ id).block ∧ base = (μ id).base + off ∧ id < H.next := by
              generalize a.eval x = v at hV
              cases hV
              exact ⟨_, _, rfl, rfl, rfl, by assumption⟩
            obtain ⟨blk, base, hv, rfl, rfl, hid⟩ := hrun
            have hexec : (execOp a.eval ⟨dst, .slice t x lo hi none, type, pos, after, guard⟩).run P w =
                .ok (.value (.slice (some (if n = l then ⟨(μ id).block, (μ id).base + off, none⟩ else ⟨(μ id).block, (μ id).base + off + l * m, none⟩)) (hb - l) (n - l))) w := by
              simp only [execOp, hv, Option.map_none, Instr.sliceAt, run_underlying hun, Sem.run_bind, Result.andThen_ok, Instr.sureAddr, Sem.run_pure, hbd, shp_size hs, add_off]
            obtain ⟨c, ty, vs, h1, h2, h3, h4, h5⟩ := hR.obj _ _ hg
            cases hlt : Nat.blt l hb
            · rw [hlt] at h
              cases h
              have hz : hb - l = 0 := by
                have : ¬ l < hb := fun h => by rw [← Nat.blt_eq] at h; rw [h] at hlt; cases hlt
                omega
              rw [hz] at hexec
              exact ⟨_, hexec, .fnil _ _ _ _ _ (fun k hk => by simpa using hk)⟩
            · rw [hlt] at h
              cases h
              rw [Nat.blt_eq] at hlt
              rw [if_neg (by omega), Nat.add_assoc] at hexec
              refine ⟨_, hexec, .slice _ _ _ _ _ _ _ _ hid (fun k hk => by simpa using hk) (by omega) ?_⟩
              have e1 : l * m + (n - l) * m = n * m := by rw [← Nat.add_mul]; congr 1; omega
              omega
          · cases h
        · cases h
      · cases h
    · cases h
  · cases h
/-- The entry at which an iterator stands. -/
def findB (k : Nat) : List (AV × AV) → List Nat → Option (AV × AV)
  | e :: es, b :: bs => bif Nat.beq b k then some e else findB k es bs
  | _, _ => none
def lastN : List Nat → Option Nat
  | [] => none
  | [a] => some a
  | _ :: b :: r => lastN (b :: r)
theorem lastN_eq : ∀ l : List Nat, lastN l = l.getLast?
  | [] => rfl
  | [a] => rfl
  | a :: b :: r => by rw [lastN, lastN_eq (b :: r)]; simp
def entryA (H : AH) (F : AF) (op : Op) : Option AV :=
  match op with
  | .entry it => match F.eval it with
    | some (.ptr r 0) => match H.get r with
      | some (.miter (some m) _ st seen) => match lastN seen, H.get m with
        | some b, some (.map es bs clock) => bif Nat.beq clock st then (findB b es bs).map fun p => .tuple [p.1, p.2] else none
        | _, _ => none
      | _ => none
    | _ => none
  | _ => none
theorem findB_ok {b : Nat} {p : AV × AV} : ∀ {en : List MapEntry} {es : List (AV × AV)} {bs : List Nat}, Vm ξ Φ μ en es → en.map (·.born) = bs → findB b es bs = some p →
    ∃ e, en.find? (fun e => e.born == b) = some e ∧ V ξ Φ μ 0 e.key p.1 ∧ V ξ Φ μ 0 e.val p.2
  | [], es, bs, hm, hb, h => by
    simp at hb; subst hb
    cases es <;> simp [findB] at h
  | e :: en, es, bs, hm, hb, h => by
    simp only [List.map_cons] at hb
    subst hb
    cases es with
    | nil => simp [findB] at h
    | cons q es =>
      have h0 := hm.2 0 e q rfl rfl
      have hm' : Vm ξ Φ μ en es := ⟨by have := hm.1; simpa using this, fun j e p e1 e2 => hm.2 (j + 1) e p (by simpa using e1) (by simpa using e2)⟩
      simp only [findB] at h
      cases hq : Nat.beq e.born b
      · rw [hq] at h
        simp only [cond_false] at h
        obtain ⟨e', h1, h2⟩ := findB_ok hm' rfl h
        have : (e.born == b) = false := beq_eq_false_iff_ne.2 (Nat.ne_of_beq_eq_false hq)
        exact ⟨e', by rw [List.find?_cons, this]; exact h1, h2⟩
      · rw [hq] at h
        simp only [cond_true, Option.some.injEq] at h
        subst h
        have : (e.born == b) = true := beq_iff_eq.2 (Nat.eq_of_beq_eq_true hq)
        exact ⟨e, by rw [List.find?_cons, this], h0⟩
theorem entryA_ok {H : AH} {F : AF} {o : Oper} {z : AV} (h : entryA H F o.op = some z) : PS ξ P H o F z := by
  obtain ⟨dst, op, type, pos, after, guard⟩ := o
  simp only at h
  unfold entryA at h
  split at h
  · rename_i it
    refine ⟨by simp, fun Φ μ w act hR hE => ?_⟩
    split at h
    · rename_i r hit
      have hV := hE _ _ hit
      split at h
      · rename_i m since st seen hg
        split at h
        · rename_i b es bs clock hl hgm
          cases hq : Nat.beq clock st
          · rw [hq] at h; cases h
          · rw [hq] at h
            simp only [cond_true, Option.map_eq_some_iff] at h
            obtain ⟨p, hp, rfl⟩ := h
            obtain ⟨mb, since', stepped, sn, h1, h2, h3, hst, h4⟩ := hR.obj _ _ hg
            obtain ⟨hmlt, rfl⟩ := h4
            obtain ⟨en, g1, g2, g3, g4, g5⟩ := hR.obj _ _ hgm
            have hv : act.eval it = .pointer (some ⟨(μ r).block, 0, none⟩) := by
              generalize act.eval it = v at hV
              cases hV
              rw [h3.2.2]
            obtain ⟨e, f1, f2, f3⟩ := findB_ok g2 g5 hp
            have hlast : sn.back? = some b := by
              rw [← hl, lastN_eq, ← h2]; simp
            have hfind : en.find? (fun e => e.born == b) = some e := by rw [← Array.find?_toList]; exact f1
            have hcl : clock = stepped := (Nat.eq_of_beq_eq_true hq).trans hst.symm
            refine ⟨.tuple #[e.key, e.val], ?_, ?_⟩
            · have hr1 : (getObj (μ r).block).run P w = .ok (.mapIter (some (μ m).block) since' sn stepped) w := by simp [getObj, Sem.run, h1]
              have hr2 : (getObj (μ m).block).run P w = .ok (.map en clock) w := run_getObj_map g1
              have : (Instr.entry (.pointer (some ⟨(μ r).block, 0, none⟩))).run P w = .ok (.tuple #[e.key, e.val]) w := by
                unfold Instr.entry
                simp only [Sem.run_bind, hr1, Result.andThen_ok, hlast, hr2, hcl, bne_self_eq_false, Bool.false_eq_true, if_false, hfind, Sem.run_pure]
              simp [execOp, hv, this]
            · have hs : Vs ξ Φ μ H.next [e.key, e.val] [p.1, p.2] := Vs.cons f2.up (Vs.cons f3.up Vs.nil)
              exact .tuple _ _ _ hs.1 hs.2
        · cases h
      · cases h
    · cases h
  · cases h
def popY (P : Tab) (x : X) (H : AH) (F : AF) (op : Op) : Option AV :=
  match popX P x H F op with
  | some z => some z
  | none => match ptrA P H F op with
    | some z => some z
    | none => match sliceArr P H F op with
      | some z => some z
      | none => entryA H F op
theorem popY_ok {x : X} (hx : x.holds ξ) {H : AH} {F : AF} {o : Oper} {z : AV} (h : popY P x H F o.op = some z) : PS ξ P H o F z := by
  unfold popY at h
  split at h
  · rename_i z' hz
    cases h
    exact popX_ok hx hz
  · split at h
    · rename_i z' hz
      cases h
      exact ptrA_ok hz
    · split at h
      · rename_i z' hz
        cases h
        exact sliceArr_ok hz
      · exact entryA_ok h
end
end Go.Ai
end
