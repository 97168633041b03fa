/- THE ABSTRACT INTERPRETER, PART 4: composite values; the operation that only reads, whole. -/
import Derived.Test.YtaghpkljmnpjoaaGreatDoorE3
set_option linter.unusedVariables false
set_option linter.unusedSimpArgs false
noncomputable section
namespace Go.Ai
variable {ξ : Env}

section
variable {P : Program} {Φ : Nat → Option Obj} {μ : Nat → Pl}

def setSeg {α : Type} (cs : List α) (off : Nat) : List α → List α
  | [] => cs
  | x :: xs => setSeg (cs.set off x) (off + 1) xs
theorem setSeg_length {α : Type} : ∀ (xs cs : List α) (off : Nat), (setSeg cs off xs).length = cs.length
  | [], _, _ => rfl
  | x :: xs, cs, off => by simp [setSeg, setSeg_length xs]
theorem Vs.set {n : Nat} {vs : List Value} {as : List AV} {v : Value} {a : AV} (h : Vs ξ Φ μ n vs as) (hv : V ξ Φ μ n v a) (i : Nat) : Vs ξ Φ μ n (vs.set i v) (as.set i a) := by
  refine ⟨by simp [h.1], fun j u b h1 h2 => ?_⟩
  rw [List.getElem?_set] at h1 h2
  split at h1
  · rename_i e
    subst e
    rw [if_pos rfl] at h2
    split at h1
    · split at h2
      · cases h1; cases h2; exact hv
      · cases h2
    · cases h1
  · rename_i e
    rw [if_neg e] at h2
    exact h.2 j u b h1 h2
theorem Vs.setSeg {n : Nat} : ∀ {xs : List Value} {bs : List AV} {vs : List Value} {as : List AV}, Vs ξ Φ μ n vs as → Vs ξ Φ μ n xs bs → ∀ off, Vs ξ Φ μ n (Ai.setSeg vs off xs) (Ai.setSeg as off bs)
  | [], bs, vs, as, h, hx, off => by
    have : bs = [] := by have := hx.1; simpa using this.symm
    subst this; exact h
  | x :: xs, bs, vs, as, h, hx, off => by
    cases bs with
    | nil => have := hx.1; simp at this
    | cons b bs => exact Vs.setSeg (h.set hx.head off) hx.tail (off + 1)

theorem foldl_zip : ∀ (l : List Value) (k off : Nat) (arr : Array Value),
    ((l.zipIdx k).foldl (fun cs p => cs.setIfInBounds (off + p.2) p.1) arr).toList = setSeg arr.toList (off + k) l
  | [], _, _, _ => rfl
  | x :: xs, k, off, arr => by
    simp only [List.zipIdx_cons, List.foldl_cons, foldl_zip xs (k + 1) off, setSeg, Array.toList_setIfInBounds, Nat.add_assoc]

/-- Struct and array literals: the zero cells; where each part begins, how many cells it has. -/
def plL (P : Tab) : List Field → Option (List (Nat × Nat))
  | [] => some []
  | f :: r => match P.info? f.type, plL P r with
    | some i, some l => some ((f.offset, i.size) :: l)
    | _, _ => none
theorem plL_mapM : ∀ {fs : List Field} {l : List (Nat × Nat)}, plL P fs = some l → fs.mapM (fun f => (P.info? f.type).map fun i => (f.offset, i.size)) = some l
  | [], l, h => by simp [plL] at h; subst h; simp
  | f :: r, l, h => by
    simp only [plL] at h
    split at h
    · rename_i i l' hi hl
      have hi : P.info? f.type = some i := hi
      cases h
      simp [List.mapM_cons, hi, plL_mapM hl]
    · cases h
def bld (P : Tab) (t : TypeId) : Option (List AV × List (Nat × Nat)) :=
  match P.info? t, P.underlying t with
  | some it, some (.struct fs) => match it.zero with
    | some z => match constL z.cells.toList, plL P fs.toList with
      | some zs, some ps => some (zs, ps)
      | _, _ => none
    | none => none
  | some it, some (.array n e) => match it.zero, P.info? e with
    | some z, some ie => match constL z.cells.toList with
      | some zs => some (zs, (List.range n).map fun i => (i * ie.size, ie.size))
      | none => none
    | _, _ => none
  | _, _ => none
def fillA (ps : List (Nat × Nat)) (zs : List AV) : List (Nat × AV) → Option (List AV)
  | [] => some zs
  | (i, x) :: r => match ps[i]? with
    | some (off, size) => if x.flat ∧ x.cells.length = size ∧ off + size ≤ zs.length then fillA ps (setSeg zs off x.cells) r else none
    | none => none

def Vp (ξ : Env) (Φ : Nat → Option Obj) (μ : Nat → Pl) (n : Nat) (us : List (Nat × Value)) (xs : List (Nat × AV)) : Prop :=
  us.length = xs.length ∧ ∀ (j : Nat) u x, us[j]? = some u → xs[j]? = some x → u.1 = x.1 ∧ V ξ Φ μ n u.2 x.2

theorem fillA_sound {n : Nat} {place : Nat → Option (Nat × Nat)} {ps : List (Nat × Nat)} (hp : ∀ i p, ps[i]? = some p → place i = some p) :
    ∀ {xs : List (Nat × AV)} {us : List (Nat × Value)} {zs r : List AV} {cs : Array Value}, fillA ps zs xs = some r → Vs ξ Φ μ n cs.toList zs → Vp ξ Φ μ n us xs →
      ∃ cs', Instr.fill place cs us = some cs' ∧ Vs ξ Φ μ n cs'.toList r
  | [], us, zs, r, cs, h, hv, hu => by
    have : us = [] := by have := hu.1; simpa using this
    subst this
    simp only [fillA, Option.some.injEq] at h; subst h
    exact ⟨cs, rfl, hv⟩
  | (i, x) :: xs, us, zs, r, cs, h, hv, hu => by
    cases us with
    | nil => have := hu.1; simp at this
    | cons u us =>
      obtain ⟨i', v⟩ := u
      obtain ⟨hi, hV⟩ := hu.2 0 _ _ rfl rfl
      simp only at hi hV; subst hi
      simp only [fillA] at h
      split at h
      · rename_i off size hps
        split at h
        · rename_i hc
          obtain ⟨hf, hs, hle⟩ := hc
          have hcs := hV.cells hf
          have hsz : v.cells.size = size := by have := hcs.1; simp at this; omega
          have hcsz : cs.size = zs.length := by have := hv.1; simpa using this
          have hfold : (v.cells.zipIdx.foldl (fun cs (c, j) => cs.setIfInBounds (off + j) c) cs).toList = setSeg cs.toList off v.cells.toList := by
            have := foldl_zip v.cells.toList 0 off cs
            simp only [Nat.add_zero] at this
            rw [← this]
            congr 1
            rw [← Array.foldl_toList, Array.toList_zipIdx]
          have hv' := hv.setSeg hcs off
          rw [← hfold] at hv'
          have hu' : Vp ξ Φ μ n us xs := ⟨by have := hu.1; simpa using this, fun j u x h1 h2 => hu.2 (j + 1) u x (by simpa using h1) (by simpa using h2)⟩
          obtain ⟨cs', h1, h2⟩ := fillA_sound hp h hv' hu'
          refine ⟨cs', ?_, h2⟩
          simp only [Instr.fill, hp _ _ hps]
          rw [if_neg (by rw [hsz]; simp; omega)]
          exact h1
        · cases h
      · cases h

def buildA (P : Tab) (t : TypeId) (xs : List (Nat × AV)) : Option AV :=
  match bld P t with
  | some (zs, ps) => match fillA ps zs xs with
    | some r => some (.agg r)
    | none => none
  | none => none
theorem buildA_sound {n : Nat} {t : TypeId} {xs : List (Nat × AV)} {us : Array (Nat × Value)} {z : AV} (w : World) (h : buildA P t xs = some z) (hu : Vp ξ Φ μ n us.toList xs) :
    ∃ r, (Instr.build t us).run P w = .ok r w ∧ V ξ Φ μ n r z := by
  unfold buildA at h
  split at h
  · rename_i zs ps hb
    split at h
    · rename_i r hr
      cases h
      have hbuilt : ∃ cs', P.built t us.toList = some cs' ∧ Vs ξ Φ μ n cs'.toList r := by
        unfold bld at hb
        split at hb
        · rename_i it fs hi hun
          have hi : P.info? t = some it := hi
          have hun : P.underlying t = some (.struct fs) := hun
          split at hb
          · rename_i zv hz
            split at hb
            · rename_i zs' ps' hzs hps
              cases hb
              obtain ⟨cs', h1, h2⟩ := fillA_sound (ξ := ξ) (Φ := Φ) (μ := μ) (n := n) (place := fun i => ps.toArray[i]?) (ps := ps) (fun i p hp => by simpa using hp) hr (Vs.constL hzs) hu
              refine ⟨cs', ?_, h2⟩
              simp only [Program.built, hi, hun, hz, plL_mapM hps]
              exact h1
            · cases hb
          · cases hb
        · rename_i it len e hi hun
          have hi : P.info? t = some it := hi
          have hun : P.underlying t = some (.array len e) := hun
          split at hb
          · rename_i zv ie hz hie
            have hie : P.info? e = some ie := hie
            split at hb
            · rename_i zs' hzs
              cases hb
              obtain ⟨cs', h1, h2⟩ := fillA_sound (ξ := ξ) (Φ := Φ) (μ := μ) (n := n) (place := fun i => some (i * ie.size, ie.size)) (fun i p hp => by
                simp only [List.getElem?_map] at hp
                cases hq : (List.range len)[i]? with
                | none => rw [hq] at hp; cases hp
                | some q =>
                  rw [hq] at hp
                  rw [List.getElem?_range (by have := (List.getElem?_eq_some_iff.1 hq).1; simpa using this)] at hq
                  cases hq; simpa using hp) hr (Vs.constL hzs) hu
              refine ⟨cs', ?_, h2⟩
              simp only [Program.built, hi, hun, hz, hie]
              exact h1
            · cases hb
          · cases hb
        · cases hb
      obtain ⟨cs', h1, h2⟩ := hbuilt
      refine ⟨.agg cs', run_build w t us cs' h1, ?_⟩
      have := V.agg n cs'.toList r h2.1 h2.2
      simpa using this
    · cases h
  · cases h

/-- Operands, all of them. -/
def AF.evals (F : AF) : List Operand → Option (List AV)
  | [] => some []
  | x :: r => match F.eval x, F.evals r with
    | some a, some as => some (a :: as)
    | _, _ => none
theorem evals_sound {n : Nat} {ρ : Operand → Value} {F : AF} (hE : EV ξ Φ μ n ρ F) : ∀ {l : List Operand} {as : List AV}, F.evals l = some as → Vs ξ Φ μ n (l.map ρ) as
  | [], as, h => by simp [AF.evals] at h; subst h; exact Vs.nil
  | x :: r, as, h => by
    simp only [AF.evals] at h
    split at h
    · rename_i a as' h1 h2
      cases h
      exact Vs.cons (hE _ _ h1) (evals_sound hE h2)
    · cases h
def AF.parts (F : AF) : List (Nat × Operand) → Option (List (Nat × AV))
  | [] => some []
  | (i, x) :: r => match F.eval x, F.parts r with
    | some a, some as => some ((i, a) :: as)
    | _, _ => none
theorem parts_sound {n : Nat} {ρ : Operand → Value} {F : AF} (hE : EV ξ Φ μ n ρ F) : ∀ {l : List (Nat × Operand)} {as : List (Nat × AV)}, F.parts l = some as → Vp ξ Φ μ n (l.map fun (i, x) => (i, ρ x)) as
  | [], as, h => by simp [AF.parts] at h; subst h; exact ⟨rfl, fun j u x h => by simp at h⟩
  | (i, x) :: r, as, h => by
    simp only [AF.parts] at h
    split at h
    · rename_i a as' h1 h2
      cases h
      have ih := parts_sound hE h2
      refine ⟨by simp [ih.1], fun j u y e1 e2 => ?_⟩
      cases j with
      | zero => simp at e1 e2; subst e1; subst e2; exact ⟨rfl, hE _ _ h1⟩
      | succ j => exact ih.2 j u y (by simpa using e1) (by simpa using e2)
    · cases h
def AF.evalO (F : AF) : Option Operand → Option (Option AV)
  | none => some none
  | some x => match F.eval x with
    | some a => some (some a)
    | none => none

def extractA (x : AV) (i : Nat) : Option AV :=
  match x with
  | .tuple vs => vs[i]?
  | _ => none

def nilOk : AV → Bool
  | .ptr _ _ | .fptr _ | .gptr _ _ => true
  | .func (.func _) _ _ => true
  | .iface _ _ => true
  | _ => false

/-- THE OPERATIONS THAT ONLY READ. -/
def pop (P : Tab) (H : AH) (F : AF) (o : Op) : Option AV :=
  match o with
  | .move x => F.eval x
  | .assign x => F.eval x
  | .pick c a b => match F.eval c with
    | some (.bool true) => F.eval a
    | some (.bool false) => F.eval b
    | _ => none
  | .build t parts => match F.parts parts.toList with
    | some xs => buildA P t xs
    | none => none
  | .load t a => match F.eval a with
    | some x => match deref H x with
      | some cells => loadA P t cells
      | none => none
    | none => none
  | .nilCheck x => match F.eval x with
    | some a => if nilOk a then some a else none
    | none => none
  | .binOp op t x y _ => match F.eval x, F.eval y with
    | some a, some b => binA P op t (isConst x) (isConst y) a b
    | _, _ => none
  | .unOp op _ x => match F.eval x with
    | some a => unA op a
    | none => none
  | .convert s d x => match F.eval x with
    | some a => convA P H s d a.deN
    | none => none
  | .makeInterface t x => match F.eval x with
    | some a => match P.underlying t with
      | some (.interface _) => none
      | some _ => some (.iface t a)
      | none => none
    | none => none
  | .makeFunc fn first cap => match F.evals first.toList, F.evals cap.toList with
    | some a, some b => some (.func fn a b)
    | _, _ => none
  | .slice t x lo hi mx => match F.eval x, F.evalO lo, F.evalO hi, F.evalO mx with
    | some a, some l, some h, some m => if m.isSome → h.isSome then sliceA P t a.deN l h m else none
    | _, _, _, _ => none
  | .fieldAddr s x f => match F.eval x with
    | some a => fieldAddrA P s a f
    | none => none
  | .field s x f => match F.eval x with
    | some a => fieldA P s a f
    | none => none
  | .indexAddr t x i => match F.eval x, F.eval i with
    | some a, some b => indexAddrA P t a b
    | _, _ => none
  | .index t x i => match F.eval x, F.eval i with
    | some a, some b => indexA P t a b
    | _, _ => none
  | .lookup t m k ok => match F.eval m, F.eval k with
    | some a, some b => lookupA P H t a b ok
    | _, _ => none
  | .extract x i => match F.eval x with
    | some a => extractA a i
    | none => none
  | .call { callee := .builtin .len, args := as, argTypes := ts } => match as.toList, ts.toList with
    | [x], [t] => match F.eval x with
      | some a => lenA P H t a.deN
      | none => none
    | _, _ => none
  | .call { callee := .builtin .min, args := as, argTypes := _ } => match F.evals as.toList with
    | some (a :: r) => mmA false a r
    | _ => none
  | .call { callee := .builtin .max, args := as, argTypes := _ } => match F.evals as.toList with
    | some (a :: r) => mmA true a r
    | _ => none
  | _ => none

theorem toList_two {α : Type} {a : Array α} {x : α} (h : a.toList = [x]) : a = #[x] := by
  apply Array.ext'; simpa using h

theorem pop_sound {H : AH} {w : World} {F : AF} {ρ : Operand → Value} {o : Oper} {z : AV} (hR : R ξ Φ μ H w) (hE : EV ξ Φ μ H.next ρ F) (h : pop P H F o.op = some z) :
    ∃ v, (execOp ρ o).run P w = .ok (.value v) w ∧ V ξ Φ μ H.next v z := by
  obtain ⟨dst, op, type, pos, after, guard⟩ := o
  simp only at h
  cases op with
  | move x => exact ⟨ρ x, rfl, hE _ _ h⟩
  | assign x => exact ⟨ρ x, rfl, hE _ _ h⟩
  | pick c a b =>
    simp only [pop] at h
    split at h
    · rename_i hc
      have := hE _ _ hc
      cases hq : ρ c <;> rw [hq] at this <;> cases this
      exact ⟨ρ a, by simp [execOp, hq, asBool], hE _ _ h⟩
    · rename_i hc
      have := hE _ _ hc
      cases hq : ρ c <;> rw [hq] at this <;> cases this
      exact ⟨ρ b, by simp [execOp, hq, asBool], hE _ _ h⟩
    · cases h
  | build t parts =>
    simp only [pop] at h
    split at h
    · rename_i xs hxs
      have hp := parts_sound hE hxs
      obtain ⟨r, h1, h2⟩ := buildA_sound (us := parts.map fun (i, x) => (i, ρ x)) w h (by simpa using hp)
      exact ⟨r, by simp [execOp, h1], h2⟩
    · cases h
  | load t a =>
    simp only [pop] at h
    split at h
    · rename_i x hx
      split at h
      · rename_i cells hd
        obtain ⟨b, o, vs, hv, hvs, hc⟩ := deref_sound hR hd (hE _ _ hx)
        obtain ⟨v, h1, h2⟩ := loadA_sound (P := P) w b o h hvs hc
        exact ⟨v, by simp [execOp, Instr.loadAt, hv, Instr.sureAddr, h1], h2⟩
      · cases h
    · cases h
  | nilCheck x =>
    simp only [pop] at h
    split at h
    · rename_i a ha
      split at h
      · rename_i hok
        cases h
        have hV := hE _ _ ha
        refine ⟨ρ x, ?_, hV⟩
        cases hq : ρ x <;> rw [hq] at hV <;> cases hV <;> (try (simp [nilOk] at hok; done)) <;> (try (simp [execOp, hq]; done))
        rename_i fn fs cs as bs h1 h2 h3 h4
        cases fn <;> simp [nilOk] at hok
        simp [execOp, hq]
      · cases h
    · cases h
  | binOp op t x y yt =>
    simp only [pop] at h
    split at h
    · rename_i a b ha hb
      obtain ⟨r, h1, h2⟩ := binA_sound (P := P) h (hE _ _ ha) (hE _ _ hb) w
      refine ⟨r, ?_, h2⟩
      simp only [execOp, Sem.run_bind] at h1 ⊢
      rw [h1]; rfl
    · cases h
  | unOp op t x =>
    simp only [pop] at h
    split at h
    · rename_i a ha
      obtain ⟨r, h1, h2⟩ := unA_sound (P := P) w h (hE _ _ ha)
      exact ⟨r, by simp [execOp, h1], h2⟩
    · cases h
  | convert s d x =>
    simp only [pop] at h
    split at h
    · rename_i a ha
      obtain ⟨r, h1, h2⟩ := convA_sound (P := P) hR h (hE _ _ ha).deN
      exact ⟨r, by simp [execOp, h1], h2⟩
    · cases h
  | makeInterface t x =>
    simp only [pop] at h
    split at h
    · rename_i a ha
      split at h
      · cases h
      · rename_i d hni hu
        cases h
        refine ⟨.iface t (ρ x), ?_, .iface _ _ _ _ (hE _ _ ha)⟩
        cases d <;> simp [execOp, Instr.makeInterface, run_underlying hu]
        exact hni _ rfl
      · cases h
    · cases h
  | makeFunc fn first cap =>
    simp only [pop] at h
    split at h
    · rename_i a b ha hb
      cases h
      have h1 := evals_sound hE ha
      have h2 := evals_sound hE hb
      refine ⟨.func fn (first.map ρ) (cap.map ρ), by simp [execOp, Instr.makeFunc], ?_⟩
      have := V.func H.next fn _ _ _ _ h1.1 h2.1 h1.2 h2.2
      rw [← Array.toList_map, ← Array.toList_map] at this
      simpa only [Array.toArray_toList] using this
    · cases h
  | slice t x lo hi mx =>
    simp only [pop] at h
    split at h
    · rename_i a l hh m ha hl hhi hmx
      split at h
      · rename_i him
        have ev : ∀ (y : Option Operand) (r : Option AV), F.evalO y = some r → (∀ x, r = some x → ∃ v, y.map ρ = some v ∧ V ξ Φ μ H.next v x) ∧ (r = none → y.map ρ = none) := by
          intro y r hy
          cases y with
          | none => simp [AF.evalO] at hy; subst hy; exact ⟨fun x hx => by simp at hx, fun _ => rfl⟩
          | some y =>
            simp only [AF.evalO] at hy
            split at hy
            · rename_i a' ha'
              cases hy
              exact ⟨fun x hx => by cases hx; exact ⟨ρ y, rfl, hE _ _ ha'⟩, fun hx => by cases hx⟩
            · cases hy
        obtain ⟨r, h1, h2⟩ := sliceA_sound (P := P) w h (hE _ _ ha).deN him (ev _ _ hl).1 (ev _ _ hl).2 (ev _ _ hhi).1 (ev _ _ hhi).2 (ev _ _ hmx).1 (ev _ _ hmx).2
        exact ⟨r, by simp [execOp, h1], h2⟩
      · cases h
    · cases h
  | fieldAddr s x f =>
    simp only [pop] at h
    split at h
    · rename_i a ha
      obtain ⟨r, h1, h2⟩ := fieldAddrA_sound (P := P) w h (hE _ _ ha)
      exact ⟨r, by simp [execOp, h1], h2⟩
    · cases h
  | field s x f =>
    simp only [pop] at h
    split at h
    · rename_i a ha
      obtain ⟨r, h1, h2⟩ := fieldA_sound (P := P) w h (hE _ _ ha)
      exact ⟨r, by simp [execOp, h1], h2⟩
    · cases h
  | indexAddr t x i =>
    simp only [pop] at h
    split at h
    · rename_i a b ha hb
      obtain ⟨r, h1, h2⟩ := indexAddrA_sound (P := P) w h (hE _ _ ha) (hE _ _ hb)
      exact ⟨r, by simp [execOp, h1], h2⟩
    · cases h
  | index t x i =>
    simp only [pop] at h
    split at h
    · rename_i a b ha hb
      obtain ⟨r, h1, h2⟩ := indexA_sound (P := P) w h (hE _ _ ha) (hE _ _ hb)
      exact ⟨r, by simp [execOp, h1], h2⟩
    · cases h
  | lookup t m k ok =>
    simp only [pop] at h
    split at h
    · rename_i a b ha hb
      obtain ⟨r, h1, h2⟩ := lookupA_sound (P := P) hR h (hE _ _ ha) (hE _ _ hb)
      exact ⟨r, by simp [execOp, h1], h2⟩
    · cases h
  | extract x i =>
    simp only [pop] at h
    split at h
    · rename_i a ha
      have hV := hE _ _ ha
      cases a <;> simp only [extractA] at h <;> (try (cases h; done))
      cases hq : ρ x <;> rw [hq] at hV <;> cases hV
      rename_i vs hl hv
      obtain ⟨v, h1, h2⟩ := Vs.get (ξ := ξ) (Φ := Φ) (μ := μ) (n := H.next) ⟨hl, hv⟩ h
      exact ⟨v, by simp [execOp, hq, Instr.extract, h1], h2⟩
    · cases h
  | call c =>
    obtain ⟨callee, args, argTypes⟩ := c
    cases callee with
    | builtin b =>
      cases b <;> simp only [pop] at h <;> (try (cases h; done))
      · split at h
        · rename_i x t hx ht
          split at h
          · rename_i a ha
            have e1 := toList_two hx
            have e2 := toList_two ht
            subst e1; subst e2
            obtain ⟨r, h1, h2⟩ := lenA_sound (P := P) (ty := type) hR h (hE _ _ ha).deN
            exact ⟨r, by simp [execOp, resolve, invoke, builtin, h1], h2⟩
          · cases h
        · cases h
      · split at h
        · rename_i a r hx
          have hv := evals_sound hE hx
          cases hargs : args.toList.map ρ with
          | nil => rw [hargs] at hv; have := hv.1; simp at this
          | cons v vs =>
            rw [hargs] at hv
            obtain ⟨z', h1, h2⟩ := mmA_sound (P := P) w h hv.head hv.tail
            refine ⟨z', ?_, h2⟩
            have he : (args.map ρ).toList = v :: vs := by simpa using hargs
            simp at h1
            simp [execOp, resolve, invoke, builtin, Builtin.max_, Builtin.min_, hargs, h1]
        · cases h
      · split at h
        · rename_i a r hx
          have hv := evals_sound hE hx
          cases hargs : args.toList.map ρ with
          | nil => rw [hargs] at hv; have := hv.1; simp at this
          | cons v vs =>
            rw [hargs] at hv
            obtain ⟨z', h1, h2⟩ := mmA_sound (P := P) w h hv.head hv.tail
            refine ⟨z', ?_, h2⟩
            simp at h1
            simp [execOp, resolve, invoke, builtin, Builtin.max_, Builtin.min_, hargs, h1]
        · cases h
    | _ => simp only [pop] at h; cases h
  | _ => simp only [pop] at h; cases h
end
end Go.Ai
end
