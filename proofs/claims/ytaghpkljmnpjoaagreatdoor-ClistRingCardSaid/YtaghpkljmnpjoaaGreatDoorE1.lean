/- THE ABSTRACT INTERPRETER, PART 1: frames, operands, the operations that only read. -/
import Derived.Test.YtaghpkljmnpjoaaGreatDoorE0
set_option linter.unusedVariables false
set_option linter.unusedSimpArgs false
noncomputable section
namespace Go.Ai
variable {ξ : Env}

/-- Lists of values: the laws that need no element. -/
theorem Vs.length {Φ : Nat → Option Obj} {μ : Nat → Pl} {n : Nat} {vs : List Value} {as : List AV} (h : Vs ξ Φ μ n vs as) : vs.length = as.length := h.1

def AV.one : AV → Bool
  | .agg _ | .tuple _ | .undef => false
  | _ => true
def AV.cells : AV → List AV
  | .agg cs => cs
  | v => [v]
/-- A value whose cells are single cells: what may be stored. -/
def AV.flat : AV → Bool
  | .agg cs => cs.all AV.one
  | v => v.one

theorem V.one {Φ : Nat → Option Obj} {μ : Nat → Pl} {n : Nat} {v : Value} {a : AV} (h : V ξ Φ μ n v a) (ha : a.one = true) : v.oneCell' = true := by
  cases h <;> first | rfl | (simp [AV.one] at ha; done) | (rename_i s h0; subst h0; cases s <;> rfl)
theorem V.cells {Φ : Nat → Option Obj} {μ : Nat → Pl} {n : Nat} {v : Value} {a : AV} (h : V ξ Φ μ n v a) (ha : a.flat = true) : Vs ξ Φ μ n v.cells.toList a.cells := by
  have hh := h
  cases h <;> first
    | exact Vs.cons hh Vs.nil
    | (rename_i s h0; subst h0; cases s <;> exact Vs.cons hh Vs.nil)
    | (rename_i vs as hl hv; exact ⟨hl, hv⟩)
    | simp [AV.flat, AV.one] at ha
theorem V.cells_one {Φ : Nat → Option Obj} {μ : Nat → Pl} {n : Nat} {v : Value} {a : AV} (h : V ξ Φ μ n v a) (ha : a.flat = true) : ∀ c ∈ v.cells.toList, c.oneCell' = true := by
  have hc := h.cells ha
  intro c hm
  obtain ⟨j, hj⟩ := List.getElem?_of_mem hm
  have hlt : j < a.cells.length := by
    rw [← hc.1]; exact (List.getElem?_eq_some_iff.1 hj).1
  have hv := hc.2 j c a.cells[j] hj (by simp)
  refine hv.one ?_
  cases a <;> first
    | (simp [AV.cells] at hlt ⊢; simpa [AV.flat] using ha)
    | (simp only [AV.flat, List.all_eq_true] at ha; exact ha _ (List.getElem_mem _))

/-- A constant. -/
def const1 : Value → Option AV
  | .bool b => some (.bool b)
  | .int k n => some (.int k n)
  | .string s => some (.str s)
  | .pointer none => some .nilptr
  | .slice none 0 0 => some .nilslice
  | .map none => some .nilmap
  | .nilFunc => some .nilfunc
  | .nilIface => some .niliface
  | _ => none
def constL : List Value → Option (List AV)
  | [] => some []
  | v :: vs => match const1 v, constL vs with
    | some a, some as => some (a :: as)
    | _, _ => none
def constA : Value → Option AV
  | .agg cs => (constL cs.toList).map .agg
  | v => const1 v
theorem V.const1 {Φ : Nat → Option Obj} {μ : Nat → Pl} {n : Nat} {v : Value} {a : AV} (h : const1 v = some a) : V ξ Φ μ n v a := by
  unfold Ai.const1 at h
  split at h <;> simp at h <;> subst h <;> constructor
theorem Vs.constL {Φ : Nat → Option Obj} {μ : Nat → Pl} {n : Nat} : ∀ {vs : List Value} {as : List AV}, constL vs = some as → Vs ξ Φ μ n vs as
  | [], as, h => by simp [Ai.constL] at h; subst h; exact Vs.nil
  | v :: vs, as, h => by
    simp only [Ai.constL] at h
    split at h
    · rename_i a as' h1 h2
      simp at h; subst h
      exact Vs.cons (V.const1 h1) (Vs.constL h2)
    · simp at h
theorem V.constA {Φ : Nat → Option Obj} {μ : Nat → Pl} {n : Nat} {v : Value} {a : AV} (h : constA v = some a) : V ξ Φ μ n v a := by
  unfold Ai.constA at h
  split at h
  · rename_i cs
    cases hc : Ai.constL cs.toList with
    | none => simp [hc] at h
    | some as =>
      simp [hc] at h; subst h
      have hs := Vs.constL (ξ := ξ) (Φ := Φ) (μ := μ) (n := n) hc
      exact .agg _ _ _ hs.1 hs.2
  · exact V.const1 h

/-- A deferred call (a closure's function, what it captured, its arguments), or the mark of a loop over a function. -/
inductive AD1 where
  | call (g : Nat) (caps as : List AV)
  | coll (id : Nat)
/-- A frame: what the slots hold, and the calls that are deferred (a closure's function, what it captured, its arguments). -/
structure AF where
  t : List (Nat × AV)
  d : List AD1

def AF.put (F : AF) (dst : Option Tmp) (v : AV) : AF :=
  match dst with
  | some d => ⟨(d, v) :: F.t, F.d⟩
  | none => F
def AF.eval (F : AF) : Operand → Option AV
  | .tmp t => lk F.t t
  | .const v => constA v
  | .func f => some (.func (.func f) [] [])
  | .global g => some (.gptr g 0)

def EV (ξ : Env) (Φ : Nat → Option Obj) (μ : Nat → Pl) (n : Nat) (ρ : Operand → Value) (F : AF) : Prop := ∀ x y, F.eval x = some y → V ξ Φ μ n (ρ x) y

theorem EV.of_tr {Φ : Nat → Option Obj} {μ : Nat → Pl} {n : Nat} {a : Act} {F : AF} (h : TR ξ Φ μ n a.tmps F.t) : EV ξ Φ μ n a.eval F := by
  intro x y hy
  cases x with
  | tmp t =>
    obtain ⟨v, h1, h2⟩ := h t y hy
    simpa [Act.eval, h1] using h2
  | const v => exact V.constA hy
  | func f =>
    simp [AF.eval] at hy; subst hy
    exact .func n (.func f) [] [] [] [] rfl rfl (fun j v a h => by simp at h) (fun j v a h => by simp at h)
  | global g =>
    simp [AF.eval] at hy; subst hy
    exact .gptr n g 0

theorem TR.put {Φ : Nat → Option Obj} {μ : Nat → Pl} {n : Nat} {a : Act} {F : AF} (h : TR ξ Φ μ n a.tmps F.t) {dst : Option Tmp} {v : Value} {x : AV} (hv : V ξ Φ μ n v x)
    (hd : ∀ d, dst = some d → d < a.tmps.size) : TR ξ Φ μ n (a.put dst v).tmps (F.put dst x).t := by
  cases dst with
  | none => exact h
  | some d =>
    intro t y hy
    simp only [AF.put, lk_cons] at hy
    simp only [Act.put]
    split at hy
    · rename_i e
      simp at hy; subst hy; subst e
      exact ⟨v, by simp [hd d rfl], hv⟩
    · rename_i e
      obtain ⟨u, h1, h2⟩ := h t y hy
      exact ⟨u, by rw [Array.getElem?_setIfInBounds_ne e]; exact h1, h2⟩

/-- What is asked of the program: of its types, of its functions. -/
structure Tab where
  underlying : TypeId → Option TypeDesc
  info? : TypeId → Option TypeInfo
  fnAt : Nat → Option Func
abbrev Tab.of (P : Program) : Tab := ⟨P.underlying, P.info?, fun g => P.funcs[g]?⟩
instance : Coe Program Tab := ⟨Tab.of⟩

/-- Of a type: is it a struct or an array; how many cells has it? -/
def shp (P : Tab) (t : TypeId) : Option (Bool × Nat) :=
  match P.underlying t, P.info? t with
  | some (.struct _), some i | some (.array _ _), some i => some (true, i.size)
  | some _, some i => some (false, i.size)
  | _, _ => none
theorem shp_true {P : Program} {t : TypeId} {n : Nat} (h : shp P t = some (true, n)) : (∀ w, (isAgg t).run P w = .ok true w) ∧ ∀ w, (sizeOf t).run P w = .ok n w := by
  unfold shp at h
  split at h <;> simp at h
  all_goals
    rename_i i hu hi
    subst h
    have hi : P.info? t = some i := hi
    exact ⟨fun w => by simp [isAgg, run_underlying hu], fun w => by simp [sizeOf, typeInfo, hi]⟩
theorem shp_false {P : Program} {t : TypeId} {n : Nat} (h : shp P t = some (false, n)) : (∀ w, (isAgg t).run P w = .ok false w) ∧ ∀ w, (sizeOf t).run P w = .ok n w := by
  unfold shp at h
  split at h <;> simp at h
  rename_i i d hn1 hn2 hu hi
  subst h
  have hi : P.info? t = some _ := hi
  refine ⟨fun w => ?_, fun w => by simp [sizeOf, typeInfo, hi]⟩
  cases d <;> first
    | (simp [isAgg, run_underlying hu]; done)
    | (exfalso; first | exact hn1 _ rfl | exact hn2 _ _ rfl | exact hn1 _ hu rfl)
theorem shp_size {P : Program} {t : TypeId} {b : Bool} {n : Nat} (h : shp P t = some (b, n)) (w : World) : (sizeOf t).run P w = .ok n w := by
  cases b
  · exact (shp_false h).2 w
  · exact (shp_true h).2 w
theorem shp_info {P : Program} {t : TypeId} {b : Bool} {n : Nat} (h : shp P t = some (b, n)) : ∃ i, P.info? t = some i ∧ i.size = n := by
  unfold shp at h
  split at h <;> simp at h <;> exact ⟨_, by assumption, h.2⟩

/-- Reading a variable of type t whose cells begin so. -/
def loadA (P : Tab) (t : TypeId) (cells : List AV) : Option AV :=
  match shp P t with
  | some (true, n) => if n ≤ cells.length then some (.agg (cells.take n)) else none
  | some (false, _) => cells[0]?
  | none => none

theorem add_off (b o n : Nat) : (⟨b, o, none⟩ : Addr).add n = ⟨b, o + n, none⟩ := Addr.add_lit b o n

theorem loadA_sound {P : Program} {Φ : Nat → Option Obj} {μ : Nat → Pl} {n : Nat} {t : TypeId} {cells : List AV} {x : AV} {vs : List Value} (w : World) (b o : Nat)
    (h : loadA P t cells = some x) (hv : Vs ξ Φ μ n vs cells) (hc : ∀ (j : Nat) v, vs[j]? = some v → w.cell? ⟨b, o + j, none⟩ = some v) :
    ∃ v, (loadVar t ⟨b, o, none⟩).run P w = .ok v w ∧ V ξ Φ μ n v x := by
  unfold loadA at h
  split at h
  · rename_i m hs
    split at h
    · rename_i hle
      simp at h; subst h
      have hl : (vs.take m).length = m := by simp [hv.1, hle]
      refine ⟨.agg (vs.take m).toArray, ?_, ?_⟩
      · have := run_loadCells_list (P := P) w ⟨b, o, none⟩ (vs.take m) (fun j v hj => by
          rw [add_off]
          refine hc j v ?_
          rw [List.getElem?_take] at hj
          split at hj <;> simp_all)
        rw [hl] at this
        simp [loadVar, (shp_true hs).1, (shp_true hs).2, this]
      · have ht := hv.take m
        exact .agg _ _ _ ht.1 ht.2
    · simp at h
  · rename_i m hs
    obtain ⟨v, h1, h2⟩ := hv.get h
    refine ⟨v, ?_, h2⟩
    have := hc 0 v h1
    simp at this
    simp [loadVar, (shp_false hs).1, this]
  · simp at h

/-- The cells that stand behind a pointer. -/
def deref (H : AH) : AV → Option (List AV)
  | .ptr id off => match H.get id with
    | some (.cells _ cs) => some (cs.drop off)
    | _ => none
  | .fptr cells => some cells
  | .gptr g off => match H.gl g with
    | some cs => some (cs.drop off)
    | none => none
  | _ => none

theorem cell_of_row' (w : World) (g j : Nat) (cs : Array Value) (t : TypeId) (fr : Nat × Nat) (hg : w.heap[g]? = some (.cells cs t fr)) : w.cell? ⟨g, j, none⟩ = cs[j]? := by
  simp [World.cell?, hg]

theorem deref_sound {Φ : Nat → Option Obj} {μ : Nat → Pl} {H : AH} {w : World} {v : Value} {x : AV} {cells : List AV} (hR : R ξ Φ μ H w) (h : deref H x = some cells) (hv : V ξ Φ μ H.next v x) :
    ∃ b o vs, v = .pointer (some ⟨b, o, none⟩) ∧ Vs ξ Φ μ H.next vs cells ∧ ∀ (j : Nat) u, vs[j]? = some u → w.cell? ⟨b, o + j, none⟩ = some u := by
  cases hv with
  | ptr _ id off hid =>
    simp only [deref] at h
    split at h
    · rename_i str cs hg
      cases h
      obtain ⟨c, t, vs, h1, h2, h3, h4, h5⟩ := hR.obj _ _ hg
      refine ⟨_, _, vs.drop off, rfl, h5.drop off, fun j u hj => ?_⟩
      rw [cell_of_row' w _ _ _ _ _ h1]
      have := h4 (off + j) u (by simpa using hj)
      rw [← this]; congr 1; omega
    · cases h
  | fptr _ b o cs t fz vs _ hb hl hc hv' =>
    cases h
    refine ⟨b, o, vs, rfl, ⟨hl, fun j v a h1 h2 => (hv' j v a h1 h2).up⟩, fun j u hj => ?_⟩
    rw [cell_of_row' w _ _ _ _ _ (hR.frz _ _ hb)]
    exact hc j u hj
  | gptr _ g off =>
    simp only [deref] at h
    split at h
    · rename_i cs hg
      cases h
      obtain ⟨c, t, fz, vs, h1, h2, h3⟩ := hR.glob _ _ hg
      have h3' : Vs ξ Φ μ H.next vs cs := ⟨h3.1, fun j v a e1 e2 => (h3.2 j v a e1 e2).up⟩
      refine ⟨g, off, vs.drop off, rfl, h3'.drop off, fun j u hj => ?_⟩
      rw [cell_of_row' w _ _ _ _ _ (hR.frz _ _ h1)]
      exact h2 (off + j) u (by simpa using hj)
    · cases h
  | _ => cases h

/-- Numbers. -/
def intA (op : BinOp) (k : IntKind) (a : Int) (k' : IntKind) (b : Int) : Option AV :=
  match op with
  | .shl => if b < 0 then none else some (.int k (k.wrap (a * 2 ^ (min b.toNat k.bits))))
  | .shr => if b < 0 then none else some (.int k (a.fdiv (2 ^ (min b.toNat k.bits))))
  | op => if k = k' then
      match op with
      | .add => some (.int k (k.wrap (a + b)))
      | .sub => some (.int k (k.wrap (a - b)))
      | .mul => some (.int k (k.wrap (a * b)))
      | .quo => if b = 0 then none else some (.int k (k.wrap (a.tdiv b)))
      | .rem => if b = 0 then none else some (.int k (a.tmod b))
      | .and => some (.int k (k.wrap (BitVec.ofInt k.bits a &&& BitVec.ofInt k.bits b).toNat))
      | .or => some (.int k (k.wrap (BitVec.ofInt k.bits a ||| BitVec.ofInt k.bits b).toNat))
      | .xor => some (.int k (k.wrap (BitVec.ofInt k.bits a ^^^ BitVec.ofInt k.bits b).toNat))
      | .andNot => some (.int k (k.wrap (BitVec.ofInt k.bits a &&& ~~~BitVec.ofInt k.bits b).toNat))
      | .eql => some (.bool (a == b))
      | .neq => some (.bool (a != b))
      | .lss => some (.bool (a < b))
      | .leq => some (.bool (a ≤ b))
      | .gtr => some (.bool (a > b))
      | .geq => some (.bool (a ≥ b))
      | _ => none
    else none

theorem intA_sound {P : Program} {Φ : Nat → Option Obj} {μ : Nat → Pl} {n : Nat} {op : BinOp} {k k' : IntKind} {a b : Int} {x : AV} (t : TypeId) (h : intA op k a k' b = some x) (w : World) :
    ∃ v, (binOp op t (.int k a) (.int k' b)).run P w = .ok v w ∧ V ξ Φ μ n v x := by
  cases op <;> simp only [intA] at h
  case shl => split at h <;> simp at h; subst h; rename_i hb; exact ⟨.int k _, by simp [binOp, Op.shift, hb], .int _ _ _⟩
  case shr => split at h <;> simp at h; subst h; rename_i hb; exact ⟨.int k _, by simp [binOp, Op.shift, hb], .int _ _ _⟩
  all_goals
    split at h
    · rename_i hk
      subst hk
      first
        | (simp only [Option.some.injEq] at h; subst h
           first
             | exact ⟨.int k _, by simp only [binOp, Op.intArith, Op.intBits, ne_eq, not_true_eq_false, ↓reduceIte, Sem.run_pure], .int _ _ _⟩
             | exact ⟨.bool _, by simp only [binOp, Op.intCmp, ne_eq, not_true_eq_false, ↓reduceIte, Sem.run_pure], .bool _ _⟩)
        | (split at h
           · simp at h
           · rename_i hb
             simp only [Option.some.injEq] at h; subst h
             exact ⟨.int k _, by simp only [binOp, Op.intDiv, hb, ne_eq, not_true_eq_false, ↓reduceIte, Sem.run_pure], .int _ _ _⟩)
    · simp at h

def bytes (s : ByteArray) : List UInt8 := s.data.toList
theorem toList_loop (s : ByteArray) : ∀ (n i : Nat) (r : List UInt8), n = s.size - i → ByteArray.toList.loop s i r = r.reverse ++ s.data.toList.drop i := by
  intro n
  induction n with
  | zero =>
    intro i r h
    unfold ByteArray.toList.loop
    have hs : s.size = s.data.size := rfl
    rw [if_neg (by omega)]
    have : s.data.toList.drop i = [] := List.drop_eq_nil_of_le (by simp; omega)
    simp [this]
  | succ n ih =>
    intro i r h
    unfold ByteArray.toList.loop
    have hs : s.size = s.data.size := rfl
    rw [if_pos (by omega), ih (i + 1) _ (by omega)]
    have hi : i < s.data.toList.length := by simp; omega
    rw [List.drop_eq_getElem_cons hi]
    have hg : s.get! i = s.data.toList[i] := by
      have h2 : i < s.data.size := by omega
      show s.data[i]! = _
      rw [getElem!_pos s.data i h2]; simp
    simp [hg]
theorem toList_eq (s : ByteArray) : s.toList = bytes s := by
  unfold ByteArray.toList
  rw [toList_loop s _ 0 [] rfl]
  simp [bytes]
theorem bytes_inj {a b : ByteArray} (h : bytes a = bytes b) : a = b := by
  cases a; cases b; simp [bytes] at h; simp [h]

/-- Strings. -/
def strA (op : BinOp) (a b : ByteArray) : Option AV :=
  match op with
  | .add => if a.size + b.size ≤ 9223372036854775807 then some (.str (a ++ b)) else none
  | .eql => some (.bool (decide (a = b)))
  | .neq => some (.bool (!decide (a = b)))
  | .lss => some (.bool (Op.bytesLess (bytes a) (bytes b)))
  | .leq => some (.bool (Op.bytesLess (bytes a) (bytes b) || decide (a = b)))
  | .gtr => some (.bool (!(Op.bytesLess (bytes a) (bytes b) || decide (a = b))))
  | .geq => some (.bool (!Op.bytesLess (bytes a) (bytes b)))
  | _ => none
theorem beq_bytes (a b : ByteArray) : (bytes a == bytes b) = decide (a = b) := by
  rw [Bool.eq_iff_iff]; simp
  exact ⟨bytes_inj, fun h => by rw [h]⟩
theorem strA_sound {P : Program} {Φ : Nat → Option Obj} {μ : Nat → Pl} {n : Nat} {op : BinOp} {a b : ByteArray} {x : AV} (t : TypeId) (h : strA op a b = some x) (w : World) :
    ∃ v, (binOp op t (.string a) (.string b)).run P w = .ok v w ∧ V ξ Φ μ n v x := by
  cases op <;> simp only [strA] at h
  case add =>
    split at h
    · rename_i hle
      simp at h; subst h
      refine ⟨_, ?_, .str _ _⟩
      simp [binOp, Op.stringOp]
      omega
    · simp at h
  all_goals first
    | (simp at h; done)
    | (simp only [Option.some.injEq] at h; subst h; refine ⟨_, ?_, .bool _ _⟩; simp only [binOp, Op.stringOp, toList_eq, beq_bytes, Sem.run_pure]; done)

/-- '==' at other values: bools; nil against an interface value, a pointer, a function. -/
def eqA (P : Tab) (t : TypeId) (cx cy : Bool) (x y : AV) : Option Bool :=
  match P.underlying t with
  | some .bool => match x, y with
    | .bool a, .bool b => some (a == b)
    | _, _ => none
  | some (.interface _) => match x, y with
    | .niliface, .niliface => if cx || cy then some true else none
    | .niliface, .iface _ _ => some false
    | .iface _ _, .niliface => some false
    | _, _ => none
  | some (.pointer _) => match x, y with
    | .nilptr, .nilptr => some true
    | .nilptr, .ptr _ _ | .nilptr, .fptr _ => some false
    | .ptr _ _, .nilptr | .fptr _, .nilptr => some false
    | _, _ => none
  | some (.func _ _ _) => match x, y with
    | .nilfunc, .nilfunc => some true
    | .nilfunc, .func _ _ _ => some false
    | .func _ _ _, .nilfunc => some false
    | _, _ => none
  | some (.slice _) => match x, y with
    | .nilslice, .nilslice => some true
    | .nilslice, .eslice _ | .eslice _, .nilslice => some false
    | .nilslice, .slice _ _ _ _ _ _ | .nilslice, .fslice _ (_ :: _) _ => some false
    | .slice _ _ _ _ _ _, .nilslice | .fslice _ (_ :: _) _, .nilslice => some false
    | _, _ => none
  | some (.map _ _) => match x, y with
    | .nilmap, .nilmap => some true
    | .nilmap, .map _ => some false
    | .map _, .nilmap => some false
    | _, _ => none
  | _ => none
theorem eqA_in {P : Program} {Φ : Nat → Option Obj} {μ : Nat → Pl} {n : Nat} {t : TypeId} {x y : AV} {u v : Value} {b cx cy : Bool} (h : eqA P t cx cy x y = some b)
    (hx : V ξ Φ μ n u x) (hy : V ξ Φ μ n v y) (d : Nat) (w : World) : (Op.equalIn (d + 1) t u v).run P w = .ok b w := by
  unfold eqA at h
  split at h
  all_goals (try rename_i hu)
  · split at h <;> cases h
    cases hx; cases hy
    simp only [Op.equalIn, Sem.run_bind, run_underlying hu, Result.andThen_ok, Sem.run_pure]
  · split at h <;> first | (cases h; done) | skip
    · split at h <;> cases h
      cases hx; cases hy
      simp only [Op.equalIn, Sem.run_bind, run_underlying hu, Result.andThen_ok, Sem.run_pure]
    all_goals
      cases h
      cases hx; cases hy
      simp only [Op.equalIn, Sem.run_bind, run_underlying hu, Result.andThen_ok, Sem.run_pure]
  · split at h <;> cases h
    all_goals
      cases hx; cases hy
      simp only [Op.equalIn, Sem.run_bind, run_underlying hu, Result.andThen_ok, Sem.run_pure, Option.isNone]
  · split at h <;> cases h
    all_goals
      cases hx; cases hy
      simp only [Op.equalIn, Sem.run_bind, run_underlying hu, Result.andThen_ok, Sem.run_pure]
  · split at h <;> cases h
    all_goals
      cases hx; cases hy
      simp only [Op.equalIn, Sem.run_bind, run_underlying hu, Result.andThen_ok, Sem.run_pure, Option.isNone]
  · split at h <;> cases h
    all_goals
      cases hx; cases hy
      simp only [Op.equalIn, Sem.run_bind, run_underlying hu, Result.andThen_ok, Sem.run_pure, Option.isNone]
  · cases h
theorem eqA_sound {P : Program} {Φ : Nat → Option Obj} {μ : Nat → Pl} {n : Nat} {t : TypeId} {x y : AV} {u v : Value} {b cx cy : Bool} (h : eqA P t cx cy x y = some b)
    (hx : V ξ Φ μ n u x) (hy : V ξ Φ μ n v y) (w : World) : (Op.equal t u v).run P w = .ok b w := eqA_in h hx hy 9999 w

def isConst : Operand → Bool
  | .const _ => true
  | _ => false

def binA (P : Tab) (op : BinOp) (t : TypeId) (cx cy : Bool) (x y : AV) : Option AV :=
  match x, y with
  | .int k a, .int k' b => intA op k a k' b
  | .str a, .str b => strA op a b
  | x, y => match op with
    | .eql => (eqA P t cx cy x y).map .bool
    | .neq => (eqA P t cx cy x y).map fun b => .bool (!b)
    | _ => none

theorem binOp_eql_other {t : TypeId} {u v : Value} {x y : AV} {P : Program} {Φ : Nat → Option Obj} {μ : Nat → Pl} {n : Nat} {cx cy : Bool} {b : Bool} (h : eqA P t cx cy x y = some b)
    (hx : V ξ Φ μ n u x) (hy : V ξ Φ μ n v y) : binOp .eql t u v = (do pure (.bool (← Op.equal t u v))) ∧ binOp .neq t u v = (do pure (.bool (!(← Op.equal t u v)))) := by
  unfold eqA at h
  split at h <;> (try (cases h; done)) <;> split at h <;> (try (cases h; done)) <;> cases hx <;> cases hy <;> exact ⟨rfl, rfl⟩

theorem eqGuard_ok {P : Program} {op : BinOp} {t : TypeId} {ox oy : Operand} {u v : Value} {x y : AV} {Φ : Nat → Option Obj} {μ : Nat → Pl} {n : Nat} {b : Bool}
    (h : eqA P t (isConst ox) (isConst oy) x y = some b) (hx : V ξ Φ μ n u x) (hy : V ξ Φ μ n v y) (w : World) : (eqGuard op t ox oy u v).run P w = .ok () w := by
  unfold eqA at h
  split at h <;> (try (cases h; done)) <;> split at h <;> (try (cases h; done)) <;> cases hx <;> cases hy <;> (try (cases op <;> rfl; done))
  split at h
  · rename_i hc
    simp only [Bool.or_eq_true] at hc
    rcases hc with hc | hc
    · cases ox <;> simp [isConst] at hc
      cases op <;> rfl
    · cases oy <;> simp [isConst] at hc
      cases ox <;> cases op <;> rfl
  · cases h

theorem binA_sound {P : Program} {Φ : Nat → Option Obj} {μ : Nat → Pl} {n : Nat} {op : BinOp} {t : TypeId} {ox oy : Operand} {x y z : AV} {u v : Value}
    (h : binA P op t (isConst ox) (isConst oy) x y = some z) (hx : V ξ Φ μ n u x) (hy : V ξ Φ μ n v y) (w : World) :
    ∃ r, (do eqGuard op t ox oy u v; binOp op t u v : Sem Value).run P w = .ok r w ∧ V ξ Φ μ n r z := by
  unfold binA at h
  split at h
  · cases hx; cases hy
    obtain ⟨r, h1, h2⟩ := intA_sound (P := P) (ξ := ξ) (Φ := Φ) (μ := μ) (n := n) t h w
    exact ⟨r, by simp [eqGuard_at_int, h1], h2⟩
  · cases hx; cases hy
    obtain ⟨r, h1, h2⟩ := strA_sound (P := P) (ξ := ξ) (Φ := Φ) (μ := μ) (n := n) t h w
    exact ⟨r, by simp [eqGuard_at_string, h1], h2⟩
  · split at h
    · cases he : eqA P t (isConst ox) (isConst oy) x y with
      | none => simp [he] at h
      | some b =>
        simp [he] at h; subst h
        exact ⟨.bool b, by simp [eqGuard_ok he hx hy, (binOp_eql_other he hx hy).1, eqA_sound he hx hy], .bool _ _⟩
    · cases he : eqA P t (isConst ox) (isConst oy) x y with
      | none => simp [he] at h
      | some b =>
        simp [he] at h; subst h
        exact ⟨.bool (!b), by simp [eqGuard_ok he hx hy, (binOp_eql_other he hx hy).2, eqA_sound he hx hy], .bool _ _⟩
    · simp at h
end Go.Ai
end
