/- THE EVALUATOR, WRITTEN SO THAT THE KERNEL RUNS IT FAST: every choice's arms are closed terms. It is the evaluator of before: 'runF_eq'. -/
import Derived.Test.YtaghpkljmnpjoaaGreatDoorEM
set_option linter.unusedVariables false
set_option linter.unusedSimpArgs false
noncomputable section
namespace Go.Ai
variable {ξ : Env}

/-- Balanced trees, looked up by place. -/
inductive BT (α : Type) where
  | nil
  | leaf (a : α)
  | node (n : Nat) (l r : BT α)
namespace BT
variable {α : Type}
noncomputable def get (t : BT α) : Nat → Option α :=
  BT.rec (motive := fun _ => Nat → Option α) (fun _ => none) (fun a i => bif Nat.beq i 0 then some a else none)
    (fun n _ _ gl gr i => bif Nat.ble n i then gr (Nat.sub i n) else gl i) t
def list : BT α → List α
  | nil => []
  | leaf a => [a]
  | node _ l r => l.list ++ r.list
def sz : BT α → Nat
  | nil => 0
  | leaf _ => 1
  | node _ l r => Nat.add l.sz r.sz
def ok : BT α → Bool
  | nil => true
  | leaf _ => true
  | node n l r => Nat.beq n l.sz && (l.ok && r.ok)
theorem sz_list : ∀ t : BT α, t.sz = t.list.length
  | nil => rfl
  | leaf _ => rfl
  | node n l r => by simp [sz, list, sz_list l, sz_list r]
theorem get_list : ∀ {t : BT α} (_ : t.ok = true) (i : Nat), t.get i = t.list[i]?
  | nil, _, i => by simp [list]; rfl
  | leaf a, _, i => by
    cases i with
    | zero => rfl
    | succ i => simp [list]; rfl
  | node n l r, h, i => by
    simp only [ok, Bool.and_eq_true] at h
    have hn : n = l.list.length := (Nat.eq_of_beq_eq_true h.1).trans (sz_list l)
    have e : (node n l r).get i = bif Nat.ble n i then r.get (Nat.sub i n) else l.get i := rfl
    rw [e]
    cases hb : Nat.ble n i
    · have : i < n := Nat.lt_of_not_le (fun hc => by rw [Nat.ble_eq_true_of_le hc] at hb; cases hb)
      simp only [cond_false, list, get_list h.2.1]
      rw [List.getElem?_append_left (by omega)]
    · have : n ≤ i := Nat.le_of_ble_eq_true hb
      simp only [cond_true, list, get_list h.2.2]
      rw [List.getElem?_append_right (by omega), hn]; rfl
end BT

/-- The tables, out of two that are looked up fast. -/
def undOf (info : TypeId → Option TypeInfo) (t : TypeId) : Option TypeDesc :=
  match info t with
  | some ⟨.named _ u, _, _, _, _, _, _, _, _, _⟩ => (info u).map (·.desc)
  | some i => some i.desc
  | none => none
def Tab.out (info : TypeId → Option TypeInfo) (fnAt : Nat → Option Func) : Tab := ⟨undOf info, info, fnAt⟩
theorem Tab.out_eq {P : Program} {info : TypeId → Option TypeInfo} {fnAt : Nat → Option Func} (hi : ∀ t, info t = P.info? t) (hf : ∀ g, fnAt g = P.funcs[g]?) : Tab.out info fnAt = Tab.of P := by
  have h1 : info = P.info? := funext hi
  have h2 : fnAt = fun g => P.funcs[g]? := funext hf
  subst h1; subst h2
  rfl
noncomputable def infoF (T : BT TypeInfo) (P : Program) (t : TypeId) : Option TypeInfo :=
  Option.casesOn (motive := fun _ => Option TypeInfo) (T.get t) (P.info? t) some
theorem infoF_eq {T : BT TypeInfo} {P : Program} (h : T.ok = true) (hl : T.list = P.types.toList) (t : TypeId) : infoF T P t = P.info? t := by
  unfold infoF
  cases hg : T.get t with
  | none => rfl
  | some i =>
    rw [BT.get_list h, hl] at hg
    have hlt : t < P.types.size := by
      have := (List.getElem?_eq_some_iff.1 hg).1
      simpa using this
    have : P.types[t]? = some i := by simpa using hg
    have h2 := (Array.getElem?_eq_some_iff.1 this).2
    simp [Tables.info?, hlt, h2]

/-- A question that a truth value asks. -/
noncomputable def askF (z : AV) : X → (X → AV → Bool) → Bool :=
  AV.casesOn (motive_1 := fun _ => X → (X → AV → Bool) → Bool) z (fun x K => K x .undef) (fun b x K => K x (.bool b)) (fun k n x K => K x (.int k n)) (fun s x K => K x (.str s)) (fun x K => K x .nilptr)
    (fun a b x K => K x (.ptr a b)) (fun a x K => K x (.fptr a)) (fun a b c d e f x K => K x (.slice a b c d e f)) (fun a b c x K => K x (.fslice a b c)) (fun x K => K x .nilslice) (fun a x K => K x (.eslice a)) (fun x K => K x .nilmap)
    (fun a x K => K x (.map a)) (fun x K => K x .nilfunc) (fun a b c x K => K x (.func a b c)) (fun x K => K x .niliface) (fun t v x K => K x (.iface t v)) (fun a x K => K x (.agg a)) (fun a x K => K x (.tuple a))
    (fun s x K => askR x (.sym s) K) (fun a x K => K x (.yield a)) (fun a b x K => K x (.gptr a b)) (fun a x K => K x (.vslice a))
theorem askF_eq (z : AV) (x : X) (K : X → AV → Bool) : askF z x K = askR x z K := by
  cases z <;> rfl

/- VALUES -/
def pPick (F : AF) (c a b : Operand) : Option AV :=
  match F.eval c with
  | some (.bool true) => F.eval a
  | some (.bool false) => F.eval b
  | _ => none
def pBuild (D : Tab) (F : AF) (t : TypeId) (parts : Array (Nat × Operand)) : Option AV :=
  match F.parts parts.toList with
  | some xs => buildA D t xs
  | none => none
def pLoad (D : Tab) (H : AH) (F : AF) (t : TypeId) (a : Operand) : Option AV :=
  match F.eval a with
  | some x => match deref H x with
    | some cells => loadA D t cells
    | none => none
  | none => none
def pNil (F : AF) (x : Operand) : Option AV :=
  match F.eval x with
  | some a => if nilOk a then some a else none
  | none => none
def pBin (D : Tab) (F : AF) (op : BinOp) (t : TypeId) (x y : Operand) : Option AV :=
  match F.eval x, F.eval y with
  | some a, some b => binA D op t (isConst x) (isConst y) a b
  | _, _ => none
def pUn (F : AF) (op : UnOp) (x : Operand) : Option AV :=
  match F.eval x with
  | some a => unA op a
  | none => none
def pConv (D : Tab) (H : AH) (F : AF) (s d : TypeId) (x : Operand) : Option AV :=
  match F.eval x with
  | some a => convA D H s d a.deN
  | none => none
def pIface (D : Tab) (F : AF) (t : TypeId) (x : Operand) : Option AV :=
  match F.eval x with
  | some a => match D.underlying t with
    | some (.interface _) => none
    | some _ => some (.iface t a)
    | none => none
  | none => none
def pFunc (F : AF) (fn : Fn) (first cap : Array Operand) : Option AV :=
  match F.evals first.toList, F.evals cap.toList with
  | some a, some b => some (.func fn a b)
  | _, _ => none
def pSlice (D : Tab) (F : AF) (t : TypeId) (x : Operand) (lo hi mx : Option Operand) : Option AV :=
  match F.eval x, F.evalO lo, F.evalO hi, F.evalO mx with
  | some a, some l, some h, some m => if m.isSome → h.isSome then sliceA D t a.deN l h m else none
  | _, _, _, _ => none
def pFieldAddr (D : Tab) (F : AF) (s : TypeId) (x : Operand) (f : Nat) : Option AV :=
  match F.eval x with
  | some a => fieldAddrA D s a f
  | none => none
def pField (D : Tab) (F : AF) (s : TypeId) (x : Operand) (f : Nat) : Option AV :=
  match F.eval x with
  | some a => fieldA D s a f
  | none => none
def pIndexAddr (D : Tab) (F : AF) (t : TypeId) (x i : Operand) : Option AV :=
  match F.eval x, F.eval i with
  | some a, some b => indexAddrA D t a b
  | _, _ => none
def pIndex (D : Tab) (F : AF) (t : TypeId) (x i : Operand) : Option AV :=
  match F.eval x, F.eval i with
  | some a, some b => indexA D t a b
  | _, _ => none
def pLookup (D : Tab) (H : AH) (F : AF) (t : TypeId) (m k : Operand) (ok : Bool) : Option AV :=
  match F.eval m, F.eval k with
  | some a, some b => lookupA D H t a b ok
  | _, _ => none
def pExtract (F : AF) (x : Operand) (i : Nat) : Option AV :=
  match F.eval x with
  | some a => extractA a i
  | none => none
/-- What is left when 'pop' has no answer. -/
def restP (P : Tab) (op : Op) (x : X) (H : AH) (F : AF) : Option AV :=
  match symA P x F op with
  | some z => some z
  | none => match ptrA P H F op with
    | some z => some z
    | none => match sliceArr P H F op with
      | some z => some z
      | none => entryA H F op
noncomputable def orP (o : Option AV) (op : Op) (D : Tab) (x : X) (H : AH) (F : AF) : Option AV :=
  Option.casesOn (motive := fun _ => Option AV) o (restP D op x H F) some
theorem popY_or {P : Tab} {x : X} {H : AH} {F : AF} {op : Op} : popY P x H F op = orP (pop P H F op) op P x H F := by
  unfold popY popX orP restP
  cases pop P H F op with
  | none => rfl
  | some z => rfl
abbrev PArm := Tab → X → AH → AF → Option AV
def isAC (b : Builtin) : Bool :=
  Builtin.casesOn (motive := fun _ => Bool) b true false false false false true true false false false false false false false false false false false false false false false false false false false
def pBuiltin (D : Tab) (H : AH) (F : AF) (c : Call) : Option AV :=
  match c with
  | { callee := .builtin .len, args := as, argTypes := ts } => match as.toList, ts.toList with
    | [x], [t] => match F.eval x with
      | some a => lenA D H t a.deN
      | none => none
    | _, _ => none
  | { callee := .builtin .min, args := as, argTypes := _ } => match F.evals as.toList with
    | some (a :: r) => mmA false a r
    | _ => none
  | { callee := .builtin .max, args := as, argTypes := _ } => match F.evals as.toList with
    | some (a :: r) => mmA true a r
    | _ => none
  | _ => none
noncomputable def pCall (c : Call) : PArm :=
  Callee.rec (motive := fun _ => Call → PArm) (fun _ c D x H F => popY D x H F (.call c)) (fun _ _ c D x H F => popY D x H F (.call c))
    (fun b c D x H F => bif isAC b then none else orP (pBuiltin D H F c) (.call c) D x H F) c.callee c
theorem pCall_eq (c : Call) (D : Tab) (x : X) (H : AH) (F : AF) : pCall c D x H F = popY D x H F (.call c) := by
  obtain ⟨callee, as, ts⟩ := c
  cases callee with
  | value f => rfl
  | invoke f n => rfl
  | builtin b => cases b <;> first | rfl | exact popY_or.symm
noncomputable def popF (op : Op) : PArm :=
  Op.rec (motive := fun _ => PArm)
    (fun y D x H F => orP (F.eval y) (.move y) D x H F)
    (fun y D x H F => orP (F.eval y) (.assign y) D x H F)
    (fun c a b D x H F => orP (pPick F c a b) (.pick c a b) D x H F)
    (fun _ _ _ _ _ => none)
    (fun _ _ _ _ _ _ => none)
    (fun t ps D x H F => orP (pBuild D F t ps) (.build t ps) D x H F)
    (fun _ _ _ _ _ _ _ => none)
    (fun _ _ _ _ _ _ _ _ => none)
    (fun t a D x H F => orP (pLoad D H F t a) (.load t a) D x H F)
    (fun _ _ _ _ _ _ _ => none)
    (fun n D x H F => popY D x H F (.ready n))
    (fun n D x H F => popY D x H F (.waits n))
    (fun y D x H F => orP (pNil F y) (.nilCheck y) D x H F)
    (fun b t y z u D x H F => orP (pBin D F b t y z) (.binOp b t y z u) D x H F)
    (fun u t y D x H F => orP (pUn F u y) (.unOp u t y) D x H F)
    (fun s d y D x H F => orP (pConv D H F s d y) (.convert s d y) D x H F)
    (fun t y D x H F => popY D x H F (.sliceToArrayPointer t y))
    (fun t y D x H F => orP (pIface D F t y) (.makeInterface t y) D x H F)
    (fun f a b D x H F => orP (pFunc F f a b) (.makeFunc f a b) D x H F)
    (fun _ _ _ _ _ _ => none)
    (fun t y D x H F => popY D x H F (.makeChan t y))
    (fun _ _ _ _ _ _ _ => none)
    (fun t y a b c D x H F => orP (pSlice D F t y a b c) (.slice t y a b c) D x H F)
    (fun t y f D x H F => orP (pFieldAddr D F t y f) (.fieldAddr t y f) D x H F)
    (fun t y f D x H F => orP (pField D F t y f) (.field t y f) D x H F)
    (fun t y i D x H F => orP (pIndexAddr D F t y i) (.indexAddr t y i) D x H F)
    (fun t y i D x H F => orP (pIndex D F t y i) (.index t y i) D x H F)
    (fun t m k ok D x H F => orP (pLookup D H F t m k ok) (.lookup t m k ok) D x H F)
    (fun _ _ _ _ _ _ _ _ => none)
    (fun t m k D x H F => popY D x H F (.mapEntry t m k))
    (fun t m k v D x H F => popY D x H F (.entryStore t m k v))
    (fun _ _ _ _ _ _ => none)
    (fun _ _ _ _ _ _ => none)
    (fun y D x H F => popY D x H F (.entry y))
    (fun y t u b D x H F => popY D x H F (.typeAssert y t u b))
    (fun y i D x H F => orP (pExtract F y i) (.extract y i) D x H F)
    pCall
    (fun c D x H F => popY D x H F (.go c))
    (fun c D x H F => popY D x H F (.defer c))
    (fun y D x H F => popY D x H F (.panic y))
    (fun y z D x H F => popY D x H F (.send y z))
    (fun t y b D x H F => popY D x H F (.recv t y b))
    (fun cs b D x H F => popY D x H F (.select cs b))
    op
theorem popF_eq (op : Op) (D : Tab) (x : X) (H : AH) (F : AF) : popF op D x H F = popY D x H F op := by
  cases op <;> first | exact popY_or.symm | exact pCall_eq _ _ _ _ _ | rfl

/- EFFECTS -/
def eBox (H : AH) (F : AF) (x : Operand) : Option (AV × AH) :=
  match F.eval x with
  | some a => if a.flat then some (.ptr H.next 0, H.push (.cells false a.cells)) else none
  | none => none
def eBS (D : Tab) (H : AH) (F : AF) (t : TypeId) (len : Nat) (parts : Array (Nat × Operand)) : Option (AV × AH) :=
  match F.parts parts.toList with
  | some xs => buildSliceA D H t len xs
  | none => none
def eStore (D : Tab) (H : AH) (F : AF) (t : TypeId) (a x : Operand) : Option (AV × AH) :=
  match F.eval a, F.eval x with
  | some p, some v => match storeA D H t p v with
    | some H' => some (.undef, H')
    | none => none
  | _, _ => none
def eMM (D : Tab) (H : AH) (F : AF) (t : TypeId) (r : Option Operand) : Option (AV × AH) :=
  match F.evalO r with
  | some x => makeMapA D H t x
  | none => none
def eMS (D : Tab) (H : AH) (F : AF) (t : TypeId) (l c : Operand) : Option (AV × AH) :=
  match F.eval l, F.eval c with
  | some a, some b => makeA D H t a b
  | _, _ => none
def eMU (D : Tab) (H : AH) (F : AF) (t : TypeId) (m k v : Operand) : Option (AV × AH) :=
  match F.eval m, F.eval k, F.eval v with
  | some a, some b, some c => match mapPut D H t a b c with
    | some H' => some (.undef, H')
    | none => none
  | _, _, _ => none
def eAppend (D : Tab) (H : AH) (F : AF) (as : List Operand) (ts : List TypeId) : Option (AV × AH) :=
  match as, ts with
  | [s, x], [t, t2] => match F.eval s, F.eval x with
    | some a, some b => appendA D H t t2 a.deN b.deN
    | _, _ => none
  | _, _ => none
def eCopy (D : Tab) (H : AH) (F : AF) (as : List Operand) (ts : List TypeId) : Option (AV × AH) :=
  match as, ts with
  | [s, x], [t, t2] => match F.eval s, F.eval x with
    | some a, some b => copyA D H t t2 a.deN b.deN
    | _, _ => none
  | _, _ => none
/-- What is left when 'eop' has no answer. -/
def restE (P : Tab) (op : Op) (H : AH) (F : AF) : Option (AV × AH) :=
  match putF P H F op with
  | some H' => some (.undef, H')
  | none => match clrA P H F op with
    | some H' => some (.tuple [], H')
    | none => none
noncomputable def orE (o : Option (AV × AH)) (op : Op) (D : Tab) (H : AH) (F : AF) : Option (AV × AH) :=
  Option.casesOn (motive := fun _ => Option (AV × AH)) o (restE D op H F) some
theorem eopX_or {P : Tab} {H : AH} {F : AF} {op : Op} : eopX P H F op = orE (eop P H F op) op P H F := by
  unfold eopX orE restE
  cases eop P H F op with
  | none => rfl
  | some z => rfl
abbrev EArm := Tab → AH → AF → Option (AV × AH)
def slowC (c : Call) (D : Tab) (H : AH) (F : AF) : Option (AV × AH) := eopX D H F (.call c)
noncomputable def eBuiltin (b : Builtin) : Call → EArm :=
  Builtin.rec (motive := fun _ => Call → EArm) (fun c D H F => orE (eAppend D H F c.args.toList c.argTypes.toList) (.call c) D H F)
    slowC slowC slowC slowC (fun c D H F => orE (eCopy D H F c.args.toList c.argTypes.toList) (.call c) D H F)
    slowC slowC slowC slowC slowC slowC slowC slowC slowC slowC slowC slowC slowC slowC slowC slowC slowC slowC slowC slowC b
noncomputable def eCall (c : Call) : EArm :=
  Callee.rec (motive := fun _ => Call → EArm) (fun _ c D H F => eopX D H F (.call c)) (fun _ _ c D H F => eopX D H F (.call c)) (fun b c D H F => eBuiltin b c D H F) c.callee c
theorem eCall_eq (c : Call) (D : Tab) (H : AH) (F : AF) : eCall c D H F = eopX D H F (.call c) := by
  obtain ⟨callee, as, ts⟩ := c
  cases callee with
  | value f => rfl
  | invoke f n => rfl
  | builtin b => cases b <;> first | rfl | exact eopX_or.symm
noncomputable def eopF (op : Op) : EArm :=
  Op.rec (motive := fun _ => EArm)
    (fun y D H F => eopX D H F (.move y))
    (fun y D H F => eopX D H F (.assign y))
    (fun c a b D H F => eopX D H F (.pick c a b))
    (fun t D H F => orE (allocA D H t) (.alloc t) D H F)
    (fun t y D H F => orE (eBox H F y) (.box t y) D H F)
    (fun t ps D H F => eopX D H F (.build t ps))
    (fun t n ps D H F => orE (eBS D H F t n ps) (.buildSlice t n ps) D H F)
    (fun t m k v D H F => orE (eMU D H F t m k v) (.insert t m k v) D H F)
    (fun t a D H F => eopX D H F (.load t a))
    (fun t a v D H F => orE (eStore D H F t a v) (.store t a v) D H F)
    (fun n D H F => eopX D H F (.ready n))
    (fun n D H F => eopX D H F (.waits n))
    (fun y D H F => eopX D H F (.nilCheck y))
    (fun b t y z u D H F => eopX D H F (.binOp b t y z u))
    (fun u t y D H F => eopX D H F (.unOp u t y))
    (fun s d y D H F => eopX D H F (.convert s d y))
    (fun t y D H F => eopX D H F (.sliceToArrayPointer t y))
    (fun t y D H F => eopX D H F (.makeInterface t y))
    (fun f a b D H F => eopX D H F (.makeFunc f a b))
    (fun t r D H F => orE (eMM D H F t r) (.makeMap t r) D H F)
    (fun t y D H F => eopX D H F (.makeChan t y))
    (fun t l c D H F => orE (eMS D H F t l c) (.makeSlice t l c) D H F)
    (fun t y a b c D H F => eopX D H F (.slice t y a b c))
    (fun t y f D H F => eopX D H F (.fieldAddr t y f))
    (fun t y f D H F => eopX D H F (.field t y f))
    (fun t y i D H F => eopX D H F (.indexAddr t y i))
    (fun t y i D H F => eopX D H F (.index t y i))
    (fun t m k ok D H F => eopX D H F (.lookup t m k ok))
    (fun t m k v D H F => orE (eMU D H F t m k v) (.mapUpdate t m k v) D H F)
    (fun t m k D H F => eopX D H F (.mapEntry t m k))
    (fun t m k v D H F => eopX D H F (.entryStore t m k v))
    (fun t y D H F => eopX D H F (.range t y))
    (fun y b D H F => eopX D H F (.next y b))
    (fun y D H F => eopX D H F (.entry y))
    (fun y t u b D H F => eopX D H F (.typeAssert y t u b))
    (fun y i D H F => eopX D H F (.extract y i))
    eCall
    (fun c D H F => eopX D H F (.go c))
    (fun c D H F => eopX D H F (.defer c))
    (fun y D H F => eopX D H F (.panic y))
    (fun y z D H F => eopX D H F (.send y z))
    (fun t y b D H F => eopX D H F (.recv t y b))
    (fun cs b D H F => eopX D H F (.select cs b))
    op
theorem eopF_eq (op : Op) (D : Tab) (H : AH) (F : AF) : eopF op D H F = eopX D H F op := by
  cases op <;> first | exact eopX_or.symm | exact eCall_eq _ _ _ _ | rfl

/- STEPS -/
abbrev K3 := X → AV → AH → Bool
/-- The last resort: ranges over maps. -/
def nextR (det : Bool) (op : Op) (D : Tab) (x : X) (F : AF) (H : AH) (K : K3) : Bool :=
  match rangeA D H F op with
  | some (z, H') => K x z H'
  | none => match nextA H F op with
    | some l => (!det || Nat.beq l.length 1) && l.all (fun p => K x p.1 p.2)
    | none => false
noncomputable def effG (op : Op) (D : Tab) (det : Bool) (x : X) (F : AF) (H : AH) (K : K3) : Bool :=
  Option.casesOn (motive := fun _ => Bool) (eopF op D H F) (nextR det op D x F H K) (fun r => K x r.1 r.2)
noncomputable def primF (op : Op) (D : Tab) (det : Bool) (x : X) (F : AF) (H : AH) (K : K3) : Bool :=
  Option.casesOn (motive := fun _ => Bool) (popF op D x H F) (effG op D det x F H K) (fun z => askF z x (fun x z => K x z H))
theorem primF_eq (D : Tab) (det : Bool) (o : Oper) (x : X) (F : AF) (H : AH) (K : K3) : primF o.op D det x F H K = primR D det o x F H K := by
  unfold primF primR effG nextR
  rw [popF_eq, eopF_eq]
  cases popY D x H F o.op with
  | some z => exact askF_eq _ _ _
  | none =>
    cases eopX D H F o.op with
    | some r => rfl
    | none => rfl

noncomputable def callB (fn : Func) (c : Code) (rec : Rec) (det : Bool) (g : Nat) (as : List AV) (x : X) (H : AH) (ret : Ret) : Bool :=
  bif Nat.ble as.length fn.ntmps then rec det ⟨g, fn.ntmps, .fn fn.results.toList⟩ (.items [.code c]) x ⟨slots 0 as, []⟩ H ret else false
noncomputable def callF (C : Ctx) (rec : Rec) (det : Bool) (g : Nat) (as : List AV) (x : X) (H : AH) (ret : Ret) : Bool :=
  Option.casesOn (motive := fun _ => Bool) (C.con g x as H)
    (Option.casesOn (motive := fun _ => Bool) (C.fn g) false (fun fn => Option.casesOn (motive := fun _ => Bool) fn.body false (fun c => callB fn c rec det g as x H ret)))
    (fun l => (!det || Nat.beq l.length 1) && l.all (fun p => ret x p.1 p.2))
theorem callF_eq (C : Ctx) (rec : Rec) (det : Bool) (g : Nat) (as : List AV) (x : X) (H : AH) (ret : Ret) : callF C rec det g as x H ret = callR C rec det g as x H ret := by
  unfold callF callR
  cases C.con g x as H with
  | some l => rfl
  | none =>
    cases C.fn g with
    | none => rfl
    | some fn =>
      cases hb : fn.body with
      | none => simp only [hb]
      | some c => simp only [hb]; rfl
/-- Is it a call of a function? -/
noncomputable def fnCall (op : Op) : Option Call :=
  Op.rec (motive := fun _ => Option Call)
    (fun _ => none)
    (fun _ => none)
    (fun _ _ _ => none)
    (fun _ => none)
    (fun _ _ => none)
    (fun _ _ => none)
    (fun _ _ _ => none)
    (fun _ _ _ _ => none)
    (fun _ _ => none)
    (fun _ _ _ => none)
    (fun _ => none)
    (fun _ => none)
    (fun _ => none)
    (fun _ _ _ _ _ => none)
    (fun _ _ _ => none)
    (fun _ _ _ => none)
    (fun _ _ => none)
    (fun _ _ => none)
    (fun _ _ _ => none)
    (fun _ _ => none)
    (fun _ _ => none)
    (fun _ _ _ => none)
    (fun _ _ _ _ _ => none)
    (fun _ _ _ => none)
    (fun _ _ _ => none)
    (fun _ _ _ => none)
    (fun _ _ _ => none)
    (fun _ _ _ _ => none)
    (fun _ _ _ _ => none)
    (fun _ _ _ => none)
    (fun _ _ _ _ => none)
    (fun _ _ => none)
    (fun _ _ => none)
    (fun _ => none)
    (fun _ _ _ _ => none)
    (fun _ _ => none)
    (fun c => bif isBuiltin c then none else some c)
    (fun _ => none)
    (fun _ => none)
    (fun _ => none)
    (fun _ _ => none)
    (fun _ _ _ => none)
    (fun _ _ => none)
    op
noncomputable def operC (c : Call) (C : Ctx) (D : Tab) (rec : Rec) (det : Bool) (x : X) (F : AF) (H : AH) (K : K3) : Bool :=
  Option.casesOn (motive := fun _ => Bool) (calleeA D F c)
    (Option.casesOn (motive := fun _ => Bool) (yieldA F c) false (fun p => yieldR C rec det p.1 p.2 x H K))
    (fun p => callF C rec det p.1 p.2 x H K)
noncomputable def operF (C : Ctx) (D : Tab) (rec : Rec) (det : Bool) (op : Op) (x : X) (F : AF) (H : AH) (K : K3) : Bool :=
  Option.casesOn (motive := fun _ => Bool) (fnCall op) (primF op D det x F H K) (fun c => operC c C D rec det x F H K)
theorem operF_eq (C : Ctx) (D : Tab) (rec : Rec) (det : Bool) (o : Oper) (x : X) (F : AF) (H : AH) (K : K3) : operF C D rec det o.op x F H K = operR C D rec det o x F H K := by
  obtain ⟨dst, op, ty, pos, af, gd⟩ := o
  have hp := fun op => primF_eq D det ⟨dst, op, ty, pos, af, gd⟩ x F H K
  unfold operF operR
  cases op
  case call c =>
    simp only [fnCall]
    cases hb : isBuiltin c
    · simp only [cond_false, operC]
      cases calleeA D F c with
      | some p => exact callF_eq _ _ _ _ _ _ _ _
      | none => cases yieldA F c with
        | some p => rfl
        | none => rfl
    · exact hp (.call c)
  all_goals exact hp _
noncomputable def deferC (op : Op) : Option Call :=
  Op.rec (motive := fun _ => Option Call)
    (fun _ => none)
    (fun _ => none)
    (fun _ _ _ => none)
    (fun _ => none)
    (fun _ _ => none)
    (fun _ _ => none)
    (fun _ _ _ => none)
    (fun _ _ _ _ => none)
    (fun _ _ => none)
    (fun _ _ _ => none)
    (fun _ => none)
    (fun _ => none)
    (fun _ => none)
    (fun _ _ _ _ _ => none)
    (fun _ _ _ => none)
    (fun _ _ _ => none)
    (fun _ _ => none)
    (fun _ _ => none)
    (fun _ _ _ => none)
    (fun _ _ => none)
    (fun _ _ => none)
    (fun _ _ _ => none)
    (fun _ _ _ _ _ => none)
    (fun _ _ _ => none)
    (fun _ _ _ => none)
    (fun _ _ _ => none)
    (fun _ _ _ => none)
    (fun _ _ _ _ => none)
    (fun _ _ _ _ => none)
    (fun _ _ _ => none)
    (fun _ _ _ _ => none)
    (fun _ _ => none)
    (fun _ _ => none)
    (fun _ => none)
    (fun _ _ _ _ => none)
    (fun _ _ => none)
    (fun _ => none)
    (fun _ => none)
    (fun c => some c)
    (fun _ => none)
    (fun _ _ => none)
    (fun _ _ _ => none)
    (fun _ _ => none)
    op
noncomputable def wantF (all : List Oper) (F : AF) (o : Oper) : Option Bool :=
  Option.casesOn (motive := fun _ => Option Bool) o.guard (some true) (fun _ => wantA all F o)
theorem wantF_eq (all : List Oper) (F : AF) (o : Oper) : wantF all F o = wantA all F o := by
  obtain ⟨dst, op, ty, pos, af, gd⟩ := o
  cases gd <;> rfl
def deferR (c : Call) (rec : Rec) (det : Bool) (fi : FI) (all rest : List Oper) (k : List Item) (x : X) (F : AF) (H : AH) (o : Oper) (ret : Ret) : Bool :=
  match fi.lv, deferA F c with
  | .fn _, some d => rec det fi (.ops all rest k) x ({ F with d := d :: F.d }.put o.dst .undef) H ret
  | _, _ => false
noncomputable def opsG (o : Oper) (rest : List Oper) (C : Ctx) (D : Tab) (rec : Rec) (det : Bool) (fi : FI) (all : List Oper) (k : List Item) (x : X) (F : AF) (H : AH) (ret : Ret) : Bool :=
  Option.casesOn (motive := fun _ => Bool) (deferC o.op)
    (operF C D rec det o.op x F H (fun x z H' => rec det fi (.ops all rest k) x (F.put o.dst z) H' ret))
    (fun c => deferR c rec det fi all rest k x F H o ret)
noncomputable def opsW (o : Oper) (rest : List Oper) (C : Ctx) (D : Tab) (rec : Rec) (det : Bool) (fi : FI) (all : List Oper) (k : List Item) (x : X) (F : AF) (H : AH) (ret : Ret) : Bool :=
  Option.casesOn (motive := fun _ => Bool) (wantF all F o) false
    (fun b => Bool.casesOn (motive := fun _ => Bool) b (rec det fi (.ops all rest k) x (F.put o.dst (.tuple [])) H ret) (opsG o rest C D rec det fi all k x F H ret))
noncomputable def opsF (C : Ctx) (D : Tab) (rec : Rec) (det : Bool) (fi : FI) (all rest : List Oper) (k : List Item) (x : X) (F : AF) (H : AH) (ret : Ret) : Bool :=
  List.rec (motive := fun _ => Bool) (rec det fi (.items k) x F H ret) (fun o rest _ => opsW o rest C D rec det fi all k x F H ret) rest
theorem opsF_eq (C : Ctx) (D : Tab) (rec : Rec) (det : Bool) (fi : FI) (all rest : List Oper) (k : List Item) (x : X) (F : AF) (H : AH) (ret : Ret) : opsF C D rec det fi all rest k x F H ret = opsR C D rec det fi all rest k x F H ret := by
  cases rest with
  | nil => rfl
  | cons o rest =>
    show opsW o rest C D rec det fi all k x F H ret = _
    unfold opsW
    rw [wantF_eq]
    simp only [opsR]
    cases wantA all F o with
    | none => rfl
    | some b =>
      cases b with
      | false => rfl
      | true =>
        show opsG o rest C D rec det fi all k x F H ret = _
        unfold opsG
        rw [operF_eq]
        obtain ⟨dst, op, ty, pos, af, gd⟩ := o
        cases op <;> rfl

noncomputable def codeF (C : Ctx) (D : Tab) (rec : Rec) (det : Bool) (fi : FI) (c : Code) (k : List Item) (x : X) (F : AF) (H : AH) (ret : Ret) : Bool :=
  Code.casesOn (motive := fun _ => Ctx → Tab → Rec → Bool → FI → List Item → X → AF → AH → Ret → Bool) c
    (fun C D rec det fi k x F H ret => rec det fi (.items k) x F H ret)
    (fun id ops d C D rec det fi k x F H ret => bif d then codeR C D rec det fi (.region id ops d) k x F H ret else rec det fi (.ops ops.toList ops.toList k) x F H ret)
    (fun a b C D rec det fi k x F H ret => rec det fi (.items (.code a :: .code b :: k)) x F H ret)
    (fun c a b C D rec det fi k x F H ret => codeR C D rec det fi (.cond c a b) k x F H ret)
    (fun id c C D rec det fi k x F H ret => rec det fi (.items (.code c :: .inBlock id :: k)) x F H ret)
    (fun c C D rec det fi k x F H ret => rec det fi (.items (.code c :: .inLoop c :: k)) x F H ret)
    (fun f ps a b C D rec det fi k x F H ret => rangeR C D rec det fi f ps a b k x F H ret)
    (fun id C D rec det fi k x F H ret => codeR C D rec det fi (.exit id) k x F H ret)
    (fun c C D rec det fi k x F H ret => rec det fi (.items (.code c :: .inScope c :: k)) x F H ret)
    (fun _ C D rec det fi k x F H ret => rec det fi (.items k) x F H ret)
    (fun _ _ _ _ _ _ _ _ _ _ _ => false)
    (fun C D rec det fi k x F H ret => leaveR D fi (some .ret) x F H ret)
    (fun _ _ _ _ _ _ _ _ _ _ _ => false)
    C D rec det fi k x F H ret
theorem codeF_eq (C : Ctx) (D : Tab) (rec : Rec) (det : Bool) (fi : FI) (c : Code) (k : List Item) (x : X) (F : AF) (H : AH) (ret : Ret) : codeF C D rec det fi c k x F H ret = codeR C D rec det fi c k x F H ret := by
  cases c
  case region id ops d => cases d <;> rfl
  all_goals rfl
noncomputable def itemF (C : Ctx) (D : Tab) (rec : Rec) (det : Bool) (fi : FI) (i : Item) (k : List Item) (x : X) (F : AF) (H : AH) (ret : Ret) : Bool :=
  Item.casesOn (motive := fun _ => Ctx → Tab → Rec → Bool → FI → List Item → X → AF → AH → Ret → Bool) i
    (fun c C D rec det fi k x F H ret => codeF C D rec det fi c k x F H ret)
    (fun _ C D rec det fi k x F H ret => rec det fi (.items k) x F H ret)
    (fun c C D rec det fi k x F H ret => rec det fi (.items (.code c :: .inLoop c :: k)) x F H ret)
    (fun _ C D rec det fi k x F H ret => rec det fi (.items k) x F H ret)
    (fun _ _ _ _ _ _ _ _ _ _ _ _ => false)
    (fun _ _ _ _ _ _ _ _ _ _ _ => false)
    (fun _ _ _ _ _ _ _ _ _ _ _ => false)
    (fun C D rec det fi k x F H ret => itemsR C D rec det fi (.beginRound :: k) x F H ret)
    (fun _ _ _ _ _ _ _ _ _ _ _ _ _ _ => false)
    (fun _ _ _ _ _ _ _ _ _ _ _ _ => false)
    C D rec det fi k x F H ret
noncomputable def itemsF (C : Ctx) (D : Tab) (rec : Rec) (det : Bool) (fi : FI) (k : List Item) (x : X) (F : AF) (H : AH) (ret : Ret) : Bool :=
  List.rec (motive := fun _ => Bool) (leaveR D fi none x F H ret) (fun i k _ => itemF C D rec det fi i k x F H ret) k
theorem itemsF_eq (C : Ctx) (D : Tab) (rec : Rec) (det : Bool) (fi : FI) (k : List Item) (x : X) (F : AF) (H : AH) (ret : Ret) : itemsF C D rec det fi k x F H ret = itemsR C D rec det fi k x F H ret := by
  cases k with
  | nil => rfl
  | cons i k =>
    cases i
    case code c => exact codeF_eq _ _ _ _ _ _ _ _ _ _ _
    all_goals rfl

/- DRAW -/
abbrev RD := List (Nat × Nat × Nat × AF × Oper × AV)
noncomputable def drawG (o : Oper) (rest : List (Oper × PK)) (pk : PK) (C : Ctx) (D : Tab) (rec : Rec) (det : Bool) (fi : FI) (all : List Oper) (prev : List AH) (rd : RD) (k : List Item) (x : X) (F : AF) (H : AH) (ret : Ret) : Bool :=
  PK.rec (motive := fun _ => Bool)
    (Option.casesOn (motive := fun _ => Bool) (popF o.op D x ⟨.nil, 0, []⟩ (gather F o)) false (fun z => askF z x (fun x z => rec det fi (.draw all rest prev rd k) x (F.put o.dst z) H ret)))
    (fun lo hi => Option.casesOn (motive := fun _ => Bool) (popF o.op D x H (gather F o)) false (fun z => askF z x (fun x z => rec det fi (.draw all rest prev ((lo, hi, prev.length, gather F o, o, z) :: rd) k) x (F.put o.dst z) H ret)))
    (operF C D rec true o.op x (gather F o) H (fun x z H' => rec det fi (.draw all rest (H :: prev) rd k) x (F.put o.dst z) H' ret))
    (drawR C D rec det fi all ((o, .f) :: rest) prev rd k x F H ret) pk
noncomputable def drawW (o : Oper) (rest : List (Oper × PK)) (pk : PK) (C : Ctx) (D : Tab) (rec : Rec) (det : Bool) (fi : FI) (all : List Oper) (prev : List AH) (rd : RD) (k : List Item) (x : X) (F : AF) (H : AH) (ret : Ret) : Bool :=
  Option.casesOn (motive := fun _ => Bool) (wantF all F o) false
    (fun b => Bool.casesOn (motive := fun _ => Bool) b (drawR C D rec det fi all ((o, pk) :: rest) prev rd k x F H ret) (drawG o rest pk C D rec det fi all prev rd k x F H ret))
noncomputable def drawF (C : Ctx) (D : Tab) (rec : Rec) (det : Bool) (fi : FI) (all : List Oper) (rest : List (Oper × PK)) (prev : List AH) (rd : RD) (k : List Item) (x : X) (F : AF) (H : AH) (ret : Ret) : Bool :=
  List.rec (motive := fun _ => Bool) (drawR C D rec det fi all [] prev rd k x F H ret) (fun p rest _ => drawW p.1 rest p.2 C D rec det fi all prev rd k x F H ret) rest
theorem drawF_eq (C : Ctx) (D : Tab) (rec : Rec) (det : Bool) (fi : FI) (all : List Oper) (rest : List (Oper × PK)) (prev : List AH) (rd : RD) (k : List Item) (x : X) (F : AF) (H : AH) (ret : Ret) :
    drawF C D rec det fi all rest prev rd k x F H ret = drawR C D rec det fi all rest prev rd k x F H ret := by
  cases rest with
  | nil => rfl
  | cons p rest =>
    obtain ⟨o, pk⟩ := p
    show drawW o rest pk C D rec det fi all prev rd k x F H ret = _
    unfold drawW
    rw [wantF_eq]
    cases hw : wantA all F o with
    | none => unfold drawR; simp only [hw]
    | some b =>
      cases b with
      | false => rfl
      | true =>
        show drawG o rest pk C D rec det fi all prev rd k x F H ret = _
        unfold drawG
        rw [popF_eq, popF_eq, operF_eq]
        cases pk with
        | f => rfl
        | e => unfold drawR; simp only [hw]
        | p =>
          unfold drawR
          simp only [hw]
          cases popY D x ⟨.nil, 0, []⟩ (gather F o) o.op with
          | none => rfl
          | some z => exact askF_eq _ _ _
        | r lo hi =>
          unfold drawR
          simp only [hw]
          cases popY D x H (gather F o) o.op with
          | none => rfl
          | some z => exact askF_eq _ _ _

noncomputable def stepF (C : Ctx) (D : Tab) (rec : Rec) (det : Bool) (fi : FI) (t : Task) (x : X) (F : AF) (H : AH) (ret : Ret) : Bool :=
  Task.rec (motive := fun _ => Bool) (fun k => itemsF C D rec det fi k x F H ret) (fun all rest k => opsF C D rec det fi all rest k x F H ret)
    (fun all rest prev rd k => drawF C D rec det fi all rest prev rd k x F H ret) t
theorem stepF_eq (C : Ctx) (D : Tab) (rec : Rec) : stepF C D rec = stepR C D rec := by
  funext det fi t x F H ret
  cases t with
  | items k => exact itemsF_eq _ _ _ _ _ _ _ _ _ _
  | ops all rest k => exact opsF_eq _ _ _ _ _ _ _ _ _ _ _ _
  | draw all rest prev rd k => exact drawF_eq _ _ _ _ _ _ _ _ _ _ _ _ _ _
noncomputable def runF (C : Ctx) (D : Tab) (n : Nat) : Rec :=
  Nat.rec (motive := fun _ => Rec) (fun _ _ _ _ _ _ _ => false) (fun _ ih => stepF C D ih) n
theorem runF_eq (C : Ctx) (D : Tab) : ∀ n, runF C D n = run C D n
  | 0 => rfl
  | n + 1 => by
    show stepF C D (runF C D n) = stepR C D (run C D n)
    rw [runF_eq C D n, stepF_eq]
/-- A CALL, COMPUTED FAST. -/
theorem AC.runF {P : Program} {C : Ctx} {D : Tab} (hD : D = Tab.of P) (hC : CtxOk ξ P C) (n : Nat) {g : Nat} {as : List AV} {x : X} {H : AH} {ret : Ret} (h : callF C (Ai.runF C D n) false g as x H ret = true) (hx : x.holds ξ) :
    AC ξ P g as H (Acc ξ ret) := by
  subst hD
  rw [runF_eq, callF_eq] at h
  exact AC.run hC n h hx
end Go.Ai
end
