/- THE EVALUATOR: from a frame and a heap it computes what comes back. -/
import Derived.Test.YtaghpkljmnpjoaaGreatDoorEK
set_option linter.unusedVariables false
set_option linter.unusedSimpArgs false
noncomputable section
namespace Go.Ai
variable {ξ : Env}

/-- How a frame leaves: a function's body, with its results; a round of a loop. -/
inductive LV where
  | fn (rs : List ResultVar)
  | rd (id : Nat)
def LV.rnd : LV → Option Nat
  | .fn _ => none
  | .rd id => some id
/-- A frame: its function, how many slots, how it leaves. -/
structure FI where
  g : Nat
  N : Nat
  lv : LV
inductive Task where
  | items (k : List Item)
  | ops (all rest : List Oper) (k : List Item)
  | draw (all : List Oper) (rest : List (Oper × PK)) (prev : List AH) (rd : List (Nat × Nat × Nat × AF × Oper × AV)) (k : List Item)
/-- What is known of the program: bodies; plans of regions; contracts. -/
structure Ctx where
  fn : Nat → Option Func
  pl : Nat → Nat → Option (List PK)
  con : Nat → X → List AV → AH → Option (List (AV × AH))

/-- Is all code well: slots, plans? -/
def okC (pl : Nat → Option (List PK)) (N : Nat) : Code → Bool
  | .region id ops d => bif d then (match pl id with
      | some p => okDraw N ops.toList p
      | none => true) else okDst N ops.toList
  | .seq a b => okC pl N a && okC pl N b
  | .cond _ a b => okC pl N a && okC pl N b
  | .block _ b => okC pl N b
  | .loop b => okC pl N b
  | .scope b => okC pl N b
  | .rangeFunc _ _ a b => okC pl N a && okC pl N b
  | .goto _ => false
  | _ => true
def okI (pl : Nat → Option (List PK)) (N : Nat) : Item → Bool
  | .code c => okC pl N c
  | .inLoop c => okC pl N c
  | .inScope c => okC pl N c
  | _ => true
def okIs (pl : Nat → Option (List PK)) (N : Nat) (k : List Item) : Bool := k.all (okI pl N)

def leaveD (P : Tab) (rs : List ResultVar) (F : AF) : List AD1 → AH → Option (AV × AH)
  | [], H => match resultA P F H rs with
    | some z => some (z, H)
    | none => none
  | .call g _ _ :: ds, H => bif recOk P g then leaveD P rs F ds H else none
  | .coll id :: ds, H => match H.get id with
    | some .dfr => leaveD P rs F ds (H.kill id)
    | _ => none
def leaveA (P : Tab) (lv : LV) (j : Option Code) (F : AF) (H : AH) : Option (AV × AH) :=
  match lv with
  | .fn rs => match j with
    | none | some .ret => leaveD P rs F F.d H
    | _ => none
  | .rd id => match H.get id with
    | some (.loop _ _ fn nt t ps asg body) => some (.bool j.isNone, H.set id (.loop (bif j.isNone then .ready else .done) j fn nt t ps asg body))
    | _ => none

abbrev Ret := X → AV → AH → Bool
abbrev Rec := Bool → FI → Task → X → AF → AH → Ret → Bool

/-- A question is answered, both ways if need be. -/
def askR (x : X) (z : AV) (K : X → AV → Bool) : Bool :=
  match z with
  | .sym (.bool n b) => match x.dec b with
    | some t => K x (.bool (n != t))
    | none => K (x.add b true) (.bool (n != true)) && K (x.add b false) (.bool (n != false))
  | z => K x z
def callR (C : Ctx) (rec : Rec) (det : Bool) (g : Nat) (as : List AV) (x : X) (H : AH) (ret : Ret) : Bool :=
  match C.con g x as H with
  | some l => (!det || Nat.beq l.length 1) && l.all (fun p => ret x p.1 p.2)
  | none => match C.fn g with
    | some fn => match fn.body with
      | some c => bif Nat.ble as.length fn.ntmps then rec det ⟨g, fn.ntmps, .fn fn.results.toList⟩ (.items [.code c]) x ⟨slots 0 as, []⟩ H ret else false
      | none => false
    | none => false
def yieldR (C : Ctx) (rec : Rec) (det : Bool) (id : Nat) (as : List AV) (x : X) (H : AH) (ret : Ret) : Bool :=
  match H.get id with
  | some (.loop _ _ fn nt t ps asg body) => match putsA ps as t with
    | some t' => bif ps.all (fun p => Nat.blt p nt) && (okC (C.pl fn) nt asg && okC (C.pl fn) nt body) then
        rec det ⟨fn, nt, .rd id⟩ (.items [.code asg, .beginRound, .code body]) x ⟨t', []⟩ H ret else false
    | none => false
  | _ => false
def leaveR (P : Tab) (fi : FI) (j : Option Code) (x : X) (F : AF) (H : AH) (ret : Ret) : Bool :=
  match leaveA P fi.lv j F H with
  | some (z, H') => ret x z H'
  | none => false
def rangeR (C : Ctx) (P : Tab) (rec : Rec) (det : Bool) (fi : FI) (f : Operand) (ps : Array Tmp) (asg body : Code) (k : List Item) (x : X) (F : AF) (H : AH) (ret : Ret) : Bool :=
  match fi.lv with
  | .fn _ => match F.eval f with
    | some (.func (.func g) first cap) => bif okFn P g then
        callR C rec det g (first ++ [.yield (H.next + 1)] ++ cap) x ((H.push .dfr).push (.loop .ready none fi.g fi.N F.t ps.toList asg body)) (fun x _ H' => match H'.get (H.next + 1) with
          | some (.loop st pend fn nt t ps' asg' body') => match st with
            | .busy => false
            | _ => match pend with
              | none => rec det fi (.items k) x ⟨F.t, .coll H.next :: F.d⟩ (H'.set (H.next + 1) (.loop .exhausted pend fn nt t ps' asg' body')) ret
              | some c => bif okC (C.pl fi.g) fi.N c then rec det fi (.items (.code c :: k)) x ⟨F.t, .coll H.next :: F.d⟩ (H'.set (H.next + 1) (.loop .exhausted pend fn nt t ps' asg' body')) ret else false
          | _ => false)
      else false
    | _ => false
  | .rd _ => false
def codeR (C : Ctx) (P : Tab) (rec : Rec) (det : Bool) (fi : FI) (c : Code) (k : List Item) (x : X) (F : AF) (H : AH) (ret : Ret) : Bool :=
  match c with
  | .skip => rec det fi (.items k) x F H ret
  | .label _ => rec det fi (.items k) x F H ret
  | .seq a b => rec det fi (.items (.code a :: .code b :: k)) x F H ret
  | .cond c a b => match F.eval c with
    | some (.bool t) => rec det fi (.items (.code (bif t then a else b) :: k)) x F H ret
    | _ => false
  | .block id c => rec det fi (.items (.code c :: .inBlock id :: k)) x F H ret
  | .loop c => rec det fi (.items (.code c :: .inLoop c :: k)) x F H ret
  | .scope c => rec det fi (.items (.code c :: .inScope c :: k)) x F H ret
  | .exit id => match exitTo id k with
    | some k' => rec det fi (.items k') x F H ret
    | none => leaveR P fi (some (.exit id)) x F H ret
  | .ret => leaveR P fi (some .ret) x F H ret
  | .region id ops d => bif d then (match C.pl fi.g id with
      | some p => rec det fi (.draw ops.toList (ops.toList.zip p) [] [] k) x F H ret
      | none => false) else rec det fi (.ops ops.toList ops.toList k) x F H ret
  | .rangeFunc f ps a b => rangeR C P rec det fi f ps a b k x F H ret
  | _ => false
def itemsR (C : Ctx) (P : Tab) (rec : Rec) (det : Bool) (fi : FI) (k : List Item) (x : X) (F : AF) (H : AH) (ret : Ret) : Bool :=
  match k with
  | [] => leaveR P fi none x F H ret
  | .code c :: k => codeR C P rec det fi c k x F H ret
  | .inBlock _ :: k => rec det fi (.items k) x F H ret
  | .inScope _ :: k => rec det fi (.items k) x F H ret
  | .inLoop c :: k => rec det fi (.items (.code c :: .inLoop c :: k)) x F H ret
  | .beginRound :: k => match fi.lv with
    | .rd id => match H.get id with
      | some (.loop .ready pend fn nt t ps asg body) => rec det fi (.items k) x F (H.set id (.loop .busy pend fn nt t ps asg body)) ret
      | _ => false
    | .fn _ => false
  | _ => false
def isBuiltin (c : Call) : Bool :=
  match c.callee with
  | .builtin _ => true
  | _ => false
/-- An operation that is no call of a function. -/
def primR (P : Tab) (det : Bool) (o : Oper) (x : X) (F : AF) (H : AH) (K : X → AV → AH → Bool) : Bool :=
  match popY P x H F o.op with
  | some z => askR x z (fun x z => K x z H)
  | none => match eopX P H F o.op with
    | some (z, H') => K x z H'
    | none => match rangeA P H F o.op with
      | some (z, H') => K x z H'
      | none => match nextA H F o.op with
        | some l => (!det || Nat.beq l.length 1) && l.all (fun p => K x p.1 p.2)
        | none => false
def operR (C : Ctx) (P : Tab) (rec : Rec) (det : Bool) (o : Oper) (x : X) (F : AF) (H : AH) (K : X → AV → AH → Bool) : Bool :=
  match o.op with
  | .call c => bif isBuiltin c then primR P det o x F H K else match calleeA P F c with
    | some (g, as) => callR C rec det g as x H K
    | none => match yieldA F c with
      | some (id, as) => yieldR C rec det id as x H K
      | none => false
  | _ => primR P det o x F H K
def opsR (C : Ctx) (P : Tab) (rec : Rec) (det : Bool) (fi : FI) (all rest : List Oper) (k : List Item) (x : X) (F : AF) (H : AH) (ret : Ret) : Bool :=
  match rest with
  | [] => rec det fi (.items k) x F H ret
  | o :: rest => match wantA all F o with
    | none => false
    | some false => rec det fi (.ops all rest k) x (F.put o.dst (.tuple [])) H ret
    | some true => match o.op with
      | .defer c => match fi.lv, deferA F c with
        | .fn _, some d => rec det fi (.ops all rest k) x ({ F with d := d :: F.d }.put o.dst .undef) H ret
        | _, _ => false
      | _ => operR C P rec det o x F H (fun x z H' => rec det fi (.ops all rest k) x (F.put o.dst z) H' ret)

/-- What was read is read again at another stage. -/
def againR (P : Tab) (x : X) (H : AH) (G : AF) (o : Oper) (z : AV) : Bool :=
  match popY P x H G o.op with
  | some z' => match z' with
    | .sym (.bool n b) => match x.dec b with
      | some t => AV.beq z (.bool (n != t))
      | none => false
    | z' => AV.beq z z'
  | none => false
def stagesR (P : Tab) (x : X) (lo hi s : Nat) (G : AF) (o : Oper) (z : AV) : Nat → List AH → Bool
  | _, [] => true
  | i, H :: r => (Nat.beq i s || (Nat.blt i lo || (Nat.blt hi i || againR P x H G o z))) && stagesR P x lo hi s G o z (i + 1) r
def rdsR (P : Tab) (x : X) (st : List AH) : List (Nat × Nat × Nat × AF × Oper × AV) → Bool
  | [] => true
  | (lo, hi, s, G, o, z) :: r => stagesR P x lo hi s G o z 0 st && rdsR P x st r
/-- A row that may be made ahead of its place. -/
def rowA (P : Tab) (F : AF) (op : Op) : Option (List AV × Shp) :=
  match op with
  | .alloc t => match zeroA P t with
    | some z => bif z.flat then some (z.cells, .ptr) else none
    | none => none
  | .buildSlice t len ps => match elemShp P t, F.parts ps.toList with
    | some (e, ag, m), some xs => match zeroInfo P e, catParts m xs with
      | some m', some cs => bif Nat.beq m m' && (!Nat.beq len 0 && (Nat.beq xs.length len && (inOrder 0 xs && (Nat.ble (len * m) 16777216 && Nat.ble (len * m) cs.length)))) then some (cs, .slice len m ag) else none
      | _, _ => none
    | _, _ => none
  | _ => none
def drawR (C : Ctx) (P : Tab) (rec : Rec) (det : Bool) (fi : FI) (all : List Oper) (rest : List (Oper × PK)) (prev : List AH) (rd : List (Nat × Nat × Nat × AF × Oper × AV)) (k : List Item) (x : X) (F : AF) (H : AH) (ret : Ret) : Bool :=
  match rest with
  | [] => rdsR P x (prev.reverse ++ [H]) rd && rec det fi (.items k) x F H ret
  | (o, pk) :: rest => match wantA all F o with
    | none => false
    | some false => match pk with
      | .e | .f => rec det fi (.draw all rest (H :: prev) rd k) x (F.put o.dst (.tuple [])) H ret
      | _ => rec det fi (.draw all rest prev rd k) x (F.put o.dst (.tuple [])) H ret
    | some true => match pk with
      | .p => match popY P x ⟨.nil, 0, []⟩ (gather F o) o.op with
        | some z => askR x z (fun x z => rec det fi (.draw all rest prev rd k) x (F.put o.dst z) H ret)
        | none => false
      | .r lo hi => match popY P x H (gather F o) o.op with
        | some z => askR x z (fun x z => rec det fi (.draw all rest prev ((lo, hi, prev.length, gather F o, o, z) :: rd) k) x (F.put o.dst z) H ret)
        | none => false
      | .e => operR C P rec true o x (gather F o) H (fun x z H' => rec det fi (.draw all rest (H :: prev) rd k) x (F.put o.dst z) H' ret)
      | .f => match rowA P (gather F o) o.op with
        | some (cs, s) => rec det fi (.draw all rest (H :: prev) rd k) x (F.put o.dst (s.av H.next)) (H.push (.cells false cs)) ret
        | none => false
def stepR (C : Ctx) (P : Tab) (rec : Rec) : Rec := fun det fi t x F H ret =>
  match t with
  | .items k => itemsR C P rec det fi k x F H ret
  | .ops all rest k => opsR C P rec det fi all rest k x F H ret
  | .draw all rest prev rd k => drawR C P rec det fi all rest prev rd k x F H ret
def runI (C : Ctx) (P : Tab) : Nat → Rec
  | 0 => fun _ _ _ _ _ _ _ => false
  | n + 1 => stepR C P (runI C P n)
noncomputable def run (C : Ctx) (P : Tab) (n : Nat) : Rec :=
  Nat.rec (motive := fun _ => Rec) (fun _ _ _ _ _ _ _ => false) (fun _ ih => stepR C P ih) n

/- SOUNDNESS. -/
/-- What may come back: all of what Φ allows, or just one thing. -/
def Res (det : Bool) (S : AV → AH → Prop) (A : (AV → AH → Prop) → Prop) : Prop :=
  match det with
  | true => ∃ z H, S z H ∧ A (fun z' H' => z' = z ∧ H' = H)
  | false => A S
theorem Res.map {det : Bool} {S : AV → AH → Prop} {A B : (AV → AH → Prop) → Prop} (h : Res det S A) (hab : ∀ Q, A Q → B Q) : Res det S B := by
  cases det with
  | true => obtain ⟨z, H, h1, h2⟩ := h; exact ⟨z, H, h1, hab _ h2⟩
  | false => exact hab _ h
/-- One behind the other. -/
theorem Res.bind {det : Bool} {S T : AV → AH → Prop} {A : (AV → AH → Prop) → Prop} {B : (AV → AH → Prop) → Prop} {D : AV → AH → (AV → AH → Prop) → Prop} (h : Res det T A) (hd : ∀ z H, T z H → Res det S (D z H))
    (hb : ∀ Q (U : AV → AH → Prop), A U → (∀ z H, U z H → D z H Q) → B Q) : Res det S B := by
  cases det with
  | true =>
    obtain ⟨z, H, h1, h2⟩ := h
    obtain ⟨z', H', h3, h4⟩ := hd z H h1
    exact ⟨z', H', h3, hb _ _ h2 (fun z1 H1 e => by rw [e.1, e.2]; exact h4)⟩
  | false => exact hb S T h (fun z H hz => hd z H hz)

/-- What the continuation accepts. -/
def Acc (ξ : Env) (ret : Ret) (z : AV) (H : AH) : Prop := ∃ x : X, x.holds ξ ∧ ret x z H = true

def Leave (ξ : Env) (P : Program) (lv : LV) (S : AV → AH → Prop) : Option Code → AF → AH → Prop :=
  match lv with
  | .fn rs => LeaveF ξ P rs S
  | .rd id => LeaveR id S

section
variable {P : Program}
theorem leaveD_ok {rs : List ResultVar} {F : AF} {S : AV → AH → Prop} : ∀ {ds : List AD1} {H : AH} {z : AV} {H' : AH}, leaveD P rs F ds H = some (z, H') → S z H' → ALeave ξ P rs S F ds H
  | [], H, z, H', h, hS => by
    simp only [leaveD] at h
    split at h
    · rename_i z' hz
      cases h
      exact ⟨_, hz, hS⟩
    · cases h
  | .call g caps as :: ds, H, z, H', h, hS => by
    simp only [leaveD] at h
    cases hr : recOk P g
    · rw [hr] at h; cases h
    · rw [hr] at h
      obtain ⟨h1, h2⟩ := recOk_sound (ξ := ξ) hr
      exact ⟨h1, h2 (leaveD_ok h hS)⟩
  | .coll id :: ds, H, z, H', h, hS => by
    simp only [leaveD] at h
    split at h
    · rename_i hg
      exact ⟨hg, leaveD_ok h hS⟩
    · cases h
theorem leaveA_ok {lv : LV} {j : Option Code} {F : AF} {H H' : AH} {z : AV} {S : AV → AH → Prop} (h : leaveA P lv j F H = some (z, H')) (hS : S z H') : Leave ξ P lv S j F H := by
  unfold leaveA at h
  split at h
  · split at h
    · exact ⟨.inl rfl, leaveD_ok h hS⟩
    · exact ⟨.inr rfl, leaveD_ok h hS⟩
    · cases h
  · split at h
    · rename_i st pend fn nt t ps asg body hg
      cases h
      exact ⟨st, pend, fn, nt, t, ps, asg, body, hg, hS⟩
    · cases h

/-- The judgement of a task. -/
def Sem1 (ξ : Env) (P : Program) (fi : FI) (F : AF) (H : AH) (t : Task) (S : AV → AH → Prop) : Prop :=
  match t with
  | .items k => AG ξ P fi.N fi.lv.rnd (Leave ξ P fi.lv S) k F H
  | .ops all rest k => AR ξ P fi.N fi.lv.rnd all (AG ξ P fi.N fi.lv.rnd (Leave ξ P fi.lv S) k) rest F H
  | .draw all rest prev rd k => ADs ξ P all (AG ξ P fi.N fi.lv.rnd (Leave ξ P fi.lv S) k) rest F H prev (rd.map fun q => (q.1, q.2.1, q.2.2.2.1, q.2.2.2.2.1, q.2.2.2.2.2))
/-- Is a task well? -/
def okT (ξ : Env) (P : Program) (C : Ctx) (fi : FI) (H : AH) : Task → Prop
  | .items k => okIs (C.pl fi.g) fi.N k = true
  | .ops _ rest k => okIs (C.pl fi.g) fi.N k = true
  | .draw _ _ prev rd k => okIs (C.pl fi.g) fi.N k = true ∧ ∀ q ∈ rd, ∃ Hs, (prev.reverse ++ [H])[q.2.2.1]? = some Hs ∧ PS ξ P Hs q.2.2.2.2.1 q.2.2.2.1 q.2.2.2.2.2
structure CtxOk (ξ : Env) (P : Program) (C : Ctx) : Prop where
  mixed : P.follows .mixedOrders = true
  fn : ∀ g fn, C.fn g = some fn → P.funcs[g]? = some fn ∧ ∀ c, fn.body = some c → okC (C.pl g) fn.ntmps c = true
  con : ∀ g x as H l, C.con g x as H = some l → x.holds ξ → AC ξ P g as H (fun z H' => (z, H') ∈ l)
def RecOk (ξ : Env) (P : Program) (C : Ctx) (rec : Rec) : Prop :=
  ∀ det fi t x F H ret, rec det fi t x F H ret = true → x.holds ξ → okT ξ P C fi H t → Res det (Acc ξ ret) (Sem1 ξ P fi F H t)

theorem askR_ok {x : X} {z : AV} {K : X → AV → Bool} (h : askR x z K = true) (hx : x.holds ξ) : ∃ x' z', x'.holds ξ ∧ K x' z' = true ∧ ∀ Φ μ n v, V ξ Φ μ n v z → V ξ Φ μ n v z' := by
  have key : ∀ n b t, b.eval ξ = t → ∀ Φ μ k v, V ξ Φ μ k v (.sym (.bool n b)) → V ξ Φ μ k v (.bool (n != t)) := by
    intro n b t ht Φ μ k v hv
    cases hv
    rename_i hv
    rw [hv, SV.eval, ht]; exact .bool _ _
  unfold askR at h
  split at h
  · rename_i n b
    split at h
    · rename_i t ht
      exact ⟨x, _, hx, h, key n b t (X.dec_ok hx ht)⟩
    · simp only [Bool.and_eq_true] at h
      cases hb : b.eval ξ with
      | true => exact ⟨_, _, X.add_ok hx hb, h.1, key n b true hb⟩
      | false => exact ⟨_, _, X.add_ok hx hb, h.2, key n b false hb⟩
  · exact ⟨x, z, hx, h, fun _ _ _ _ hv => hv⟩

theorem Res.single {det : Bool} {T : AV → AH → Prop} {A : (AV → AH → Prop) → Prop} {z : AV} {H : AH} (hm : ∀ Q Q' : AV → AH → Prop, (∀ z H, Q z H → Q' z H) → A Q → A Q') (h : A (fun z' H' => z' = z ∧ H' = H)) (ht : T z H) : Res det T A := by
  cases det with
  | true => exact ⟨z, H, ht, h⟩
  | false => exact hm _ _ (fun z' H' e => by rw [e.1, e.2]; exact ht) h
theorem Res.many {det : Bool} {T : AV → AH → Prop} {A : (AV → AH → Prop) → Prop} {l : List (AV × AH)} (hm : ∀ Q Q' : AV → AH → Prop, (∀ z H, Q z H → Q' z H) → A Q → A Q') (h : A (fun z H => (z, H) ∈ l)) (hl : (!det || Nat.beq l.length 1) = true)
    (ht : ∀ p ∈ l, T p.1 p.2) : Res det T A := by
  cases det with
  | true =>
    simp only [Bool.not_true, Bool.false_or] at hl
    have := Nat.eq_of_beq_eq_true hl
    match l, this with
    | [p], _ => exact ⟨p.1, p.2, ht p (by simp), hm _ _ (fun z H e => by simp at e; rw [← e]; exact ⟨rfl, rfl⟩) h⟩
  | false => exact hm _ _ (fun z H e => ht _ e) h

theorem callR_ok {C : Ctx} {rec : Rec} (hC : CtxOk ξ P C) (hr : RecOk ξ P C rec) {det : Bool} {g : Nat} {as : List AV} {x : X} {H : AH} {ret : Ret} (h : callR C rec det g as x H ret = true) (hx : x.holds ξ) : Res det (Acc ξ ret) (AC ξ P g as H) := by
  unfold callR at h
  split at h
  · rename_i l hl
    simp only [Bool.and_eq_true] at h
    refine Res.many (fun Q Q' hq h => h.mono hq) (hC.con _ _ _ _ _ hl hx) h.1 (fun p hp => ⟨x, hx, (List.all_eq_true.1 h.2) p hp⟩)
  · split at h
    · rename_i fn hfn
      split at h
      · rename_i c hb
        cases hn : Nat.ble as.length fn.ntmps
        · rw [hn] at h; cases h
        · rw [hn] at h
          obtain ⟨h1, h2⟩ := hC.fn _ _ hfn
          have := hr _ _ _ _ _ _ _ h hx (by simp [okT, okIs, okI, h2 c hb])
          exact this.map (fun Q hQ => AC.body h1 hb hn hQ)
      · cases h
    · cases h
theorem AGmono {N : Nat} {lv : LV} {k : List Item} {F : AF} {H : AH} : ∀ Q Q' : AV → AH → Prop, (∀ z H, Q z H → Q' z H) → AG ξ P N lv.rnd (Leave ξ P lv Q) k F H → AG ξ P N lv.rnd (Leave ξ P lv Q') k F H := by
  intro Q Q' hq h
  refine h.mono (fun j F' H' hl => ?_)
  cases lv with
  | fn rs => exact ⟨hl.1, ALeave.mono hq hl.2⟩
  | rd id =>
    obtain ⟨st, pend, fn, nt, t, ps, asg, body, h1, h2⟩ := hl
    exact ⟨st, pend, fn, nt, t, ps, asg, body, h1, hq _ _ h2⟩
theorem OSmono {o : Oper} {G : AF} {H : AH} : ∀ Q Q' : AV → AH → Prop, (∀ z H, Q z H → Q' z H) → OS ξ P o G H Q → OS ξ P o G H Q' := fun _ _ hq h => h.mono hq

theorem yieldR_ok {C : Ctx} {rec : Rec} (hr : RecOk ξ P C rec) {det : Bool} {o : Oper} {c : Call} {G : AF} {id : Nat} {as : List AV} {x : X} {H : AH} {ret : Ret} (hc : o.op = .call c) (hf : yieldA G c = some (id, as))
    (h : yieldR C rec det id as x H ret = true) (hx : x.holds ξ) : Res det (Acc ξ ret) (OS ξ P o G H) := by
  unfold yieldR at h
  split at h
  · rename_i st pend fn nt t ps asg body hg
    split at h
    · rename_i t' hp
      cases hq : (ps.all (fun p => Nat.blt p nt) && (okC (C.pl fn) nt asg && okC (C.pl fn) nt body))
      · rw [hq] at h; cases h
      · rw [hq] at h
        simp only [Bool.and_eq_true] at hq
        have := hr _ _ _ _ _ _ _ h hx (by simp [okT, okIs, okI, hq.2.1, hq.2.2])
        exact this.map (fun Q hQ => OS.yield hc hf hg hp hq.1 hQ)
    · cases h
  · cases h

theorem primR_ok {det : Bool} {o : Oper} {x : X} {F : AF} {H : AH} {K : X → AV → AH → Bool} (h : primR P det o x F H K = true) (hx : x.holds ξ) : Res det (Acc ξ K) (OS ξ P o F H) := by
  unfold primR at h
  split at h
  · rename_i z hz
    obtain ⟨x', z', h1, h2, h3⟩ := askR_ok h hx
    exact Res.single OSmono (OS.still ((popY_ok hx hz).conv h3)) ⟨x', h1, h2⟩
  · split at h
    · rename_i z H' hz
      exact Res.single OSmono (eopX_ok hz) ⟨x, hx, h⟩
    · split at h
      · rename_i z H' hz
        exact Res.single OSmono (rangeA_ok hz) ⟨x, hx, h⟩
      · split at h
        · rename_i l hl
          simp only [Bool.and_eq_true] at h
          exact Res.many OSmono (nextA_ok hl) h.1 (fun p hp => ⟨x, hx, (List.all_eq_true.1 h.2) p hp⟩)
        · cases h
theorem operR_ok {C : Ctx} {rec : Rec} (hC : CtxOk ξ P C) (hr : RecOk ξ P C rec) {det : Bool} {o : Oper} {x : X} {F : AF} {H : AH} {K : X → AV → AH → Bool} (h : operR C P rec det o x F H K = true) (hx : x.holds ξ) : Res det (Acc ξ K) (OS ξ P o F H) := by
  unfold operR at h
  split at h
  · rename_i c hc
    cases hb : isBuiltin c
    · rw [hb] at h
      simp only [cond_false] at h
      split at h
      · rename_i g as hcal
        exact (callR_ok hC hr h hx).map (fun Q hQ => OS.call hc hcal hQ)
      · split at h
        · rename_i id as hy
          exact yieldR_ok hr hc hy h hx
        · cases h
    · rw [hb] at h
      exact primR_ok h hx
  · exact primR_ok h hx

theorem exitTo_ok {pl : Nat → Option (List PK)} {N id : Nat} : ∀ {k k' : List Item}, exitTo id k = some k' → okIs pl N k = true → okIs pl N k' = true
  | [], k', h, _ => by cases h
  | i :: k, k', h, ho => by
    have ho' : okIs pl N k = true := by
      simp only [okIs, List.all_cons, Bool.and_eq_true] at ho ⊢
      exact ho.2
    cases i <;> simp only [exitTo] at h <;> first
      | exact exitTo_ok h ho'
      | (split at h
         · cases h; exact ho'
         · exact exitTo_ok h ho')
end
end Go.Ai
end
