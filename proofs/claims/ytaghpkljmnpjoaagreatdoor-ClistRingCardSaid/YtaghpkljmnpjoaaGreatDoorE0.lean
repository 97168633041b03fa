/- THE ABSTRACT INTERPRETER, PART 0: abstract values, the abstract heap, and how they stand to the model's values and world. Over any program. -/
import Derived.Laws.Tables
import Derived.Laws.Append
import Derived.Laws.Entries
import Derived.Defers
import Derived.Orders
import Derived.AtR
set_option linter.unusedVariables false
set_option linter.unusedSimpArgs false
noncomputable section
namespace Go.Ai

/-- What the symbols stand for. -/
structure Env where
  str : Nat → ByteArray

/-- Parts of a text: a literal, a symbol. -/
inductive Sp where
  | lit (s : ByteArray)
  | var (i : Nat)
  deriving Inhabited
def Sp.eval (ξ : Env) : Sp → ByteArray
  | .lit s => s
  | .var i => ξ.str i
def evalSp (ξ : Env) : List Sp → ByteArray
  | [] => ⟨#[]⟩
  | x :: r => x.eval ξ ++ evalSp ξ r
/-- Questions. -/
inductive BE where
  | lt (i : Nat) (n : Int)
  | eqs (i : Nat) (s : ByteArray)
  | eqv (i j : Nat)
  deriving Inhabited
def BE.eval (ξ : Env) : BE → Bool
  | .lt i n => decide (((ξ.str i).size : Int) < n)
  | .eqs i s => decide (ξ.str i = s)
  | .eqv i j => decide (ξ.str i = ξ.str j)
/-- Symbolic values: a text, a text's length and so many more, an answer (or its contrary). -/
inductive SV where
  | str (e : List Sp)
  | len (i : Nat) (c : Int)
  | bool (neg : Bool) (b : BE)
  deriving Inhabited
def SV.eval (ξ : Env) : SV → Value
  | .str e => .string (evalSp ξ e)
  | .len i c => .int .i64 ((ξ.str i).size + c)
  | .bool n b => .bool (n != b.eval ξ)

/-- Abstract values. 'ptr', 'slice', 'map' name objects of the abstract heap; 'fptr', 'fslice' are memory that nobody writes any more, as a tree. -/
inductive AV where
  | undef
  | bool (b : Bool)
  | int (k : IntKind) (n : Int)
  | str (s : ByteArray)
  | nilptr
  | ptr (id off : Nat)
  | fptr (cells : List AV)
  | slice (id off len esz : Nat) (ag : Bool) (cap : Option Nat)
  | fslice (esz : Nat) (els : List AV) (cap : Option Nat)
  | nilslice
  | eslice (cap : Option Nat)
  | nilmap
  | map (id : Nat)
  | nilfunc
  | func (fn : Fn) (first captured : List AV)
  | niliface
  | iface (t : TypeId) (v : AV)
  | agg (cells : List AV)
  | tuple (vs : List AV)
  | sym (s : SV)
  | yield (id : Nat)
  | gptr (g off : Nat)
  | vslice (i : Nat)
  deriving Inhabited

/-- Where an object lies: its block, the cell at which it begins, how many cells the block has. -/
structure Pl where
  block : Nat
  base : Nat
  size : Nat

inductive AObj where
  | cells (str : Bool) (cs : List AV)
  | map (es : List (AV × AV)) (bs : List Nat) (clock : Nat)
  | loop (st : LoopState) (pend : Option Code) (fn nt : Nat) (t : List (Nat × AV)) (ps : List Nat) (asg body : Code)
  | dfr
  | miter (m : Option Nat) (n st : Nat) (seen : List Nat)

/-- Objects by number: a tree. -/
inductive PT where
  | nil
  | node (l : PT) (v : Option AObj) (r : PT)
def PT.getI : PT → Nat → Option AObj
  | .nil, _ => none
  | .node l v r, n => bif Nat.beq n 0 then v else bif Nat.beq (n % 2) 1 then l.getI (n / 2) else r.getI (n / 2 - 1)
def PT.insI : Nat → PT → Nat → Option AObj → PT
  | 0, t, _, _ => t
  | f + 1, .nil, n, o => bif Nat.beq n 0 then .node .nil o .nil else bif Nat.beq (n % 2) 1 then .node (PT.insI f .nil (n / 2) o) none .nil else .node .nil none (PT.insI f .nil (n / 2 - 1) o)
  | f + 1, .node l v r, n, o => bif Nat.beq n 0 then .node l o r else bif Nat.beq (n % 2) 1 then .node (PT.insI f l (n / 2) o) v r else .node l v (PT.insI f r (n / 2 - 1) o)
noncomputable def PT.get (t : PT) : Nat → Option AObj :=
  PT.rec (motive := fun _ => Nat → Option AObj) (fun _ => none)
    (fun _ v _ gl gr n => Nat.rec (motive := fun _ => Option AObj) v (fun _ _ => Bool.rec (motive := fun _ => Option AObj) (gr (Nat.sub (Nat.div n 2) 1)) (gl (Nat.div n 2)) (Nat.beq (Nat.mod n 2) 1)) n) t
noncomputable def PT.ins (f : Nat) : PT → Nat → Option AObj → PT :=
  Nat.rec (motive := fun _ => PT → Nat → Option AObj → PT) (fun t _ _ => t)
    (fun _ ih t n o => PT.rec (motive := fun _ => PT)
      (Nat.rec (motive := fun _ => PT) (.node .nil o .nil) (fun _ _ => Bool.rec (motive := fun _ => PT) (.node .nil none (ih .nil (Nat.sub (Nat.div n 2) 1) o)) (.node (ih .nil (Nat.div n 2) o) none .nil) (Nat.beq (Nat.mod n 2) 1)) n)
      (fun l v r _ _ => Nat.rec (motive := fun _ => PT) (.node l o r) (fun _ _ => Bool.rec (motive := fun _ => PT) (.node l v (ih r (Nat.sub (Nat.div n 2) 1) o)) (.node (ih l (Nat.div n 2) o) v r) (Nat.beq (Nat.mod n 2) 1)) n) t) f
theorem PT.get_nil (n : Nat) : PT.get .nil n = none := rfl
theorem beq_ff {a b : Nat} (h : a ≠ b) : Nat.beq a b = false := by
  cases hb : Nat.beq a b
  · rfl
  · exact absurd (Nat.eq_of_beq_eq_true hb) h
theorem PT.get_node (l r : PT) (v : Option AObj) (n : Nat) : PT.get (.node l v r) n = if n = 0 then v else if n % 2 = 1 then l.get (n / 2) else r.get (n / 2 - 1) := by
  cases n with
  | zero => rfl
  | succ n =>
    rw [if_neg (Nat.succ_ne_zero n)]
    show Bool.rec (motive := fun _ => Option AObj) (r.get ((n + 1) / 2 - 1)) (l.get ((n + 1) / 2)) (Nat.beq ((n + 1) % 2) 1) = _
    by_cases h1 : (n + 1) % 2 = 1
    · rw [if_pos h1, h1]; rfl
    · rw [if_neg h1, beq_ff h1]
theorem PT.ins_nil (f n : Nat) (o : Option AObj) : PT.ins (f + 1) .nil n o = PT.ins (f + 1) (.node .nil none .nil) n o := by
  cases n <;> rfl
theorem PT.ins_node (f : Nat) (l r : PT) (v : Option AObj) (n : Nat) (o : Option AObj) :
    PT.ins (f + 1) (.node l v r) n o = if n = 0 then .node l o r else if n % 2 = 1 then .node (PT.ins f l (n / 2) o) v r else .node l v (PT.ins f r (n / 2 - 1) o) := by
  cases n with
  | zero => rfl
  | succ n =>
    rw [if_neg (Nat.succ_ne_zero n)]
    show Bool.rec (motive := fun _ => PT) (.node l v (PT.ins f r ((n + 1) / 2 - 1) o)) (.node (PT.ins f l ((n + 1) / 2) o) v r) (Nat.beq ((n + 1) % 2) 1) = _
    by_cases h1 : (n + 1) % 2 = 1
    · rw [if_pos h1, h1]; rfl
    · rw [if_neg h1, beq_ff h1]
theorem PT.get_ins : ∀ (f : Nat) (t : PT) (n : Nat) (o : Option AObj) (m : Nat), n < f → (PT.ins f t n o).get m = if n = m then o else t.get m
  | 0, _, n, _, _, h => absurd h (Nat.not_lt_zero n)
  | f + 1, t, n, o, m, h => by
    have key : ∀ l v r, (PT.ins (f + 1) (.node l v r) n o).get m = if n = m then o else (PT.node l v r).get m := by
      intro l v r
      rw [PT.ins_node, PT.get_node l r v m]
      by_cases h0 : n = 0
      · subst h0
        rw [if_pos rfl, PT.get_node]
        by_cases hm : m = 0
        · subst hm; rfl
        · rw [if_neg hm, if_neg hm, if_neg (Ne.symm hm)]
      · rw [if_neg h0]
        by_cases h1 : n % 2 = 1
        · rw [if_pos h1, PT.get_node]
          by_cases hm : m = 0
          · subst hm; rw [if_pos rfl, if_pos rfl, if_neg h0]
          · rw [if_neg hm, if_neg hm]
            by_cases hm1 : m % 2 = 1
            · rw [if_pos hm1, if_pos hm1, PT.get_ins f l (n / 2) o (m / 2) (by omega)]
              by_cases hnm : n = m
              · rw [if_pos hnm, if_pos (by omega)]
              · rw [if_neg hnm, if_neg (by omega)]
            · rw [if_neg hm1, if_neg hm1, if_neg (by omega)]
        · rw [if_neg h1, PT.get_node]
          by_cases hm : m = 0
          · subst hm; rw [if_pos rfl, if_pos rfl, if_neg h0]
          · rw [if_neg hm, if_neg hm]
            by_cases hm1 : m % 2 = 1
            · rw [if_pos hm1, if_pos hm1, if_neg (by omega)]
            · rw [if_neg hm1, if_neg hm1, PT.get_ins f r (n / 2 - 1) o (m / 2 - 1) (by omega)]
              by_cases hnm : n = m
              · rw [if_pos hnm, if_pos (by omega)]
              · rw [if_neg hnm, if_neg (by omega)]
    cases t with
    | nil =>
      rw [PT.ins_nil, key, PT.get_node, PT.get_nil]
      by_cases hnm : n = m
      · rw [if_pos hnm, if_pos hnm]
      · rw [if_neg hnm, if_neg hnm]
        simp [PT.get_nil]
    | node l v r => exact key l v r

structure AH where
  objs : PT
  next : Nat
  glob : List (Nat × List AV)

def glL : List (Nat × List AV) → Nat → Option (List AV)
  | [], _ => none
  | (i, c) :: r, g => bif Nat.beq i g then some c else glL r g
def AH.gl (H : AH) (g : Nat) : Option (List AV) := glL H.glob g

def AH.get (H : AH) (id : Nat) : Option AObj := H.objs.get id
def AH.set (H : AH) (id : Nat) (o : AObj) : AH := ⟨PT.ins (id + 1) H.objs id (some o), H.next, H.glob⟩
def AH.push (H : AH) (o : AObj) : AH := ⟨PT.ins (H.next + 1) H.objs H.next (some o), H.next + 1, H.glob⟩
def AH.kill (H : AH) (id : Nat) : AH := ⟨PT.ins (id + 1) H.objs id none, H.next, H.glob⟩

theorem AH.get_set (H : AH) (id i : Nat) (o : AObj) : (H.set id o).get i = if id = i then some o else H.get i := PT.get_ins _ _ _ _ _ (Nat.lt_succ_self _)
theorem AH.get_push (H : AH) (i : Nat) (o : AObj) : (H.push o).get i = if H.next = i then some o else H.get i := PT.get_ins _ _ _ _ _ (Nat.lt_succ_self _)
theorem AH.get_kill (H : AH) (id i : Nat) : (H.kill id).get i = if id = i then none else H.get i := PT.get_ins _ _ _ _ _ (Nat.lt_succ_self _)

def lkI (l : List (Nat × AV)) (t : Nat) : Option AV :=
  match l with
  | [] => none
  | (i, v) :: r => bif Nat.beq i t then some v else lkI r t
noncomputable def lk (l : List (Nat × AV)) : Nat → Option AV :=
  List.rec (motive := fun _ => Nat → Option AV) (fun _ => none) (fun p _ ih t => Bool.rec (motive := fun _ => Option AV) (ih t) (some p.2) (Nat.beq p.1 t)) l
theorem lk_nil (t : Nat) : lk [] t = none := rfl
theorem lk_cons (i t : Nat) (v : AV) (r : List (Nat × AV)) : lk ((i, v) :: r) t = if i = t then some v else lk r t := by
  show Bool.rec (motive := fun _ => Option AV) (lk r t) (some v) (Nat.beq i t) = _
  by_cases h : i = t
  · rw [if_pos h, h, Nat.beq_refl]
  · rw [if_neg h, beq_ff h]

/-- How an abstract value stands to a value of the model. 'Φ': the blocks that nobody writes any more; 'μ': where the objects lie; 'n': the objects below n may be named. -/
inductive V (ξ : Env) (Φ : Nat → Option Obj) (μ : Nat → Pl) : Nat → Value → AV → Prop
  | undef (n : Nat) (v : Value) : V ξ Φ μ n v .undef
  | bool (n : Nat) (b : Bool) : V ξ Φ μ n (.bool b) (.bool b)
  | int (n : Nat) (k : IntKind) (i : Int) : V ξ Φ μ n (.int k i) (.int k i)
  | str (n : Nat) (s : ByteArray) : V ξ Φ μ n (.string s) (.str s)
  | nilptr (n : Nat) : V ξ Φ μ n (.pointer none) .nilptr
  | ptr (n id off : Nat) (h : id < n) : V ξ Φ μ n (.pointer (some ⟨(μ id).block, (μ id).base + off, none⟩)) (.ptr id off)
  | fptr (n b o : Nat) (cs : Array Value) (t : TypeId) (fz : Nat × Nat) (vs : List Value) (cells : List AV)
      (hb : Φ b = some (.cells cs t fz)) (hl : vs.length = cells.length) (hc : ∀ (j : Nat) v, vs[j]? = some v → cs[o + j]? = some v)
      (hv : ∀ (j : Nat) v a, vs[j]? = some v → cells[j]? = some a → V ξ Φ μ 0 v a) : V ξ Φ μ n (.pointer (some ⟨b, o, none⟩)) (.fptr cells)
  | slice (n id off len esz : Nat) (ag : Bool) (c : Nat) (cap : Option Nat) (h : id < n) (hcap : ∀ k, cap = some k → c = k) (hl : len ≤ c)
      (hsz : (μ id).base + off + c * esz ≤ (μ id).size) :
      V ξ Φ μ n (.slice (some ⟨(μ id).block, (μ id).base + off, none⟩) len c) (.slice id off len esz ag cap)
  | fnil (n esz : Nat) (a : Option Addr) (c : Nat) (cap : Option Nat) (hcap : ∀ k, cap = some k → c = k) :
      V ξ Φ μ n (.slice a 0 c) (.fslice esz [] cap)
  | fslice (n b o c esz : Nat) (cap : Option Nat) (cs : Array Value) (t : TypeId) (fz : Nat × Nat) (ws : List Value) (els : List AV)
      (hcap : ∀ k, cap = some k → c = k) (hlc : els.length ≤ c) (hb : Φ b = some (.cells cs t fz)) (hl : ws.length = els.length)
      (hsz : ∀ w ∈ ws, w.cells.size = esz)
      (hc : ∀ (j : Nat) v, (ws.flatMap fun w => w.cells.toList)[j]? = some v → cs[o + j]? = some v)
      (hv : ∀ (j : Nat) w a, ws[j]? = some w → els[j]? = some a → V ξ Φ μ 0 w a) :
      V ξ Φ μ n (.slice (some ⟨b, o, none⟩) els.length c) (.fslice esz els cap)
  | nilslice (n : Nat) : V ξ Φ μ n (.slice none 0 0) .nilslice
  | eslice (n : Nat) (a : Addr) (c : Nat) (cap : Option Nat) (hcap : ∀ k, cap = some k → c = k) : V ξ Φ μ n (.slice (some a) 0 c) (.eslice cap)
  | nilmap (n : Nat) : V ξ Φ μ n (.map none) .nilmap
  | map (n id : Nat) (h : id < n) : V ξ Φ μ n (.map (some (μ id).block)) (.map id)
  | nilfunc (n : Nat) : V ξ Φ μ n .nilFunc .nilfunc
  | func (n : Nat) (fn : Fn) (fs cs : List Value) (as bs : List AV) (h1 : fs.length = as.length) (h2 : cs.length = bs.length)
      (hf : ∀ (j : Nat) v a, fs[j]? = some v → as[j]? = some a → V ξ Φ μ n v a) (hg : ∀ (j : Nat) v a, cs[j]? = some v → bs[j]? = some a → V ξ Φ μ n v a) :
      V ξ Φ μ n (.func fn fs.toArray cs.toArray) (.func fn as bs)
  | niliface (n : Nat) : V ξ Φ μ n .nilIface .niliface
  | iface (n : Nat) (t : TypeId) (v : Value) (a : AV) (h : V ξ Φ μ n v a) : V ξ Φ μ n (.iface t v) (.iface t a)
  | agg (n : Nat) (vs : List Value) (as : List AV) (hl : vs.length = as.length) (hv : ∀ (j : Nat) v a, vs[j]? = some v → as[j]? = some a → V ξ Φ μ n v a) :
      V ξ Φ μ n (.agg vs.toArray) (.agg as)
  | tuple (n : Nat) (vs : List Value) (as : List AV) (hl : vs.length = as.length) (hv : ∀ (j : Nat) v a, vs[j]? = some v → as[j]? = some a → V ξ Φ μ n v a) :
      V ξ Φ μ n (.tuple vs.toArray) (.tuple as)
  | sym (n : Nat) (s : SV) (v : Value) (h : v = s.eval ξ) : V ξ Φ μ n v (.sym s)
  | yield (n id : Nat) (h : id < n) : V ξ Φ μ n (.func (.yield (μ id).block) #[] #[]) (.yield id)
  | gptr (n g off : Nat) : V ξ Φ μ n (.pointer (some ⟨g, off, none⟩)) (.gptr g off)
  | vslice (n i : Nat) (a : Option Addr) (c : Nat) : V ξ Φ μ n (.slice a (ξ.str i).size c) (.vslice i)

variable {ξ : Env}
def Vs (ξ : Env) (Φ : Nat → Option Obj) (μ : Nat → Pl) (n : Nat) (vs : List Value) (as : List AV) : Prop :=
  vs.length = as.length ∧ ∀ (j : Nat) v a, vs[j]? = some v → as[j]? = some a → V ξ Φ μ n v a

/-- More is known, more objects may be named. -/
theorem V.mono {Φ Φ' : Nat → Option Obj} {μ μ' : Nat → Pl} {n n' : Nat} {v : Value} {a : AV} (hΦ : ∀ b ob, Φ b = some ob → Φ' b = some ob) (hn : n ≤ n')
    (hμ : ∀ i, i < n → μ' i = μ i) (h : V ξ Φ μ n v a) : V ξ Φ' μ' n' v a := by
  induction h generalizing n' with
  | undef n v => exact .undef _ _
  | bool => exact .bool _ _
  | int => exact .int _ _ _
  | str => exact .str _ _
  | nilptr => exact .nilptr _
  | ptr n id off h =>
    have := hμ id h
    rw [← this]
    exact .ptr _ _ _ (Nat.lt_of_lt_of_le h hn)
  | fptr n b o cs t fz vs cells hb hl hc hv ih =>
    exact .fptr _ b o cs t fz vs cells (hΦ _ _ hb) hl hc (fun j v a h1 h2 => ih j v a h1 h2 (Nat.le_refl _) (fun i hi => absurd hi (Nat.not_lt_zero _)))
  | slice n id off len esz ag c cap h hcap hl hsz =>
    have := hμ id h
    rw [← this] at hsz ⊢
    exact .slice _ _ _ _ _ _ _ _ (Nat.lt_of_lt_of_le h hn) hcap hl hsz
  | fnil n esz a c cap hcap => exact .fnil _ _ _ _ _ hcap
  | fslice n b o c esz cap cs t fz ws els hcap hlc hb hl hsz hc hv ih =>
    exact .fslice _ b o c esz cap cs t fz ws els hcap hlc (hΦ _ _ hb) hl hsz hc (fun j w a h1 h2 => ih j w a h1 h2 (Nat.le_refl _) (fun i hi => absurd hi (Nat.not_lt_zero _)))
  | nilslice => exact .nilslice _
  | eslice n a c cap hcap => exact .eslice _ _ _ _ hcap
  | nilmap => exact .nilmap _
  | map n id h =>
    have := hμ id h
    rw [← this]
    exact .map _ _ (Nat.lt_of_lt_of_le h hn)
  | nilfunc => exact .nilfunc _
  | func n fn fs cs as bs h1 h2 hf hg ihf ihg =>
    exact .func _ fn fs cs as bs h1 h2 (fun j v a e1 e2 => ihf j v a e1 e2 hn hμ) (fun j v a e1 e2 => ihg j v a e1 e2 hn hμ)
  | niliface => exact .niliface _
  | iface n t v a h ih => exact .iface _ _ _ _ (ih hn hμ)
  | agg n vs as hl hv ih => exact .agg _ _ _ hl (fun j v a e1 e2 => ih j v a e1 e2 hn hμ)
  | tuple n vs as hl hv ih => exact .tuple _ _ _ hl (fun j v a e1 e2 => ih j v a e1 e2 hn hμ)
  | sym n s v h => exact .sym _ _ _ h
  | yield n id h =>
    have := hμ id h
    rw [← this]
    exact .yield _ _ (Nat.lt_of_lt_of_le h hn)
  | gptr => exact .gptr _ _ _
  | vslice => exact .vslice _ _ _ _

/-- A nil slice is an empty slice. -/
def AV.deN : AV → AV
  | .nilslice => .fslice 0 [] (some 0)
  | .eslice cap => .fslice 0 [] cap
  | z => z
theorem V.deN {Φ : Nat → Option Obj} {μ : Nat → Pl} {n : Nat} {v : Value} {a : AV} (h : V ξ Φ μ n v a) : V ξ Φ μ n v a.deN := by
  cases h with
  | nilslice => exact .fnil _ _ _ _ _ (fun k hk => by simpa using hk)
  | eslice _ a c cap hcap => exact .fnil _ _ _ _ _ hcap
  | undef => exact .undef _ _
  | bool => exact .bool _ _
  | int => exact .int _ _ _
  | str => exact .str _ _
  | nilptr => exact .nilptr _
  | ptr _ id off h => exact .ptr _ _ _ h
  | fptr _ b o cs t fz vs cells hb hl hc hv => exact .fptr _ b o cs t fz vs cells hb hl hc hv
  | slice _ id off len esz ag c cap h hcap hl hsz => exact .slice _ _ _ _ _ _ _ _ h hcap hl hsz
  | fnil _ esz a c cap hcap => exact .fnil _ _ _ _ _ hcap
  | fslice _ b o c esz cap cs t fz ws els hcap hlc hb hl hsz hc hv => exact .fslice _ b o c esz cap cs t fz ws els hcap hlc hb hl hsz hc hv
  | nilmap => exact .nilmap _
  | map _ id h => exact .map _ _ h
  | nilfunc => exact .nilfunc _
  | func _ fn fs cs as bs h1 h2 hf hg => exact .func _ fn fs cs as bs h1 h2 hf hg
  | niliface => exact .niliface _
  | iface _ t v a h => exact .iface _ _ _ _ h
  | agg _ vs as hl hv => exact .agg _ _ _ hl hv
  | tuple _ vs as hl hv => exact .tuple _ _ _ hl hv
  | sym _ s _ h => exact .sym _ _ _ h
  | yield _ id h => exact .yield _ _ h
  | gptr => exact .gptr _ _ _
  | vslice => exact .vslice _ _ _ _

theorem V.up {Φ : Nat → Option Obj} {μ : Nat → Pl} {n : Nat} {v : Value} {a : AV} (h : V ξ Φ μ 0 v a) : V ξ Φ μ n v a :=
  h.mono (fun _ _ h => h) (Nat.zero_le _) (fun _ h => absurd h (Nat.not_lt_zero _))

theorem Vs.mono {Φ Φ' : Nat → Option Obj} {μ μ' : Nat → Pl} {n n' : Nat} {vs : List Value} {as : List AV} (hΦ : ∀ b ob, Φ b = some ob → Φ' b = some ob) (hn : n ≤ n')
    (hμ : ∀ i, i < n → μ' i = μ i) (h : Vs ξ Φ μ n vs as) : Vs ξ Φ' μ' n' vs as :=
  ⟨h.1, fun j v a h1 h2 => (h.2 j v a h1 h2).mono hΦ hn hμ⟩

theorem Vs.nil {Φ : Nat → Option Obj} {μ : Nat → Pl} {n : Nat} : Vs ξ Φ μ n [] [] := ⟨rfl, fun j v a h => by simp at h⟩
theorem Vs.cons {Φ : Nat → Option Obj} {μ : Nat → Pl} {n : Nat} {v : Value} {a : AV} {vs : List Value} {as : List AV} (h : V ξ Φ μ n v a) (hs : Vs ξ Φ μ n vs as) : Vs ξ Φ μ n (v :: vs) (a :: as) := by
  refine ⟨by simp [hs.1], fun j v' a' h1 h2 => ?_⟩
  cases j with
  | zero => simp at h1 h2; subst h1; subst h2; exact h
  | succ j => simp at h1 h2; exact hs.2 j v' a' h1 h2
theorem Vs.head {Φ : Nat → Option Obj} {μ : Nat → Pl} {n : Nat} {v : Value} {a : AV} {vs : List Value} {as : List AV} (h : Vs ξ Φ μ n (v :: vs) (a :: as)) : V ξ Φ μ n v a := h.2 0 v a rfl rfl
theorem Vs.tail {Φ : Nat → Option Obj} {μ : Nat → Pl} {n : Nat} {v : Value} {a : AV} {vs : List Value} {as : List AV} (h : Vs ξ Φ μ n (v :: vs) (a :: as)) : Vs ξ Φ μ n vs as :=
  ⟨by simpa using h.1, fun j v' a' h1 h2 => h.2 (j + 1) v' a' (by simpa using h1) (by simpa using h2)⟩
theorem Vs.append {Φ : Nat → Option Obj} {μ : Nat → Pl} {n : Nat} {vs ws : List Value} {as bs : List AV} (h : Vs ξ Φ μ n vs as) (k : Vs ξ Φ μ n ws bs) : Vs ξ Φ μ n (vs ++ ws) (as ++ bs) := by
  refine ⟨by simp [h.1, k.1], fun j v a h1 h2 => ?_⟩
  rw [List.getElem?_append] at h1 h2
  rw [h.1] at h1
  split at h1
  · rename_i hlt
    rw [if_pos hlt] at h2
    exact h.2 j v a h1 h2
  · rename_i hlt
    rw [if_neg hlt] at h2
    exact k.2 _ v a h1 h2
theorem Vs.drop {Φ : Nat → Option Obj} {μ : Nat → Pl} {n : Nat} {vs : List Value} {as : List AV} (h : Vs ξ Φ μ n vs as) (k : Nat) : Vs ξ Φ μ n (vs.drop k) (as.drop k) :=
  ⟨by simp [h.1], fun j v a h1 h2 => h.2 (k + j) v a (by simpa using h1) (by simpa using h2)⟩
theorem Vs.take {Φ : Nat → Option Obj} {μ : Nat → Pl} {n : Nat} {vs : List Value} {as : List AV} (h : Vs ξ Φ μ n vs as) (k : Nat) : Vs ξ Φ μ n (vs.take k) (as.take k) := by
  refine ⟨by simp [h.1], fun j v a h1 h2 => ?_⟩
  rw [List.getElem?_take] at h1 h2
  split at h1
  · rename_i hlt; rw [if_pos hlt] at h2; exact h.2 j v a h1 h2
  · simp at h1
theorem Vs.get {Φ : Nat → Option Obj} {μ : Nat → Pl} {n : Nat} {vs : List Value} {as : List AV} (h : Vs ξ Φ μ n vs as) {j : Nat} {a : AV} (ha : as[j]? = some a) : ∃ v, vs[j]? = some v ∧ V ξ Φ μ n v a := by
  have hj : j < vs.length := by
    rw [h.1]
    exact (List.getElem?_eq_some_iff.1 ha).1
  exact ⟨vs[j], by simp, h.2 j _ a (by simp) ha⟩

/-- Entries of a map. -/
def Vm (ξ : Env) (Φ : Nat → Option Obj) (μ : Nat → Pl) (en : List MapEntry) (es : List (AV × AV)) : Prop :=
  en.length = es.length ∧ ∀ (j : Nat) e p, en[j]? = some e → es[j]? = some p → V ξ Φ μ 0 e.key p.1 ∧ V ξ Φ μ 0 e.val p.2

def fzOf (str : Bool) (n : Nat) : Nat × Nat := if str then (n, n + 1) else (0, 0)

/-- What the slots hold. -/
def TR (ξ : Env) (Φ : Nat → Option Obj) (μ : Nat → Pl) (n : Nat) (tmps : Array Value) (l : List (Nat × AV)) : Prop := ∀ t x, lk l t = some x → ∃ v, tmps[t]? = some v ∧ V ξ Φ μ n v x
theorem TR.mono {Φ Φ' : Nat → Option Obj} {μ μ' : Nat → Pl} {n n' : Nat} {tmps : Array Value} {l : List (Nat × AV)} (hΦ : ∀ b ob, Φ b = some ob → Φ' b = some ob) (hn : n ≤ n')
    (hμ : ∀ i, i < n → μ' i = μ i) (h : TR ξ Φ μ n tmps l) : TR ξ Φ' μ' n' tmps l := fun t x hx =>
  let ⟨v, h1, h2⟩ := h t x hx
  ⟨v, h1, h2.mono hΦ hn hμ⟩

def OR (ξ : Env) (Φ : Nat → Option Obj) (μ : Nat → Pl) (n : Nat) (w : World) (p : Pl) : AObj → Prop
  | .cells str cs => ∃ c t vs, w.heap[p.block]? = some (.cells c t (fzOf str p.size)) ∧ c.size = p.size ∧ p.base + cs.length ≤ p.size ∧
      (∀ (j : Nat) v, vs[j]? = some v → c[p.base + j]? = some v) ∧ Vs ξ Φ μ n vs cs
  | .map es bs clock => ∃ en, w.heap[p.block]? = some (.map en clock) ∧ Vm ξ Φ μ en.toList es ∧ (∀ e ∈ en.toList, e.born < clock) ∧ en.toList.Pairwise (fun x y => x.born < y.born) ∧ en.toList.map (·.born) = bs
  | .loop st pend fn nt t ps asg body => ∃ L : Loop, w.heap[p.block]? = some (.loop L) ∧ L.state = st ∧ L.pending = pend ∧ L.tmps.size = nt ∧ TR ξ Φ μ n L.tmps t ∧ L.params.toList = ps ∧ L.assign = asg ∧ L.body = body
  | .dfr => w.heap[p.block]? = some (.deferred (some []))
  | .miter m k st seen => ∃ (mb : Option Nat) (since clock : Nat) (sn : Array Nat), w.heap[p.block]? = some (.mapIter mb since sn clock) ∧ sn.toList = seen ∧ (since = k ∧ since ≤ clock ∧ p.base = 0) ∧ clock = st ∧ match m with
    | none => mb = none
    | some id => id < n ∧ mb = some (μ id).block

/-- How the abstract heap stands to the world; 'w0': the world in which the run began. -/
structure R (ξ : Env) (Φ : Nat → Option Obj) (μ : Nat → Pl) (H : AH) (w : World) : Prop where
  obj : ∀ i o, H.get i = some o → OR ξ Φ μ H.next w (μ i) o
  lt : ∀ i o, H.get i = some o → i < H.next
  inj : ∀ i j a b, H.get i = some a → H.get j = some b → i ≠ j → (μ i).block ≠ (μ j).block
  frz : ∀ b ob, Φ b = some ob → w.heap[b]? = some ob
  dis : ∀ i a b ob, H.get i = some a → Φ b = some ob → (μ i).block ≠ b
  glob : ∀ g cs, H.gl g = some cs → ∃ c t fz vs, Φ g = some (.cells c t fz) ∧ (∀ (j : Nat) v, vs[j]? = some v → c[j]? = some v) ∧ Vs ξ Φ μ 0 vs cs

/-- From one state to a later one: what is known and named stays so; only owned blocks and new ones have turned, are owned, or are known now. -/
structure T (Φ : Nat → Option Obj) (μ : Nat → Pl) (H : AH) (w : World) (Φ' : Nat → Option Obj) (μ' : Nat → Pl) (H' : AH) (w' : World) : Prop where
  phi : ∀ b ob, Φ b = some ob → Φ' b = some ob
  mu : ∀ i, i < H.next → μ' i = μ i
  next : H.next ≤ H'.next
  size : w.heap.size ≤ w'.heap.size
  os : w'.os = w.os
  tape : w'.tape = w.tape
  output : w'.output = w.output
  same : ∀ b, b < w.heap.size → (∀ i o, H.get i = some o → (μ i).block ≠ b) → w'.heap[b]? = w.heap[b]?
  own : ∀ i o, H'.get i = some o → (∃ j p, H.get j = some p ∧ (μ' i).block = (μ j).block) ∨ w.heap.size ≤ (μ' i).block
  kno : ∀ b ob, Φ' b = some ob → Φ b = some ob ∨ (∃ j p, H.get j = some p ∧ b = (μ j).block) ∨ w.heap.size ≤ b

theorem glob_mono {Φ Φ' : Nat → Option Obj} {μ μ' : Nat → Pl} {g : Nat} {cs : List AV} (hΦ : ∀ b ob, Φ b = some ob → Φ' b = some ob)
    (h : ∃ c t fz vs, Φ g = some (.cells c t fz) ∧ (∀ (j : Nat) v, vs[j]? = some v → c[j]? = some v) ∧ Vs ξ Φ μ 0 vs cs) :
    ∃ c t fz vs, Φ' g = some (.cells c t fz) ∧ (∀ (j : Nat) v, vs[j]? = some v → c[j]? = some v) ∧ Vs ξ Φ' μ' 0 vs cs :=
  let ⟨c, t, fz, vs, h1, h2, h3⟩ := h
  ⟨c, t, fz, vs, hΦ _ _ h1, h2, h3.mono hΦ (Nat.le_refl _) (fun _ hi => absurd hi (Nat.not_lt_zero _))⟩

theorem T.refl (Φ : Nat → Option Obj) (μ : Nat → Pl) (H : AH) (w : World) : T Φ μ H w Φ μ H w :=
  ⟨fun _ _ h => h, fun _ _ => rfl, Nat.le_refl _, Nat.le_refl _, rfl, rfl, rfl, fun _ _ _ => rfl, fun i o h => .inl ⟨i, o, h, rfl⟩, fun _ _ h => .inl h⟩

theorem T.trans {Φ₁ Φ₂ Φ₃ : Nat → Option Obj} {μ₁ μ₂ μ₃ : Nat → Pl} {H₁ H₂ H₃ : AH} {w₁ w₂ w₃ : World} (h : T Φ₁ μ₁ H₁ w₁ Φ₂ μ₂ H₂ w₂) (k : T Φ₂ μ₂ H₂ w₂ Φ₃ μ₃ H₃ w₃) :
    T Φ₁ μ₁ H₁ w₁ Φ₃ μ₃ H₃ w₃ where
  phi b ob hb := k.phi b ob (h.phi b ob hb)
  mu i hi := (k.mu i (Nat.lt_of_lt_of_le hi h.next)).trans (h.mu i hi)
  next := Nat.le_trans h.next k.next
  size := Nat.le_trans h.size k.size
  os := k.os.trans h.os
  tape := k.tape.trans h.tape
  output := k.output.trans h.output
  same b hb hno := by
    refine (k.same b (Nat.lt_of_lt_of_le hb h.size) fun i o hi he => ?_).trans (h.same b hb hno)
    rcases h.own i o hi with ⟨j, p, hj, e⟩ | hge
    · exact hno j p hj (e ▸ he)
    · omega
  own i o hi := by
    rcases k.own i o hi with ⟨j, p, hj, e⟩ | hge
    · rcases h.own j p hj with ⟨l, q, hl, e'⟩ | hge
      · exact .inl ⟨l, q, hl, e.trans e'⟩
      · exact .inr (e ▸ hge)
    · exact .inr (Nat.le_trans h.size hge)
  kno b ob hb := by
    rcases k.kno b ob hb with hb' | ⟨j, p, hj, e⟩ | hge
    · exact h.kno b ob hb'
    · rcases h.own j p hj with ⟨l, q, hl, e'⟩ | hge
      · exact .inr (.inl ⟨l, q, hl, e.trans e'⟩)
      · exact .inr (.inr (e ▸ hge))
    · exact .inr (.inr (Nat.le_trans h.size hge))

theorem OR.mono {Φ Φ' : Nat → Option Obj} {μ μ' : Nat → Pl} {n n' : Nat} {w w' : World} {p : Pl} {o : AObj} (hΦ : ∀ b ob, Φ b = some ob → Φ' b = some ob) (hn : n ≤ n')
    (hμ : ∀ i, i < n → μ' i = μ i) (hw : w'.heap[p.block]? = w.heap[p.block]?) (h : OR ξ Φ μ n w p o) : OR ξ Φ' μ' n' w' p o := by
  cases o with
  | cells str cs =>
    obtain ⟨c, t, vs, h1, h2, h3, h4, h5⟩ := h
    exact ⟨c, t, vs, hw.trans h1, h2, h3, h4, h5.mono hΦ hn hμ⟩
  | map es bs clock =>
    obtain ⟨en, h1, h2, h3, h4, h5⟩ := h
    refine ⟨en, hw.trans h1, ⟨h2.1, fun j e p e1 e2 => ?_⟩, h3, h4, h5⟩
    have := h2.2 j e p e1 e2
    exact ⟨this.1.mono hΦ (Nat.le_refl _) (fun i hi => absurd hi (Nat.not_lt_zero _)), this.2.mono hΦ (Nat.le_refl _) (fun i hi => absurd hi (Nat.not_lt_zero _))⟩
  | loop st pend fn nt t ps asg body =>
    obtain ⟨L, h1, h2, h3, h4, h5, h6⟩ := h
    exact ⟨L, hw.trans h1, h2, h3, h4, h5.mono hΦ hn hμ, h6⟩
  | dfr => exact hw.trans h
  | miter m k st seen =>
    obtain ⟨mb, since, clock, sn, h1, h2, h3, hc, h4⟩ := h
    refine ⟨mb, since, clock, sn, hw.trans h1, h2, h3, hc, ?_⟩
    cases m with
    | none => exact h4
    | some id => exact ⟨Nat.lt_of_lt_of_le h4.1 hn, by rw [hμ id h4.1]; exact h4.2⟩

theorem R.block_lt {Φ : Nat → Option Obj} {μ : Nat → Pl} {H : AH} {w : World} (h : R ξ Φ μ H w) {i : Nat} {o : AObj} (hi : H.get i = some o) : (μ i).block < w.heap.size := by
  have := h.obj i o hi
  have key : ∃ ob, w.heap[(μ i).block]? = some ob := by
    cases o with
    | cells str cs => obtain ⟨c, t, vs, h1, _⟩ := this; exact ⟨_, h1⟩
    | map es bs clock => obtain ⟨en, h1, _⟩ := this; exact ⟨_, h1⟩
    | loop => obtain ⟨L, h1, _⟩ := this; exact ⟨_, h1⟩
    | dfr => exact ⟨_, this⟩
    | miter => obtain ⟨mb, since, clock, sn, h1, _⟩ := this; exact ⟨_, h1⟩
  obtain ⟨ob, hob⟩ := key
  rcases Nat.lt_or_ge (μ i).block w.heap.size with h' | h'
  · exact h'
  · simp [Array.getElem?_eq_none h'] at hob

/-- A draw turns nothing. -/
theorem R.drew {Φ : Nat → Option Obj} {μ : Nat → Pl} {H : AH} {w w' : World} (h : R ξ Φ μ H w) (hh : w'.heap = w.heap) : R ξ Φ μ H w' where
  obj i o hi := (h.obj i o hi).mono (fun _ _ h => h) (Nat.le_refl _) (fun _ _ => rfl) (by rw [hh])
  lt := h.lt
  inj := h.inj
  frz b ob hb := by rw [hh]; exact h.frz b ob hb
  dis := h.dis
  glob := h.glob
theorem T.drew {Φ : Nat → Option Obj} {μ : Nat → Pl} {H : AH} {w w' : World} (hh : w'.heap = w.heap) (ho : w'.os = w.os) (ht : w'.tape = w.tape) (hu : w'.output = w.output) : T Φ μ H w Φ μ H w' :=
  ⟨fun _ _ h => h, fun _ _ => rfl, Nat.le_refl _, by rw [hh]; exact Nat.le_refl _, ho, ht, hu, fun b _ _ => by rw [hh], fun i o h => .inl ⟨i, o, h, rfl⟩, fun _ _ h => .inl h⟩

def upd (μ : Nat → Pl) (i : Nat) (p : Pl) : Nat → Pl := fun j => if j = i then p else μ j
theorem upd_same (μ : Nat → Pl) (i : Nat) (p : Pl) : upd μ i p i = p := by simp [upd]
theorem upd_other (μ : Nat → Pl) (i : Nat) (p : Pl) (j : Nat) (h : j ≠ i) : upd μ i p j = μ j := by simp [upd, h]

/-- A new object in a new block. -/
theorem R.push {Φ : Nat → Option Obj} {μ : Nat → Pl} {H : AH} {w w' : World} (h : R ξ Φ μ H w) (o : AObj) (p : Pl) (hp : p.block = w.heap.size) (hsz : w.heap.size ≤ w'.heap.size)
    (hw : ∀ b, b < w.heap.size → w'.heap[b]? = w.heap[b]?) (ho : OR ξ Φ (upd μ H.next p) (H.next + 1) w' p o) : R ξ Φ (upd μ H.next p) (H.push o) w' where
  obj i o' hi := by
    rw [AH.get_push] at hi
    split at hi
    · rename_i e
      simp only [Option.some.injEq] at hi
      subst e; subst hi
      rw [upd_same]; exact ho
    · rename_i e
      rw [upd_other _ _ _ _ (Ne.symm e)]
      exact (h.obj i o' hi).mono (fun _ _ h => h) (Nat.le_succ _) (fun j hj => upd_other _ _ _ _ (Nat.ne_of_lt hj)) (hw _ (h.block_lt hi))
  lt i o' hi := by
    rw [AH.get_push] at hi
    split at hi
    · rename_i e; rw [← e]; exact Nat.lt_succ_self _
    · exact Nat.lt_succ_of_lt (h.lt i o' hi)
  inj i j a b hi hj hne := by
    rw [AH.get_push] at hi hj
    split at hi <;> split at hj
    · rename_i e1 e2; exact absurd (e1.symm.trans e2) hne
    · rename_i e1 e2
      rw [← e1, upd_same, upd_other _ _ _ _ (Ne.symm e2), hp]
      exact Nat.ne_of_gt (h.block_lt hj)
    · rename_i e1 e2
      rw [← e2, upd_same, upd_other _ _ _ _ (Ne.symm e1), hp]
      exact Nat.ne_of_lt (h.block_lt hi)
    · rename_i e1 e2
      rw [upd_other _ _ _ _ (Ne.symm e1), upd_other _ _ _ _ (Ne.symm e2)]
      exact h.inj i j a b hi hj hne
  frz b ob hb := by
    have h1 := h.frz b ob hb
    have : b < w.heap.size := by
      rcases Nat.lt_or_ge b w.heap.size with h' | h'
      · exact h'
      · simp [Array.getElem?_eq_none h'] at h1
    rw [hw b this]; exact h1
  dis i a b ob hi hb := by
    rw [AH.get_push] at hi
    split at hi
    · rename_i e
      rw [← e, upd_same, hp]
      intro he
      have h1 := h.frz b ob hb
      rw [← he] at h1
      simp at h1
    · rename_i e
      rw [upd_other _ _ _ _ (Ne.symm e)]
      exact h.dis i a b ob hi hb
  glob g cs hg := glob_mono (fun _ _ h => h) (h.glob g cs hg)

theorem T.push {Φ : Nat → Option Obj} {μ : Nat → Pl} {H : AH} {w w' : World} (_h : R ξ Φ μ H w) (o : AObj) (p : Pl) (hp : p.block = w.heap.size) (hsz : w.heap.size ≤ w'.heap.size)
    (hw : ∀ b, b < w.heap.size → w'.heap[b]? = w.heap[b]?) (ho : w'.os = w.os) (ht : w'.tape = w.tape) (hu : w'.output = w.output) : T Φ μ H w Φ (upd μ H.next p) (H.push o) w' where
  phi _ _ h := h
  mu i hi := upd_other _ _ _ _ (Nat.ne_of_lt hi)
  next := Nat.le_succ _
  size := hsz
  os := ho
  tape := ht
  output := hu
  same b hb _ := hw b hb
  own i o' hi := by
    rw [AH.get_push] at hi
    split at hi
    · rename_i e; rw [← e, upd_same, hp]; exact .inr (Nat.le_refl _)
    · rename_i e; rw [upd_other _ _ _ _ (Ne.symm e)]; exact .inl ⟨i, o', hi, rfl⟩
  kno _ _ h := .inl h

/-- An object of the heap has turned in its place. -/
theorem R.set {Φ : Nat → Option Obj} {μ : Nat → Pl} {H : AH} {w w' : World} (h : R ξ Φ μ H w) (i : Nat) (old o : AObj) (hi : H.get i = some old)
    (hw : ∀ b, b ≠ (μ i).block → w'.heap[b]? = w.heap[b]?) (ho : OR ξ Φ μ H.next w' (μ i) o) : R ξ Φ μ (H.set i o) w' where
  obj j o' hj := by
    rw [AH.get_set] at hj
    split at hj
    · rename_i e
      simp only [Option.some.injEq] at hj
      subst e; subst hj; exact ho
    · rename_i e
      exact (h.obj j o' hj).mono (fun _ _ h => h) (Nat.le_refl _) (fun _ _ => rfl) (hw _ (h.inj j i _ _ hj hi (Ne.symm e)))
  lt j o' hj := by
    rw [AH.get_set] at hj
    split at hj
    · rename_i e; rw [← e]; exact h.lt i old hi
    · exact h.lt j o' hj
  inj j k a b hj hk hne := by
    rw [AH.get_set] at hj hk
    split at hj <;> split at hk
    · rename_i e1 e2; exact absurd (e1.symm.trans e2) hne
    · rename_i e1 e2; rw [← e1]; exact h.inj i k _ _ hi hk e2
    · rename_i e1 e2; rw [← e2]; exact h.inj j i _ _ hj hi (Ne.symm e1)
    · exact h.inj j k a b hj hk hne
  frz b ob hb := by
    rw [hw b (fun e => h.dis i old b ob hi hb e.symm)]; exact h.frz b ob hb
  dis j a b ob hj hb := by
    rw [AH.get_set] at hj
    split at hj
    · rename_i e; rw [← e]; exact h.dis i old b ob hi hb
    · exact h.dis j a b ob hj hb
  glob := h.glob

theorem T.set {Φ : Nat → Option Obj} {μ : Nat → Pl} {H : AH} {w w' : World} (i : Nat) (old o : AObj) (hi : H.get i = some old)
    (hw : ∀ b, b ≠ (μ i).block → w'.heap[b]? = w.heap[b]?) (hsz : w.heap.size ≤ w'.heap.size) (ho : w'.os = w.os) (ht : w'.tape = w.tape) (hu : w'.output = w.output) : T Φ μ H w Φ μ (H.set i o) w' where
  phi _ _ h := h
  mu _ _ := rfl
  next := Nat.le_refl _
  size := hsz
  os := ho
  tape := ht
  output := hu
  same b hb hno := hw b (fun e => hno i old hi e.symm)
  own j o' hj := by
    rw [AH.get_set] at hj
    split at hj
    · rename_i e; rw [← e]; exact .inl ⟨i, old, hi, rfl⟩
    · exact .inl ⟨j, o', hj, rfl⟩
  kno _ _ h := .inl h

/-- Forgetting objects. -/
theorem R.forget {Φ : Nat → Option Obj} {μ : Nat → Pl} {H H' : AH} {w : World} (h : R ξ Φ μ H w) (hn : H'.next = H.next) (hs : ∀ i o, H'.get i = some o → H.get i = some o) (hgl : ∀ g cs, H'.gl g = some cs → H.gl g = some cs) : R ξ Φ μ H' w where
  obj i o hi := hn ▸ h.obj i o (hs i o hi)
  lt i o hi := hn ▸ h.lt i o (hs i o hi)
  inj i j a b hi hj := h.inj i j a b (hs i a hi) (hs j b hj)
  frz := h.frz
  dis i a b ob hi := h.dis i a b ob (hs i a hi)
  glob g cs hg := h.glob g cs (hgl g cs hg)
end Go.Ai
end
