/- THE EVALUATOR: symbolic values; freezing. -/
import Derived.Test.YtaghpkljmnpjoaaGreatDoorEH
set_option linter.unusedVariables false
set_option linter.unusedSimpArgs false
noncomputable section
namespace Go.Ai
variable {ξ : Env}

/-- What is known of the symbols: bounds of lengths; answers. -/
structure X where
  bd : List (Nat × Nat × Nat)
  kn : List (BE × Bool)
def X.holds (ξ : Env) (x : X) : Prop := (∀ p ∈ x.bd, p.2.1 ≤ (ξ.str p.1).size ∧ (ξ.str p.1).size ≤ p.2.2) ∧ ∀ p ∈ x.kn, p.1.eval ξ = p.2

def bdL : List (Nat × Nat × Nat) → Nat → Option (Nat × Nat)
  | [], _ => none
  | (j, b) :: r, i => bif Nat.beq j i then some b else bdL r i
theorem bdL_mem : ∀ {l : List (Nat × Nat × Nat)} {i : Nat} {b : Nat × Nat}, bdL l i = some b → (i, b) ∈ l
  | [], _, _, h => by cases h
  | (j, b') :: r, i, b, h => by
    simp only [bdL] at h
    cases hb : Nat.beq j i
    · rw [hb] at h; exact List.mem_cons_of_mem _ (bdL_mem h)
    · rw [hb] at h
      cases h
      rw [Nat.eq_of_beq_eq_true hb]; exact List.mem_cons_self
theorem X.bound {x : X} (h : x.holds ξ) {i lo hi : Nat} (hb : bdL x.bd i = some (lo, hi)) : lo ≤ (ξ.str i).size ∧ (ξ.str i).size ≤ hi := h.1 _ (bdL_mem hb)

def eqBA (a b : ByteArray) : Bool := decide (a = b)
def BE.beq : BE → BE → Bool
  | .lt i n, .lt j m => Nat.beq i j && decide (n = m)
  | .eqs i s, .eqs j t => Nat.beq i j && eqBA s t
  | .eqv i j, .eqv k l => Nat.beq i k && Nat.beq j l
  | _, _ => false
theorem BE.beq_eq {a b : BE} (h : a.beq b = true) : a = b := by
  cases a <;> cases b <;> simp only [BE.beq, eqBA, Bool.and_eq_true, decide_eq_true_eq] at h <;> first | (cases h; done) | skip
  · rw [Nat.eq_of_beq_eq_true h.1, h.2]
  · rw [Nat.eq_of_beq_eq_true h.1, h.2]
  · rw [Nat.eq_of_beq_eq_true h.1, Nat.eq_of_beq_eq_true h.2]
def knL : List (BE × Bool) → BE → Option Bool
  | [], _ => none
  | (c, t) :: r, b => bif c.beq b then some t else knL r b
theorem knL_mem : ∀ {l : List (BE × Bool)} {b : BE} {t : Bool}, knL l b = some t → (b, t) ∈ l
  | [], _, _, h => by cases h
  | (c, t') :: r, b, t, h => by
    simp only [knL] at h
    cases hb : c.beq b
    · rw [hb] at h; exact List.mem_cons_of_mem _ (knL_mem h)
    · rw [hb] at h
      cases h
      rw [BE.beq_eq hb]; exact List.mem_cons_self

/-- An answer, if it is known. -/
def X.dec (x : X) (b : BE) : Option Bool :=
  match knL x.kn b with
  | some t => some t
  | none => match b with
    | .lt i n => match bdL x.bd i with
      | some (lo, hi) => if (hi : Int) < n then some true else if n ≤ (lo : Int) then some false else none
      | none => if n ≤ 0 then some false else none
    | .eqs i s => match bdL x.bd i with
      | some (lo, hi) => if s.size < lo ∨ hi < s.size then some false else none
      | none => none
    | .eqv i j => if i = j then some true else none
theorem X.dec_ok {x : X} (h : x.holds ξ) {b : BE} {t : Bool} (hd : x.dec b = some t) : b.eval ξ = t := by
  unfold X.dec at hd
  split at hd
  · rename_i t' hk
    cases hd
    exact h.2 _ (knL_mem hk)
  · split at hd
    · rename_i i n
      split at hd
      · rename_i lo hi hb
        obtain ⟨h1, h2⟩ := X.bound h hb
        split at hd
        · cases hd; simp only [BE.eval, decide_eq_true_eq]; omega
        · split at hd
          · cases hd; simp only [BE.eval, decide_eq_false_iff_not]; omega
          · cases hd
      · split at hd
        · cases hd; simp only [BE.eval, decide_eq_false_iff_not]; omega
        · cases hd
    · rename_i i s
      split at hd
      · rename_i lo hi hb
        obtain ⟨h1, h2⟩ := X.bound h hb
        split at hd
        · cases hd
          simp only [BE.eval, decide_eq_false_iff_not]
          intro e
          rw [e] at h1 h2
          omega
        · cases hd
      · cases hd
    · rename_i i j
      split at hd
      · rename_i e
        cases hd
        simp [BE.eval, e]
      · cases hd
/-- An answer that is taken as given. -/
def X.add (x : X) (b : BE) (t : Bool) : X :=
  match b, t with
  | .lt i n, true => match bdL x.bd i with
    | some (lo, hi) => ⟨(i, lo, min hi (n - 1).toNat) :: x.bd, (b, t) :: x.kn⟩
    | none => ⟨(i, 0, (n - 1).toNat) :: x.bd, (b, t) :: x.kn⟩
  | .lt i n, false => match bdL x.bd i with
    | some (lo, hi) => ⟨(i, max lo n.toNat, hi) :: x.bd, (b, t) :: x.kn⟩
    | none => ⟨x.bd, (b, t) :: x.kn⟩
  | _, _ => ⟨x.bd, (b, t) :: x.kn⟩
theorem X.add_ok {x : X} (h : x.holds ξ) {b : BE} {t : Bool} (ht : b.eval ξ = t) : (x.add b t).holds ξ := by
  have hk : ∀ p ∈ (b, t) :: x.kn, p.1.eval ξ = p.2 := by
    intro p hp
    rcases List.mem_cons.1 hp with rfl | hp
    · exact ht
    · exact h.2 p hp
  unfold X.add
  split
  · rename_i i n
    simp only [BE.eval, decide_eq_true_eq] at ht
    split
    · rename_i lo hi hb
      obtain ⟨h1, h2⟩ := X.bound h hb
      refine ⟨fun p hp => ?_, hk⟩
      rcases List.mem_cons.1 hp with rfl | hp
      · exact ⟨h1, by simp only; omega⟩
      · exact h.1 p hp
    · refine ⟨fun p hp => ?_, hk⟩
      rcases List.mem_cons.1 hp with rfl | hp
      · exact ⟨Nat.zero_le _, by simp only; omega⟩
      · exact h.1 p hp
  · rename_i i n
    simp only [BE.eval, decide_eq_false_iff_not] at ht
    split
    · rename_i lo hi hb
      obtain ⟨h1, h2⟩ := X.bound h hb
      refine ⟨fun p hp => ?_, hk⟩
      rcases List.mem_cons.1 hp with rfl | hp
      · exact ⟨by simp only; omega, h2⟩
      · exact h.1 p hp
    · exact ⟨h.1, hk⟩
  · exact ⟨h.1, hk⟩

/- Texts. -/
theorem evalSp_append : ∀ (a b : List Sp), evalSp ξ (a ++ b) = evalSp ξ a ++ evalSp ξ b
  | [], b => by
    apply bytes_inj
    simp [evalSp, bytes]
  | x :: a, b => by
    rw [List.cons_append, evalSp, evalSp, evalSp_append a b]
    apply bytes_inj
    simp [bytes]
def catSp : List Sp → List Sp → List Sp
  | [], f => f
  | [.lit a], .lit b :: f => .lit (a ++ b) :: f
  | x :: e, f => x :: catSp e f
theorem catSp_eval : ∀ (a b : List Sp), evalSp ξ (catSp a b) = evalSp ξ a ++ evalSp ξ b := by
  intro a b
  fun_induction catSp a b with
  | case1 f => apply bytes_inj; simp [evalSp, bytes]
  | case2 a b f => apply bytes_inj; simp [evalSp, bytes, Sp.eval]
  | case3 f x e _ ih => apply bytes_inj; simp [evalSp, ih, bytes]
def asSp : AV → Option (List Sp)
  | .str s => some [.lit s]
  | .sym (.str e) => some e
  | _ => none
theorem asSp_ok {Φ : Nat → Option Obj} {μ : Nat → Pl} {n : Nat} {v : Value} {a : AV} {e : List Sp} (h : asSp a = some e) (hv : V ξ Φ μ n v a) : v = .string (evalSp ξ e) := by
  unfold asSp at h
  split at h
  · cases h
    cases hv
    simp only [evalSp, Sp.eval]
    congr 1
    apply bytes_inj; simp [bytes]
  · cases h
    cases hv
    assumption
  · cases h
def lenSp : List Sp → Option (Option Nat × Nat)
  | [] => some (none, 0)
  | .lit s :: r => match lenSp r with
    | some (i, c) => some (i, s.size + c)
    | none => none
  | .var i :: r => match lenSp r with
    | some (none, c) => some (some i, c)
    | _ => none
theorem size_append (a b : ByteArray) : (a ++ b).size = a.size + b.size := by simp
theorem lenSp_ok : ∀ {e : List Sp} {i : Option Nat} {c : Nat}, lenSp e = some (i, c) → (evalSp ξ e).size = (match i with | some j => (ξ.str j).size | none => 0) + c
  | [], i, c, h => by cases h; rfl
  | .lit s :: r, i, c, h => by
    simp only [lenSp] at h
    split at h
    · rename_i i' c' hr
      cases h
      rw [evalSp, size_append, lenSp_ok hr]
      simp only [Sp.eval]; omega
    · cases h
  | .var j :: r, i, c, h => by
    simp only [lenSp] at h
    split at h
    · rename_i c' hr
      cases h
      rw [evalSp, size_append, lenSp_ok hr]
      simp only [Sp.eval]; omega
    · cases h
/-- The length, at most. -/
def ubSp (x : X) : List Sp → Option Nat
  | [] => some 0
  | .lit s :: r => match ubSp x r with
    | some c => some (s.size + c)
    | none => none
  | .var i :: r => match ubSp x r, bdL x.bd i with
    | some c, some (_, hi) => some (hi + c)
    | _, _ => none
theorem ubSp_ok {x : X} (hx : x.holds ξ) : ∀ {e : List Sp} {c : Nat}, ubSp x e = some c → (evalSp ξ e).size ≤ c
  | [], c, h => by cases h; exact Nat.le_refl _
  | .lit s :: r, c, h => by
    simp only [ubSp] at h
    split at h
    · rename_i c' hr
      cases h
      rw [evalSp, size_append]
      have := ubSp_ok hx hr
      simp only [Sp.eval]; omega
    · cases h
  | .var j :: r, c, h => by
    simp only [ubSp] at h
    split at h
    · rename_i c' lo hi hr hb
      cases h
      rw [evalSp, size_append]
      have := ubSp_ok hx hr
      have := (X.bound hx hb).2
      simp only [Sp.eval]; omega
    · cases h

def Sp.beq : Sp → Sp → Bool
  | .lit a, .lit b => eqBA a b
  | .var i, .var j => Nat.beq i j
  | _, _ => false
theorem Sp.beq_eq {a b : Sp} (h : a.beq b = true) : a = b := by
  cases a <;> cases b <;> simp only [Sp.beq, eqBA, decide_eq_true_eq] at h <;> first | (cases h; done) | skip
  · rw [h]
  · rw [Nat.eq_of_beq_eq_true h]
def beqSp : List Sp → List Sp → Bool
  | [], [] => true
  | a :: r, b :: s => a.beq b && beqSp r s
  | _, _ => false
theorem beqSp_eq : ∀ {a b : List Sp}, beqSp a b = true → a = b
  | [], [], _ => rfl
  | a :: r, b :: s, h => by
    simp only [beqSp, Bool.and_eq_true] at h
    rw [Sp.beq_eq h.1, beqSp_eq h.2]
  | [], _ :: _, h => by cases h
  | _ :: _, [], h => by cases h

/-- The literal, if it is one. -/
def litSp : List Sp → Option ByteArray
  | [] => some ⟨#[]⟩
  | [.lit a] => some a
  | _ => none
theorem litSp_ok {e : List Sp} {s : ByteArray} (h : litSp e = some s) : evalSp ξ e = s := by
  unfold litSp at h
  split at h
  · cases h; rfl
  · cases h
    apply bytes_inj; simp [evalSp, Sp.eval, bytes]
  · cases h
inductive An where
  | yes (t : Bool)
  | ask (b : BE)
def eqSp (a b : List Sp) : Option An :=
  bif beqSp a b then some (.yes true) else
  match litSp a, litSp b with
  | some s, some t => some (.yes (eqBA s t))
  | some s, none => match b with
    | [.var i] => some (.ask (.eqs i s))
    | _ => none
  | none, some s => match a with
    | [.var i] => some (.ask (.eqs i s))
    | _ => none
  | none, none => match a, b with
    | [.var i], [.var j] => some (.ask (.eqv i j))
    | [.var i, .lit s], [.var j, .lit t] => bif Nat.beq i j then some (.yes (eqBA s t)) else none
    | _, _ => none
def An.eval (ξ : Env) : An → Bool
  | .yes t => t
  | .ask b => b.eval ξ
theorem evalSp_var (i : Nat) : evalSp ξ [.var i] = ξ.str i := by
  apply bytes_inj; simp [evalSp, Sp.eval, bytes]
theorem eqSp_ok {a b : List Sp} {r : An} (h : eqSp a b = some r) : decide (evalSp ξ a = evalSp ξ b) = r.eval ξ := by
  unfold eqSp at h
  cases hb : beqSp a b
  · rw [hb] at h
    simp only [cond_false] at h
    split at h
    · rename_i s t hs ht
      cases h
      rw [litSp_ok hs, litSp_ok ht]; rfl
    · rename_i s hs ht
      split at h
      · rename_i i
        cases h
        rw [litSp_ok hs, evalSp_var]
        simp only [An.eval, BE.eval]
        by_cases e : s = ξ.str i
        · rw [decide_eq_true e, decide_eq_true e.symm]
        · rw [decide_eq_false e, decide_eq_false (Ne.symm e)]
      · cases h
    · rename_i s hs ht
      split at h
      · rename_i i
        cases h
        rw [litSp_ok ht, evalSp_var]; rfl
      · cases h
    · split at h
      · rename_i i j _ _ _
        cases h
        rw [evalSp_var, evalSp_var]; rfl
      · rename_i i s j t _ _
        cases hij : Nat.beq i j
        · rw [hij] at h; cases h
        · rw [hij] at h
          cases h
          have := Nat.eq_of_beq_eq_true hij
          subst this
          simp only [An.eval, eqBA]
          have key : evalSp ξ [.var i, .lit s] = evalSp ξ [.var i, .lit t] ↔ s = t := by
            constructor
            · intro e
              have := congrArg bytes e
              simp [evalSp, Sp.eval, bytes] at this
              exact bytes_inj (by simp [bytes, this])
            · rintro rfl; rfl
          by_cases e : s = t
          · rw [decide_eq_true e, decide_eq_true (key.2 e)]
          · rw [decide_eq_false e, decide_eq_false (fun h => e (key.1 h))]
      · cases h
  · rw [hb] at h
    cases h
    rw [beqSp_eq hb]
    simp [An.eval]

def anV (neg : Bool) : An → AV
  | .yes t => .bool (neg != t)
  | .ask b => .sym (.bool neg b)
theorem anV_ok {Φ : Nat → Option Obj} {μ : Nat → Pl} {n : Nat} {neg : Bool} {r : An} : V ξ Φ μ n (.bool (neg != r.eval ξ)) (anV neg r) := by
  cases r with
  | yes t => exact .bool _ _
  | ask b => exact .sym n (.bool neg b) _ rfl

/-- A length, if it is one: the symbol, what is added. -/
def asLen : AV → Option (Nat × Int)
  | .sym (.len i c) => some (i, c)
  | _ => none
def asLit : AV → Option Int
  | .int .i64 n => some n
  | _ => none
theorem asLen_ok {Φ : Nat → Option Obj} {μ : Nat → Pl} {n : Nat} {v : Value} {a : AV} {i : Nat} {c : Int} (h : asLen a = some (i, c)) (hv : V ξ Φ μ n v a) : v = .int .i64 ((ξ.str i).size + c) := by
  unfold asLen at h
  split at h
  · cases h; cases hv; assumption
  · cases h
theorem asLit_ok {Φ : Nat → Option Obj} {μ : Nat → Pl} {n : Nat} {v : Value} {a : AV} {c : Int} (h : asLit a = some c) (hv : V ξ Φ μ n v a) : v = .int .i64 c := by
  unfold asLit at h
  split at h
  · cases h; cases hv; rfl
  · cases h

/-- size(i) + c compared with n. -/
def cmpL (op : BinOp) (i : Nat) (c n : Int) : Option AV :=
  match op with
  | .lss => some (.sym (.bool false (.lt i (n - c))))
  | .leq => some (.sym (.bool false (.lt i (n - c + 1))))
  | .gtr => some (.sym (.bool true (.lt i (n - c + 1))))
  | .geq => some (.sym (.bool true (.lt i (n - c))))
  | .eql => if n - c = 0 then some (.sym (.bool false (.lt i 1))) else none
  | .neq => if n - c = 0 then some (.sym (.bool true (.lt i 1))) else none
  | _ => none
def flipOp : BinOp → Option BinOp
  | .lss => some .gtr
  | .leq => some .geq
  | .gtr => some .lss
  | .geq => some .leq
  | .eql => some .eql
  | .neq => some .neq
  | _ => none
def addL (x : X) (i : Nat) (c n : Int) : Option AV :=
  match bdL x.bd i with
  | some (_, hi) => if -9223372036854775808 ≤ c + n ∧ (hi : Int) + (c + n) ≤ 9223372036854775807 then some (.sym (.len i (c + n))) else none
  | none => none
def symBin (x : X) (op : BinOp) (a b : AV) : Option AV :=
  match asSp a, asSp b with
  | some e, some f => match op with
    | .add => match ubSp x e, ubSp x f with
      | some m, some n => if m + n ≤ 9223372036854775807 then some (.sym (.str (catSp e f))) else none
      | _, _ => none
    | .eql => (eqSp e f).map (anV false)
    | .neq => (eqSp e f).map (anV true)
    | _ => none
  | _, _ => match asLen a, asLit b with
    | some (i, c), some n => match op with
      | .add => addL x i c n
      | .sub => addL x i c (-n)
      | op => cmpL op i c n
    | _, _ => match asLit a, asLen b with
      | some n, some (i, c) => match op with
        | .add => addL x i c n
        | op => match flipOp op with
          | some op' => cmpL op' i c n
          | none => none
      | _, _ => none

theorem wrap64 {n : Int} (h : -9223372036854775808 ≤ n ∧ n ≤ 9223372036854775807) : IntKind.i64.wrap n = n := by
  unfold IntKind.wrap
  simp [IntKind.bits, IntKind.signed]
  split <;> omega

section
variable {P : Program} {Φ : Nat → Option Obj} {μ : Nat → Pl}
theorem cmpL_ok {op : BinOp} {i : Nat} {c n : Int} {z : AV} {k : Nat} (t : TypeId) (h : cmpL op i c n = some z) (w : World) :
    ∃ v, (binOp op t (.int .i64 ((ξ.str i).size + c)) (.int .i64 n)).run P w = .ok v w ∧ V ξ Φ μ k v z := by
  have mk : ∀ (neg : Bool) (b : BE) (q : Bool), (neg != b.eval ξ) = q → V ξ Φ μ k (.bool q) (.sym (.bool neg b)) := fun neg b q hq => by
    rw [← hq]; exact .sym k (.bool neg b) _ rfl
  have go : ∀ (q : Bool), intA op .i64 ((ξ.str i).size + c) .i64 n = some (.bool q) → ∀ (neg : Bool) (b : BE), z = .sym (.bool neg b) → (neg != b.eval ξ) = q →
      ∃ v, (binOp op t (.int .i64 ((ξ.str i).size + c)) (.int .i64 n)).run P w = .ok v w ∧ V ξ Φ μ k v z := by
    intro q hq neg b hz hb
    obtain ⟨v, h1, h2⟩ := intA_sound (P := P) (ξ := ξ) (Φ := Φ) (μ := μ) (n := k) t hq w
    cases h2
    exact ⟨_, h1, by rw [hz]; exact mk _ _ _ hb⟩
  cases op <;> simp only [cmpL] at h <;> (try (cases h; done))
  case eql =>
    split at h
    · refine go _ rfl false (.lt i 1) (Option.some.inj h).symm ?_
      simp only [BE.eval]
      rw [Bool.eq_iff_iff]
      simp
      omega
    · cases h
  case neq =>
    split at h
    · refine go _ rfl true (.lt i 1) (Option.some.inj h).symm ?_
      simp only [BE.eval]
      rw [Bool.eq_iff_iff]
      simp
      omega
    · cases h
  case lss =>
    refine go _ rfl _ _ (Option.some.inj h).symm ?_
    simp only [BE.eval]
    rw [Bool.eq_iff_iff]
    simp
    omega
  case leq =>
    refine go _ rfl _ _ (Option.some.inj h).symm ?_
    simp only [BE.eval]
    rw [Bool.eq_iff_iff]
    simp
    omega
  case gtr =>
    refine go _ rfl _ _ (Option.some.inj h).symm ?_
    simp only [BE.eval]
    rw [Bool.eq_iff_iff]
    simp
    omega
  case geq =>
    refine go _ rfl _ _ (Option.some.inj h).symm ?_
    simp only [BE.eval]
    rw [Bool.eq_iff_iff]
    simp
    omega
theorem flip_ok {op op' : BinOp} (h : flipOp op = some op') (t : TypeId) (a b : Int) : binOp op t (.int .i64 a) (.int .i64 b) = binOp op' t (.int .i64 b) (.int .i64 a) := by
  cases op <;> simp only [flipOp] at h <;> (try (cases h; done)) <;> cases h <;> simp only [binOp, Op.intCmp, ne_eq, not_true_eq_false, ↓reduceIte]
  · congr 2; rw [Bool.eq_iff_iff]; simp; exact eq_comm
  · congr 2; rw [Bool.eq_iff_iff]; simp; exact not_congr eq_comm
theorem addL_ok {x : X} (hx : x.holds ξ) {i : Nat} {c n : Int} {z : AV} {k : Nat} (h : addL x i c n = some z) : IntKind.i64.wrap (((ξ.str i).size : Int) + c + n) = (ξ.str i).size + (c + n) ∧ ∃ m, z = .sym (.len i m) ∧ m = c + n ∧ V ξ Φ μ k (.int .i64 ((ξ.str i).size + (c + n))) z := by
  unfold addL at h
  split at h
  · rename_i lo hi hb
    obtain ⟨h1, h2⟩ := X.bound hx hb
    split at h
    · cases h
      refine ⟨by rw [wrap64 (by omega)]; omega, _, rfl, rfl, .sym k (.len i (c + n)) _ rfl⟩
    · cases h
  · cases h

theorem symBin_ok {x : X} (hx : x.holds ξ) {op : BinOp} {t : TypeId} {ox oy : Operand} {a b z : AV} {u v : Value} {k : Nat} (h : symBin x op a b = some z) (hu : V ξ Φ μ k u a) (hv : V ξ Φ μ k v b) (w : World) :
    ∃ r, (do eqGuard op t ox oy u v; binOp op t u v : Sem Value).run P w = .ok r w ∧ V ξ Φ μ k r z := by
  unfold symBin at h
  split at h
  · rename_i e f he hf
    have e1 := asSp_ok he hu
    have e2 := asSp_ok hf hv
    subst e1; subst e2
    have hg : (eqGuard op t ox oy (.string (evalSp ξ e)) (.string (evalSp ξ f))).run P w = .ok () w := by
      cases op <;> simp [eqGuard]
    split at h
    · split at h
      · rename_i m n hm hn
        split at h
        · rename_i hle
          cases h
          have b1 := ubSp_ok hx hm
          have b2 := ubSp_ok hx hn
          obtain ⟨r, h1, h2⟩ := strA_sound (P := P) (ξ := ξ) (Φ := Φ) (μ := μ) (n := k) (op := .add) (a := evalSp ξ e) (b := evalSp ξ f) t (by simp only [strA]; rw [if_pos (by omega)]) w
          refine ⟨r, by simp [hg, h1], ?_⟩
          cases h2
          rw [← catSp_eval]
          exact .sym k (.str (catSp e f)) _ rfl
        · cases h
      · cases h
    · cases hq : eqSp e f with
      | none => rw [hq] at h; cases h
      | some r =>
        rw [hq] at h
        cases h
        obtain ⟨q, h1, h2⟩ := strA_sound (P := P) (ξ := ξ) (Φ := Φ) (μ := μ) (n := k) (op := .eql) (a := evalSp ξ e) (b := evalSp ξ f) t rfl w
        refine ⟨q, by simp [hg, h1], ?_⟩
        cases h2
        rw [eqSp_ok hq]
        have := anV_ok (ξ := ξ) (Φ := Φ) (μ := μ) (n := k) (neg := false) (r := r)
        simpa using this
    · cases hq : eqSp e f with
      | none => rw [hq] at h; cases h
      | some r =>
        rw [hq] at h
        cases h
        obtain ⟨q, h1, h2⟩ := strA_sound (P := P) (ξ := ξ) (Φ := Φ) (μ := μ) (n := k) (op := .neq) (a := evalSp ξ e) (b := evalSp ξ f) t rfl w
        refine ⟨q, by simp [hg, h1], ?_⟩
        cases h2
        rw [eqSp_ok hq]
        have := anV_ok (ξ := ξ) (Φ := Φ) (μ := μ) (n := k) (neg := true) (r := r)
        simpa using this
    · cases h
  · have hg : ∀ p q : Int, (eqGuard op t ox oy (.int .i64 p) (.int .i64 q)).run P w = .ok () w := fun p q => by cases op <;> simp [eqGuard]
    split at h
    · rename_i i c n hl hn
      have e1 := asLen_ok hl hu
      have e2 := asLit_ok hn hv
      subst e1; subst e2
      split at h
      · obtain ⟨h1, m, rfl, _, h2⟩ := addL_ok (ξ := ξ) (Φ := Φ) (μ := μ) (k := k) hx h
        exact ⟨_, by simp only [Sem.run_bind, hg, Result.andThen_ok, binOp, Op.intArith, ne_eq, not_true_eq_false, ↓reduceIte, Sem.run_pure, h1], h2⟩
      · obtain ⟨h1, m, rfl, _, h2⟩ := addL_ok (ξ := ξ) (Φ := Φ) (μ := μ) (k := k) hx h
        refine ⟨_, ?_, h2⟩
        have e3 : ((ξ.str i).size : Int) + c - n = (ξ.str i).size + c + -n := by omega
        simp only [Sem.run_bind, hg, Result.andThen_ok, binOp, Op.intArith, ne_eq, not_true_eq_false, ↓reduceIte, Sem.run_pure, e3, h1]
      · obtain ⟨r, h1, h2⟩ := cmpL_ok (P := P) (ξ := ξ) (Φ := Φ) (μ := μ) (k := k) t h w
        exact ⟨r, by simp only [Sem.run_bind, hg, Result.andThen_ok, h1], h2⟩
    · split at h
      · rename_i n i c hn hl
        have e1 := asLit_ok hn hu
        have e2 := asLen_ok hl hv
        subst e1; subst e2
        split at h
        · obtain ⟨h1, m, rfl, _, h2⟩ := addL_ok (ξ := ξ) (Φ := Φ) (μ := μ) (k := k) hx h
          refine ⟨_, ?_, h2⟩
          have e3 : n + (((ξ.str i).size : Int) + c) = (ξ.str i).size + c + n := by omega
          simp only [Sem.run_bind, hg, Result.andThen_ok, binOp, Op.intArith, ne_eq, not_true_eq_false, ↓reduceIte, Sem.run_pure, e3, h1]
        · split at h
          · rename_i op' hop
            obtain ⟨r, h1, h2⟩ := cmpL_ok (P := P) (ξ := ξ) (Φ := Φ) (μ := μ) (k := k) t h w
            exact ⟨r, by simp only [Sem.run_bind, hg, Result.andThen_ok, flip_ok hop, h1], h2⟩
          · cases h
      · cases h

/-- Operations at symbols. -/
def symA (P : Tab) (x : X) (F : AF) (op : Op) : Option AV :=
  match op with
  | .binOp op _ a b _ => match F.eval a, F.eval b with
    | some u, some v => symBin x op u v
    | _, _ => none
  | .call { callee := .builtin .len, args := as, argTypes := ts } => match as.toList, ts.toList with
    | [a], [t] => match P.underlying t, F.eval a with
      | some .string, some (.sym (.str e)) => match lenSp e with
        | some (none, c) => some (.int .i64 c)
        | some (some i, c) => some (.sym (.len i c))
        | none => none
      | some (.slice _), some (.vslice i) => some (.sym (.len i 0))
      | _, _ => none
    | _, _ => none
  | .convert s d a => match P.underlying s, P.underlying d, F.eval a with
    | some .string, some .string, some (.sym (.str e)) => some (.sym (.str e))
    | _, _, _ => none
  | _ => none
theorem symA_nd {x : X} {F : AF} {op : Op} {z : AV} (h : symA P x F op = some z) : ∀ c, op ≠ .defer c := by
  rintro c rfl; simp [symA] at h
theorem symA_ok {x : X} (hx : x.holds ξ) {H : AH} {F : AF} {o : Oper} {z : AV} (h : symA P x F o.op = some z) : PS ξ P H o F z := by
  refine ⟨symA_nd h, fun Φ μ w a hR hE => ?_⟩
  obtain ⟨dst, op, type, pos, after, guard⟩ := o
  simp only at h
  cases op with
  | binOp op t ox oy yt =>
    simp only [symA] at h
    split at h
    · rename_i u v hu hv
      obtain ⟨r, h1, h2⟩ := symBin_ok (P := P) (t := t) (ox := ox) (oy := oy) hx h (hE _ _ hu) (hE _ _ hv) w
      refine ⟨r, ?_, h2⟩
      simp only [execOp, Sem.run_bind] at h1 ⊢
      rw [h1]; rfl
    · cases h
  | convert s d ox =>
    simp only [symA] at h
    split at h
    · rename_i e hs hd hu
      cases h
      have hV := hE _ _ hu
      refine ⟨a.eval ox, ?_, hV⟩
      have hq : ∃ q, a.eval ox = .string q := by
        generalize a.eval ox = v at hV
        cases hV
        rename_i h
        exact ⟨_, h⟩
      obtain ⟨q, hq⟩ := hq
      simp [execOp, convert, run_underlying hs, run_underlying hd, hq]
    · cases h
  | call c =>
    obtain ⟨callee, args, argTypes⟩ := c
    cases callee with
    | builtin b =>
      cases b <;> simp only [symA] at h <;> (try (cases h; done))
      split at h
      · rename_i ox t hargs hts
        split at h
        · rename_i e hun hu
          have e1 := toList_two hargs
          have e2 := toList_two hts
          subst e1; subst e2
          have hV := hE _ _ hu
          have hq : a.eval ox = .string (evalSp ξ e) := by
            generalize a.eval ox = v at hV
            cases hV
            assumption
          have hrun : (execOp a.eval ⟨dst, .call ⟨.builtin .len, #[ox], #[t]⟩, type, pos, after, guard⟩).run P w = .ok (.value (.int .i64 (evalSp ξ e).size)) w := by
            simp [execOp, resolve, invoke, builtin, Builtin.len_, run_underlying hun, hq, goInt]
          split at h
          · rename_i c hl
            cases h
            refine ⟨_, hrun, ?_⟩
            rw [lenSp_ok hl]
            simp only [Nat.zero_add]
            exact .int _ _ _
          · rename_i i c hl
            cases h
            refine ⟨_, hrun, ?_⟩
            have := lenSp_ok (ξ := ξ) hl
            simp only at this
            rw [this]
            exact V.sym H.next (.len i c) _ rfl
          · cases h
        · rename_i e i hun hu
          cases h
          have e1 := toList_two hargs
          have e2 := toList_two hts
          subst e1; subst e2
          have hV := hE _ _ hu
          obtain ⟨b, c, hq⟩ : ∃ b c, a.eval ox = .slice b (ξ.str i).size c := by
            generalize a.eval ox = v at hV
            cases hV
            exact ⟨_, _, rfl⟩
          refine ⟨.int .i64 (ξ.str i).size, ?_, ?_⟩
          · simp [execOp, resolve, invoke, builtin, Builtin.len_, run_underlying hun, hq, goInt]
          · exact V.sym H.next (.len i 0) _ (by simp [SV.eval])
        · cases h
      · cases h
    | _ => simp only [symA] at h; cases h
  | _ => simp only [symA] at h; cases h

/-- Operations that only read. -/
def popX (P : Tab) (x : X) (H : AH) (F : AF) (op : Op) : Option AV :=
  match pop P H F op with
  | some z => some z
  | none => symA P x F op
theorem popX_ok {x : X} (hx : x.holds ξ) {H : AH} {F : AF} {o : Oper} {z : AV} (h : popX P x H F o.op = some z) : PS ξ P H o F z := by
  unfold popX at h
  split at h
  · rename_i z' hz
    cases h
    exact PS.pop hz
  · exact symA_ok hx h
end

/- FREEZING -/
section
variable {P : Program} {Φ : Nat → Option Obj} {μ : Nat → Pl}
def chunksV (ag : Bool) (esz : Nat) : Nat → List Value → List Value
  | 0, _ => []
  | n + 1, vs => (if ag then .agg (vs.take esz).toArray else vs.headD undef) :: chunksV ag esz n (vs.drop esz)
theorem chunks_len {ag : Bool} {esz : Nat} : ∀ {n : Nat} {cs : List AV}, (chunks ag esz n cs).length = n
  | 0, _ => rfl
  | n + 1, cs => by simp [chunks, chunks_len (n := n)]
theorem chunksV_len {ag : Bool} {esz : Nat} : ∀ {n : Nat} {vs : List Value}, (chunksV ag esz n vs).length = n
  | 0, _ => rfl
  | n + 1, vs => by simp [chunksV, chunksV_len (n := n)]
theorem free_one {a : AV} (h : a.free = true) : a.one = true := by cases a <;> first | rfl | cases h
theorem chunksV_ok {ag : Bool} {esz n : Nat} : ∀ {k : Nat} {vs : List Value} {cs : List AV}, Vs ξ Φ μ n vs cs → cs.all AV.free = true → k * esz ≤ cs.length → (ag = true ∨ esz = 1) →
    (∀ w ∈ chunksV ag esz k vs, w.cells.size = esz) ∧ ((chunksV ag esz k vs).flatMap fun w => w.cells.toList) = vs.take (k * esz) ∧ Vs ξ Φ μ n (chunksV ag esz k vs) (chunks ag esz k cs)
  | 0, vs, cs, hv, hf, hl, ha => by simp [chunksV, chunks]; exact Vs.nil
  | k + 1, vs, cs, hv, hf, hl, ha => by
    have hvl := hv.1
    simp only [Nat.succ_mul] at hl
    have ih := chunksV_ok (ag := ag) (esz := esz) (k := k) (hv.drop esz) (by
      simp only [List.all_eq_true] at hf ⊢
      exact fun x hx => hf x (List.mem_of_mem_drop hx)) (by simp; omega) ha
    obtain ⟨i1, i2, i3⟩ := ih
    cases ag with
    | true =>
      have h1 : (Value.agg (vs.take esz).toArray).cells.toList = vs.take esz := by simp [Value.cells]
      refine ⟨fun w hw => ?_, ?_, ?_⟩
      · simp only [chunksV, if_true, List.mem_cons] at hw
        rcases hw with rfl | hw
        · have : (Value.agg (vs.take esz).toArray).cells.toList.length = esz := by rw [h1]; simp; omega
          simpa using this
        · exact i1 w hw
      · simp only [chunksV, if_true, List.flatMap_cons, h1, i2, Nat.succ_mul]
        rw [Nat.add_comm (k * esz) esz, List.take_add]
      · simp only [chunksV, chunks, if_true]
        exact Vs.cons (.agg _ _ _ (hv.take esz).1 (hv.take esz).2) i3
    | false =>
      have he : esz = 1 := by rcases ha with h | h; cases h; exact h
      subst he
      match vs, cs, hv, hf, hl with
      | v :: vs, c :: cs, hv, hf, hl =>
        simp only [List.all_cons, Bool.and_eq_true] at hf
        have hone := (hv.head.one (free_one hf.1))
        have h1 : v.cells.toList = [v] := by cases v <;> first | rfl | cases hone
        refine ⟨fun w hw => ?_, ?_, ?_⟩
        · simp only [chunksV, List.headD_cons, List.mem_cons, Bool.false_eq_true, if_false] at hw
          rcases hw with rfl | hw
          · have : w.cells.toList.length = 1 := by rw [h1]; rfl
            simpa using this
          · exact i1 w hw
        · simp only [chunksV, List.headD_cons, List.flatMap_cons, h1, i2, Nat.succ_mul, Bool.false_eq_true, if_false]
          simp
        · simp only [chunksV, chunks, List.headD_cons, Bool.false_eq_true, if_false]
          exact Vs.cons hv.head i3
      | [], [], hv, hf, hl => simp at hl
      | [], _ :: _, hv, hf, hl => exact absurd hv.1 (by simp)
      | _ :: _, [], hv, hf, hl => exact absurd hv.1 (by simp)

theorem R.freeze {H : AH} {w : World} {id : Nat} {s : Bool} {cs : List AV} (hR : R ξ Φ μ H w) (hg : H.get id = some (.cells s cs)) (hf : cs.all AV.free = true) :
    ∃ Φ', R ξ Φ' μ (H.kill id) w ∧ T Φ μ H w Φ' μ (H.kill id) w ∧ ∃ c t vs, Φ' (μ id).block = some (.cells c t (fzOf s (μ id).size)) ∧ (∀ (j : Nat) v, vs[j]? = some v → c[(μ id).base + j]? = some v) ∧ Vs ξ Φ' μ 0 vs cs := by
  obtain ⟨c, ty, vs, h1, h2, h3, h4, h5⟩ := hR.obj id _ hg
  let Φ' : Nat → Option Obj := fun b => if b = (μ id).block then some (.cells c ty (fzOf s (μ id).size)) else Φ b
  have hBΦ : Φ (μ id).block = none := by
    cases hq : Φ (μ id).block with
    | none => rfl
    | some ob => exact absurd rfl (hR.dis id _ _ _ hg hq)
  have hΦ : ∀ b ob, Φ b = some ob → Φ' b = some ob := fun b ob hb => by
    simp only [Φ']
    rw [if_neg (fun e => by rw [e, hBΦ] at hb; cases hb)]; exact hb
  have hk : ∀ {i o}, (H.kill id).get i = some o → i ≠ id ∧ H.get i = some o := fun {i o} hi => by
    rw [AH.get_kill] at hi
    split at hi
    · cases hi
    · rename_i e; exact ⟨Ne.symm e, hi⟩
  have h50 : Vs ξ Φ μ 0 vs cs := ⟨h5.1, fun j v a e1 e2 => (h5.2 j v a e1 e2).free (by
    simp only [List.all_eq_true] at hf
    exact hf a (List.mem_of_getElem? e2))⟩
  refine ⟨Φ', ⟨fun i o hi => ?_, fun i o hi => hR.lt i o (hk hi).2, fun i j x y hi hj hne => hR.inj i j _ _ (hk hi).2 (hk hj).2 hne, fun b ob hb => ?_, fun i x b ob hi hb => ?_, fun g cs hg => glob_mono hΦ (hR.glob g cs hg)⟩,
    ⟨hΦ, fun _ _ => rfl, Nat.le_refl _, Nat.le_refl _, rfl, rfl, rfl, fun _ _ _ => rfl, fun i o hi => .inl ⟨i, o, (hk hi).2, rfl⟩, fun b ob hb => ?_⟩,
    c, ty, vs, if_pos rfl, h4, h50.mono hΦ (Nat.le_refl _) (fun _ _ => rfl)⟩
  · exact (hR.obj i _ (hk hi).2).mono hΦ (Nat.le_refl _) (fun _ _ => rfl) rfl
  · simp only [Φ'] at hb
    split at hb
    · rename_i e; cases hb; rw [e]; exact h1
    · exact hR.frz b ob hb
  · simp only [Φ'] at hb
    split at hb
    · rename_i e; rw [e]; exact hR.inj i id _ _ (hk hi).2 hg (hk hi).1
    · exact hR.dis i _ b ob (hk hi).2 hb
  · simp only [Φ'] at hb
    split at hb
    · rename_i e; exact .inr (.inl ⟨id, _, hg, e⟩)
    · exact .inl hb

/-- A value, its slices frozen. -/
def frz1 (H : AH) : AV → Option (AV × AH)
  | .slice id off len esz ag cap => match H.get id with
    | some (.cells _ cs) => bif cs.all AV.free && (Nat.ble (off + len * esz) cs.length && (ag || Nat.beq esz 1)) then
        some (.fslice esz (chunks ag esz len (cs.drop off)) cap, H.kill id)
      else none
    | _ => none
  | z => some (z, H)
def frzs (H : AH) : List AV → Option (List AV × AH)
  | [] => some ([], H)
  | z :: r => match frz1 H z with
    | some (z', H') => match frzs H' r with
      | some (r', H'') => some (z' :: r', H'')
      | none => none
    | none => none
def frzV (H : AH) : AV → Option (AV × AH)
  | .agg cs => match frzs H cs with
    | some (cs', H') => some (.agg cs', H')
    | none => none
  | z => frz1 H z
theorem frz1_ok {H H' : AH} {w : World} {z z' : AV} {v : Value} (hR : R ξ Φ μ H w) (h : frz1 H z = some (z', H')) (hv : V ξ Φ μ H.next v z) :
    ∃ Φ', R ξ Φ' μ H' w ∧ T Φ μ H w Φ' μ H' w ∧ V ξ Φ' μ H'.next v z' := by
  unfold frz1 at h
  split at h
  · rename_i id off len esz ag cap
    split at h
    · rename_i s cs hg
      cases hc : (cs.all AV.free && (Nat.ble (off + len * esz) cs.length && (ag || Nat.beq esz 1)))
      · rw [hc] at h; cases h
      · rw [hc] at h
        cases h
        simp only [Bool.and_eq_true, Bool.or_eq_true] at hc
        obtain ⟨hf, hle, hag⟩ := hc
        obtain ⟨Φ', h1, h2, c, t, vs, h3, h4, h5⟩ := hR.freeze hg hf
        refine ⟨Φ', h1, h2, ?_⟩
        cases hv with
        | slice _ _ _ _ _ _ cc _ hid hcap hlc hsz =>
          have hle' := Nat.le_of_ble_eq_true hle
          have hd := h5.drop off
          obtain ⟨k1, k2, k3⟩ := chunksV_ok (ag := ag) (esz := esz) (k := len) hd (by
            simp only [List.all_eq_true] at hf ⊢
            exact fun x hx => hf x (List.mem_of_mem_drop hx)) (by simp; omega) (hag.imp (fun h => h) Nat.eq_of_beq_eq_true)
          have hlen : (chunks ag esz len (cs.drop off)).length = len := chunks_len
          have := V.fslice (ξ := ξ) (Φ := Φ') (μ := μ) H.next (μ id).block ((μ id).base + off) cc esz cap c t (fzOf s (μ id).size) (chunksV ag esz len (vs.drop off)) (chunks ag esz len (cs.drop off)) hcap (by rw [hlen]; exact hlc) h3 k3.1 k1
            (fun j v hj => by
              rw [k2, List.getElem?_take] at hj
              split at hj
              · rw [List.getElem?_drop] at hj
                have := h4 _ v hj
                rw [← this]; congr 1; omega
              · cases hj) k3.2
          rw [hlen] at this
          exact this
    · cases h
  · cases h
    exact ⟨Φ, hR, T.refl _ _ _ _, hv⟩
theorem frzs_ok : ∀ {zs zs' : List AV} {Φ : Nat → Option Obj} {H H' : AH} {w : World} {vs : List Value}, R ξ Φ μ H w → frzs H zs = some (zs', H') → Vs ξ Φ μ H.next vs zs →
    ∃ Φ', R ξ Φ' μ H' w ∧ T Φ μ H w Φ' μ H' w ∧ Vs ξ Φ' μ H'.next vs zs'
  | [], zs', Φ, H, H', w, vs, hR, h, hv => by
    cases h
    exact ⟨Φ, hR, T.refl _ _ _ _, hv⟩
  | z :: zs, zs', Φ, H, H', w, vs, hR, h, hv => by
    simp only [frzs] at h
    split at h
    · rename_i z1 H1 h1
      split at h
      · rename_i r1 H2 h2
        cases h
        cases vs with
        | nil => have := hv.1; simp at this
        | cons v vs =>
          obtain ⟨Φ1, a1, a2, a3⟩ := frz1_ok hR h1 hv.head
          obtain ⟨Φ2, b1, b2, b3⟩ := frzs_ok a1 h2 (hv.tail.mono a2.phi a2.next (fun _ _ => rfl))
          exact ⟨Φ2, b1, a2.trans b2, Vs.cons (a3.mono b2.phi b2.next (fun _ _ => rfl)) b3⟩
      · cases h
    · cases h
theorem frzV_ok {H H' : AH} {w : World} {z z' : AV} {v : Value} (hR : R ξ Φ μ H w) (h : frzV H z = some (z', H')) (hv : V ξ Φ μ H.next v z) :
    ∃ Φ', R ξ Φ' μ H' w ∧ T Φ μ H w Φ' μ H' w ∧ V ξ Φ' μ H'.next v z' := by
  unfold frzV at h
  split at h
  · rename_i cs
    split at h
    · rename_i cs' H1 h1
      cases h
      cases hv with
      | agg _ vs _ hl hv' =>
        obtain ⟨Φ', a1, a2, a3⟩ := frzs_ok hR h1 (⟨hl, hv'⟩ : Vs ξ Φ μ H.next vs cs)
        exact ⟨Φ', a1, a2, .agg _ _ _ a3.1 a3.2⟩
    · cases h
  · exact frz1_ok hR h hv

/-- A map's entry is set, its value frozen first. -/
def putF (P : Tab) (H : AH) (F : AF) (op : Op) : Option AH :=
  match op with
  | .mapUpdate t m k v => match F.eval m, F.eval k, F.eval v with
    | some a, some b, some c => match frzV H c with
      | some (c', H1) => mapPut P H1 t a b c'
      | none => none
    | _, _, _ => none
  | _ => none
theorem putF_ok {H H' : AH} {F : AF} {o : Oper} (h : putF P H F o.op = some H') : ES ξ P o F H .undef H' := by
  intro Φ μ w a K hR hE hK
  obtain ⟨dst, op, type, pos, after, guard⟩ := o
  simp only at h
  cases op with
  | mapUpdate t m k v =>
    simp only [putF] at h
    split at h
    · rename_i x y z hx hy hz
      split at h
      · rename_i z' H1 hf
        obtain ⟨Φ1, h1, h2, h3⟩ := frzV_ok hR hf (hE _ _ hz)
        obtain ⟨w', k1, k2, k3⟩ := mapPut_sound (P := P) h1 h ((hE _ _ hx).mono h2.phi h2.next h2.mu) ((hE _ _ hy).mono h2.phi h2.next h2.mu) h3
        exact OW.skip (by simp) (by simp [execOp, k1]) (hK _ _ _ _ _ _ ⟨rfl, rfl⟩ (.undef _ _) k2 (h2.trans k3))
      · cases h
    · cases h
  | _ => simp only [putF] at h; cases h
/-- clear, of a slice. -/
def clearA (P : Tab) (H : AH) (t : TypeId) (x : AV) : Option AH :=
  match elemInfo P t with
  | some (e, _, m, _) => match x with
    | .fslice _ [] _ => some H
    | .slice id off len esz _ _ => match zeroA P e, H.get id with
      | some z, some (.cells str cs) =>
        bif Nat.beq esz m && (!Nat.beq len 0 && (z.flat && (Nat.ble (off + (List.replicate len z.cells).flatten.length) cs.length && (List.replicate len z.cells).flatten.all AV.one))) then
          some (H.set id (.cells str (setSeg cs off (List.replicate len z.cells).flatten))) else none
      | _, _ => none
    | _ => none
  | none => none
theorem clearA_sound {H H' : AH} {w : World} {t ty : TypeId} {x : AV} {vx : Value} (hR : R ξ Φ μ H w) (h : clearA P H t x = some H') (hx : V ξ Φ μ H.next vx x) :
    ∃ w', (Builtin.clear_ #[t] ty #[vx]).run P w = .ok (.tuple #[]) w' ∧ R ξ Φ μ H' w' ∧ T Φ μ H w Φ μ H' w' := by
  unfold clearA at h
  split at h
  · rename_i e ag m bs hei
    obtain ⟨hu, hsh, hm0, hb0, ⟨zv, hz1, hz2⟩, i, hi, hib⟩ := elemInfo_spec hei
    split at h
    · rename_i esz cap
      cases h
      have hnil : ∃ a c, vx = .slice a 0 c := by
        cases hx with
        | fnil _ _ a c _ _ => exact ⟨a, c, rfl⟩
        | fslice _ b o c _ _ cs' t' fz ws els hcap hlc hb hl hsz hc hv' => exact ⟨_, _, rfl⟩
      obtain ⟨a, c, rfl⟩ := hnil
      refine ⟨w, ?_, hR, T.refl _ _ _ _⟩
      cases a <;> simp [Builtin.clear_, run_underlying hu]
    · rename_i id off len esz ag' cap
      split at h
      · rename_i za str cs hza hg
        cases hc : (Nat.beq esz m && (!Nat.beq len 0 && (za.flat && (Nat.ble (off + (List.replicate len za.cells).flatten.length) cs.length && (List.replicate len za.cells).flatten.all AV.one))))
        · rw [hc] at h; cases h
        · rw [hc] at h
          cases h
          simp only [Bool.and_eq_true, Bool.not_eq_true'] at hc
          obtain ⟨c1, c2, c3, c4, c5⟩ := hc
          have c1 := Nat.eq_of_beq_eq_true c1
          have c2 : len ≠ 0 := Nat.ne_of_beq_eq_false c2
          have c4 := Nat.le_of_ble_eq_true c4
          obtain ⟨zv', hz1', hz2'⟩ := zeroA_sound (P := P) (ξ := ξ) (Φ := Φ) (μ := μ) w hza
          have hzz : zv' = zv := by have := hz1 w; rw [hz1'] at this; cases this; rfl
          subst hzz
          have hV0 := (hz2' H.next).cells c3
          have hrep : ∀ j : Nat, Vs ξ Φ μ H.next (List.replicate j zv'.cells.toList).flatten (List.replicate j za.cells).flatten := by
            intro j
            induction j with
            | zero => exact Vs.nil
            | succ j ih => simp only [List.replicate_succ, List.flatten_cons]; exact hV0.append ih
          have hzc : (Builtin.zeroCells zv'.cells len).toList = (List.replicate len zv'.cells.toList).flatten := by
            have := range_zeros zv'.cells m hz2 hm0 len
            rw [← this]
            simp [Builtin.zeroCells, hz2]
          cases hx with
          | slice _ _ _ _ _ _ c _ hid hcap hlc hsz =>
            obtain ⟨w', k1, k2, k3⟩ := write_ok (P := P) (off := off) hR hg (hrep len) (flat_ones (hrep len) c5) c4
            refine ⟨w', ?_, k2, k3⟩
            cases len with
            | zero => exact absurd rfl c2
            | succ len => simp [Builtin.clear_, run_underlying hu, hz1, hzc, k1]
      · cases h
    · cases h
  · cases h
def clrA (P : Tab) (H : AH) (F : AF) (op : Op) : Option AH :=
  match op with
  | .call { callee := .builtin .clear, args := as, argTypes := ts } => match as.toList, ts.toList with
    | [x], [t] => match F.eval x with
      | some a => clearA P H t a.deN
      | none => none
    | _, _ => none
  | _ => none
theorem clrA_ok {H H' : AH} {F : AF} {o : Oper} (h : clrA P H F o.op = some H') : ES ξ P o F H (.tuple []) H' := by
  intro Φ μ w a K hR hE hK
  obtain ⟨dst, op, type, pos, after, guard⟩ := o
  simp only at h
  unfold clrA at h
  split at h
  · rename_i as ts
    split at h
    · rename_i x t hx ht
      split at h
      · rename_i b hb
        have e1 := toList_two hx
        have e2 := toList_two ht
        subst e1; subst e2
        obtain ⟨w', h1, h2, h3⟩ := clearA_sound (P := P) (ty := type) hR h (hE _ _ hb).deN
        exact OW.value (by simp) (v := .tuple #[]) (w' := w') (by simp [execOp, resolve, invoke, builtin, h1]) (hK _ _ _ _ _ _ ⟨rfl, rfl⟩ (.tuple _ [] [] rfl (fun j v a e1 e2 => by simp at e1)) h2 h3)
      · cases h
    · cases h
  · cases h
/-- Operations that make or write memory. -/
def eopX (P : Tab) (H : AH) (F : AF) (op : Op) : Option (AV × AH) :=
  match eop P H F op with
  | some r => some r
  | none => match putF P H F op with
    | some H' => some (.undef, H')
    | none => match clrA P H F op with
      | some H' => some (.tuple [], H')
      | none => none
theorem eopX_ok {H H' : AH} {F : AF} {o : Oper} {z : AV} (h : eopX P H F o.op = some (z, H')) : ES ξ P o F H z H' := by
  unfold eopX at h
  split at h
  · rename_i r hr
    cases h
    exact OS.eop hr
  · split at h
    · rename_i H1 h1
      cases h
      exact putF_ok h1
    · split at h
      · rename_i H1 h1
        cases h
        exact clrA_ok h1
      · cases h
end
end Go.Ai
end
