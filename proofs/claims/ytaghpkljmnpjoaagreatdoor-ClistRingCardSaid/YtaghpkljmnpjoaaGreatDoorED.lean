/- THE EVALUATOR: regions that draw their order. The operations with effects stand in a chain; what reads the heap reads the same
  at every stage at which it may be run; new rows may be made ahead of their place. -/
import Derived.Test.YtaghpkljmnpjoaaGreatDoorEC
set_option linter.unusedVariables false
set_option linter.unusedSimpArgs false
noncomputable section
namespace Go.Ai
variable {ξ : Env}
inductive PK where
  | p
  | r (lo hi : Nat)
  | e
  | f

def PK.ef : PK → Bool
  | .e | .f => true
  | _ => false

/-- The slots that an operation looks at. -/
def namesOf (ops : List Oper) (o : Oper) : List Nat :=
  (o.op.operands.toList.filterMap fun | .tmp t => some t | _ => none) ++
  (match o.guard with
   | some (g, _) => match ops[g]? with
     | some q => q.dst.toList
     | none => []
   | none => [])
def gatherL (t : List (Nat × AV)) : List Nat → List (Nat × AV)
  | [] => []
  | i :: r => match lk t i with
    | some v => (i, v) :: gatherL t r
    | none => gatherL t r
def opNames (o : Oper) : List Nat := o.op.operands.toList.filterMap fun | .tmp t => some t | _ => none
def gather (F : AF) (o : Oper) : AF := ⟨gatherL F.t (opNames o), []⟩

theorem gatherL_lk {t : List (Nat × AV)} : ∀ {l : List Nat} {i : Nat} {x : AV}, lk (gatherL t l) i = some x → i ∈ l ∧ lk t i = some x
  | [], i, x, h => by cases h
  | j :: r, i, x, h => by
    simp only [gatherL] at h
    split at h
    · rename_i v hv
      rw [lk_cons] at h
      split at h
      · rename_i e
        subst e
        cases h
        exact ⟨List.mem_cons_self, hv⟩
      · obtain ⟨h1, h2⟩ := gatherL_lk h
        exact ⟨List.mem_cons_of_mem _ h1, h2⟩
    · obtain ⟨h1, h2⟩ := gatherL_lk h
      exact ⟨List.mem_cons_of_mem _ h1, h2⟩

/-- What stands before each operation, as masks. -/
def maskOf (acc : List Nat) (o : Oper) : Nat := o.after.toList.foldl (fun s e => if Region.binds .any e then s ||| 2 ^ e.on ||| acc.getD e.on 0 else s) 0
def masks : List Oper → List Nat → List Nat
  | [], acc => acc
  | o :: r, acc => masks r (acc ++ [maskOf acc o])

section
variable {P : Program}

/-- One operation with an effect, seen alone. -/
def ES (ξ : Env) (P : Program) (o : Oper) (G : AF) (H : AH) (z : AV) (H' : AH) : Prop := OS ξ P o G H (fun z' H'' => z' = z ∧ H'' = H')
/-- One operation that leaves the world as it is, seen alone. -/
def PS (ξ : Env) (P : Program) (H : AH) (o : Oper) (G : AF) (z : AV) : Prop :=
  (∀ c, o.op ≠ .defer c) ∧ ∀ (Φ : Nat → Option Obj) (μ : Nat → Pl) (w : World) (a : Act), R ξ Φ μ H w → EV ξ Φ μ H.next a.eval G → ∃ v, (execOp a.eval o).run P w = .ok (.value v) w ∧ V ξ Φ μ H.next v z
theorem PS.pop {H : AH} {o : Oper} {G : AF} {z : AV} (h : Ai.pop P H G o.op = some z) : PS ξ P H o G z :=
  ⟨pop_nd h, fun _ _ _ _ hR hE => pop_sound hR hE h⟩
theorem PS.conv {H : AH} {o : Oper} {G : AF} {z z' : AV} (h : PS ξ P H o G z) (hz : ∀ Φ μ n v, V ξ Φ μ n v z → V ξ Φ μ n v z') : PS ξ P H o G z' :=
  ⟨h.1, fun Φ μ w a hR hE => let ⟨v, h1, h2⟩ := h.2 Φ μ w a hR hE; ⟨v, h1, hz _ _ _ _ h2⟩⟩
theorem OS.still {H : AH} {o : Oper} {G : AF} {z : AV} (h : PS ξ P H o G z) : OS ξ P o G H (fun z' H' => z' = z ∧ H' = H) := by
  intro Φ μ w a K hR hE hK
  obtain ⟨v, h1, h2⟩ := h.2 Φ μ w a hR hE
  exact OW.value h.1 h1 (hK _ _ _ _ _ _ ⟨rfl, rfl⟩ h2 hR (T.refl _ _ _ _))
def forceL {α : Type} : List α → Option (List α)
  | [] => some []
  | x :: r => match forceL r with
    | some l => some (x :: l)
    | none => none
theorem forceL_eq {α : Type} : ∀ {l l' : List α}, forceL l = some l' → l' = l
  | [], l', h => by cases h; rfl
  | x :: r, l', h => by
    simp only [forceL] at h
    split at h
    · rename_i l hl
      cases h; rw [forceL_eq hl]
    · cases h

/-- A new row: a variable, or a slice of so many elements. -/
inductive Shp where
  | ptr
  | slice (len esz : Nat) (ag : Bool)
def Shp.val (s : Shp) (b : Nat) : Value :=
  match s with
  | .ptr => .pointer (some ⟨b, 0, none⟩)
  | .slice len _ _ => .slice (some ⟨b, 0, none⟩) len len
def Shp.av (s : Shp) (id : Nat) : AV :=
  match s with
  | .ptr => .ptr id 0
  | .slice len esz ag => .slice id 0 len esz ag (some len)
def Shp.fits (s : Shp) (k : Nat) : Prop :=
  match s with
  | .ptr => True
  | .slice len esz _ => len * esz ≤ k
/-- One operation that makes a new row and does nothing else. -/
def FS (ξ : Env) (P : Program) (o : Oper) (G : AF) (cs : List AV) (s : Shp) : Prop :=
  s.fits cs.length ∧ (∀ c, o.op ≠ .defer c) ∧ ∀ (Φ : Nat → Option Obj) (μ : Nat → Pl) (n : Nat) (w : World) (a : Act), EV ξ Φ μ n a.eval G →
    ∃ vs t, (execOp a.eval o).run P w = .ok (.value (s.val w.heap.size)) (w.alloc (.cells (List.toArray vs) t)) ∧ Vs ξ Φ μ n vs cs
theorem FS.alloc {o : Oper} {G : AF} {T : TypeId} {z : AV} (ho : o.op = .alloc T) (h : zeroA P T = some z) (hf : z.flat = true) : FS ξ P o G z.cells .ptr := by
  refine ⟨trivial, by rw [ho]; simp, fun Φ μ n w a _ => ?_⟩
  obtain ⟨v, h1, h2⟩ := zeroA_sound (ξ := ξ) (Φ := Φ) (μ := μ) w h
  refine ⟨v.cells.toList, T, ?_, (h2 n).cells hf⟩
  unfold execOp; rw [ho]
  simp [Instr.alloc, h1, newVar, newRow, Shp.val]

/-- The rest of a region that draws, in the order of the text. -/
def ADs (ξ : Env) (P : Program) (ops : List Oper) (K : AF → AH → Prop) : List (Oper × PK) → AF → AH → List AH → List (Nat × Nat × AF × Oper × AV) → Prop
  | [], F, H, prev, rd => (∀ q ∈ rd, ∀ k Hk, q.1 ≤ k → k ≤ q.2.1 → (prev.reverse ++ [H])[k]? = some Hk → PS ξ P Hk q.2.2.2.1 q.2.2.1 q.2.2.2.2) ∧ K F H
  | (o, k) :: rest, F, H, prev, rd => ∃ b, wantA ops F o = some b ∧
    match b, k with
    | false, .e => ADs ξ P ops K rest (F.put o.dst (.tuple [])) H (H :: prev) rd
    | false, .f => ADs ξ P ops K rest (F.put o.dst (.tuple [])) H (H :: prev) rd
    | false, .p => ADs ξ P ops K rest (F.put o.dst (.tuple [])) H prev rd
    | false, .r _ _ => ADs ξ P ops K rest (F.put o.dst (.tuple [])) H prev rd
    | true, .p => ∃ z, (∀ n, PS ξ P ⟨.nil, n, []⟩ o (gather F o) z) ∧ ADs ξ P ops K rest (F.put o.dst z) H prev rd
    | true, .r lo hi => ∃ z, PS ξ P H o (gather F o) z ∧ ADs ξ P ops K rest (F.put o.dst z) H prev ((lo, hi, gather F o, o, z) :: rd)
    | true, .e => ∃ z H', ES ξ P o (gather F o) H z H' ∧ ADs ξ P ops K rest (F.put o.dst z) H' (H :: prev) rd
    | true, .f => ∃ cs s, FS ξ P o (gather F o) cs s ∧ ADs ξ P ops K rest (F.put o.dst (s.av H.next)) (H.push (.cells false cs)) (H :: prev) rd

/-- The course of a region: what each operation yields, the stages of the heap. -/
structure Course where
  z : Nat → AV
  F : Nat → AF
  s : Nat → Nat
  H : Nat → AH
  w : Nat → Bool
def kfact (ξ : Env) (P : Program) (o : Oper) (G : AF) (m : Nat) (Hs : Nat → AH) (s : Nat) (z : AV) : PK → Prop
  | .p => ∀ n, PS ξ P ⟨.nil, n, []⟩ o G z
  | .r lo hi => ∀ k, lo ≤ k → k ≤ hi → k ≤ m → PS ξ P (Hs k) o G z
  | .e => ES ξ P o G (Hs s) z (Hs (s + 1))
  | .f => ∃ cs sh, FS ξ P o G cs sh ∧ z = sh.av (Hs s).next ∧ Hs (s + 1) = (Hs s).push (.cells false cs)
def Course.At (C : Course) (ξ : Env) (P : Program) (ops : List Oper) (m : Nat) (i : Nat) (o : Oper) (k : PK) : Prop :=
  wantA ops (C.F i) o = some (C.w i) ∧ C.F (i + 1) = (C.F i).put o.dst (C.z i) ∧ C.s (i + 1) = C.s i + (if k.ef then 1 else 0) ∧
  (C.w i = false → C.z i = .tuple [] ∧ (k.ef = true → C.H (C.s i + 1) = C.H (C.s i))) ∧
  (C.w i = true → kfact ξ P o (gather (C.F i) o) m C.H (C.s i) (C.z i) k)

def Course.cons (C : Course) (z : AV) (F : AF) (s : Nat) (w : Bool) : Course :=
  ⟨fun i => match i with | 0 => z | j + 1 => C.z j, fun i => match i with | 0 => F | j + 1 => C.F j, fun i => match i with | 0 => s | j + 1 => C.s j, C.H, fun i => match i with | 0 => w | j + 1 => C.w j⟩

theorem ADs.course {ops : List Oper} {K : AF → AH → Prop} : ∀ {l : List (Oper × PK)} {F : AF} {H : AH} {prev : List AH} {rd : List (Nat × Nat × AF × Oper × AV)}, ADs ξ P ops K l F H prev rd →
    ∃ C : Course, C.F 0 = F ∧ C.s 0 = prev.length ∧ (∀ k Hk, (prev.reverse ++ [H])[k]? = some Hk → C.H k = Hk) ∧ (∀ i o k, l[i]? = some (o, k) → C.At ξ P ops (C.s l.length) i o k) ∧
      (∀ q ∈ rd, ∀ k, q.1 ≤ k → k ≤ q.2.1 → k ≤ C.s l.length → PS ξ P (C.H k) q.2.2.2.1 q.2.2.1 q.2.2.2.2) ∧ K (C.F l.length) (C.H (C.s l.length))
  | [], F, H, prev, rd, h => by
    obtain ⟨h1, h2⟩ := h
    let Hs : List AH := prev.reverse ++ [H]
    have hlast : Hs[prev.length]? = some H := by simp [Hs]
    refine ⟨⟨fun _ => .undef, fun _ => F, fun _ => prev.length, fun k => Hs.getD k H, fun _ => true⟩, rfl, rfl, fun k Hk hk => ?_, fun i o k h => by simp at h, fun q hq k h3 h4 h5 => ?_, ?_⟩
    · show Hs.getD k H = Hk
      rw [List.getD_eq_getElem?_getD]
      have : Hs[k]? = some Hk := hk
      rw [this]; rfl
    · have hk : k < Hs.length := by simp [Hs] at h5 ⊢; omega
      have hk' : Hs[k]? = some Hs[k] := by simp [hk]
      show PS ξ P (Hs.getD k H) _ _ _
      rw [List.getD_eq_getElem?_getD, hk']
      exact h1 q hq k _ h3 h4 hk'
    · show K F (Hs.getD prev.length H)
      rw [List.getD_eq_getElem?_getD, hlast]
      exact h2
  | (o, k) :: rest, F, H, prev, rd, h => by
    obtain ⟨b, hb, h⟩ := h
    have key : ∀ (z : AV) (H' : AH) (prev' : List AH) (rd' : List (Nat × Nat × AF × Oper × AV)), ADs ξ P ops K rest (F.put o.dst z) H' prev' rd' → prev'.length = prev.length + (if k.ef then 1 else 0) →
        (∀ (C : Course), (∀ k Hk, (prev'.reverse ++ [H'])[k]? = some Hk → C.H k = Hk) → (∀ q ∈ rd', ∀ k, q.1 ≤ k → k ≤ q.2.1 → k ≤ C.s rest.length → PS ξ P (C.H k) q.2.2.2.1 q.2.2.1 q.2.2.2.2) →
          (∀ k Hk, (prev.reverse ++ [H])[k]? = some Hk → C.H k = Hk) ∧ (∀ q ∈ rd, ∀ k, q.1 ≤ k → k ≤ q.2.1 → k ≤ C.s rest.length → PS ξ P (C.H k) q.2.2.2.1 q.2.2.1 q.2.2.2.2) ∧
          (b = false → z = .tuple [] ∧ (k.ef = true → C.H (prev.length + 1) = C.H prev.length)) ∧
          (b = true → kfact ξ P o (gather F o) (C.s rest.length) C.H prev.length z k)) →
        ∃ C : Course, C.F 0 = F ∧ C.s 0 = prev.length ∧ (∀ k Hk, (prev.reverse ++ [H])[k]? = some Hk → C.H k = Hk) ∧ (∀ i o' k', ((o, k) :: rest)[i]? = some (o', k') → C.At ξ P ops (C.s ((o, k) :: rest).length) i o' k') ∧
          (∀ q ∈ rd, ∀ j, q.1 ≤ j → j ≤ q.2.1 → j ≤ C.s ((o, k) :: rest).length → PS ξ P (C.H j) q.2.2.2.1 q.2.2.1 q.2.2.2.2) ∧ K (C.F ((o, k) :: rest).length) (C.H (C.s ((o, k) :: rest).length)) := by
      intro z H' prev' rd' hA hlen hfacts
      obtain ⟨C, c1, c2, c3, c4, c5, c6⟩ := ADs.course hA
      obtain ⟨f1, f2, f3, f4⟩ := hfacts C c3 c5
      refine ⟨C.cons z F prev.length b, rfl, rfl, f1, fun i o' k' hi => ?_, f2, c6⟩
      cases i with
      | zero =>
        simp only [List.getElem?_cons_zero, Option.some.injEq, Prod.mk.injEq] at hi
        obtain ⟨rfl, rfl⟩ := hi
        exact ⟨hb, c1, c2.trans hlen, f3, f4⟩
      | succ i =>
        simp only [List.getElem?_cons_succ] at hi
        exact c4 i o' k' hi
    have same : ∀ (C : Course), (∀ k Hk, (prev.reverse ++ [H])[k]? = some Hk → C.H k = Hk) → C.H prev.length = H := fun C hC => hC _ _ (by simp)
    have more : ∀ (C : Course) (H' : AH), (∀ k Hk, ((H :: prev).reverse ++ [H'])[k]? = some Hk → C.H k = Hk) → (∀ k Hk, (prev.reverse ++ [H])[k]? = some Hk → C.H k = Hk) ∧ C.H prev.length = H ∧ C.H (prev.length + 1) = H' := fun C H' hC => by
      have e : (H :: prev).reverse ++ [H'] = (prev.reverse ++ [H]) ++ [H'] := by simp
      rw [e] at hC
      have h1 : ∀ k Hk, (prev.reverse ++ [H])[k]? = some Hk → C.H k = Hk := fun k Hk hk => hC k Hk (by
        rw [List.getElem?_append_left (List.getElem?_eq_some_iff.1 hk).1]; exact hk)
      refine ⟨h1, same C h1, hC _ _ ?_⟩
      rw [List.getElem?_append_right (by simp)]
      simp
    cases b <;> cases k <;> simp only at h
    · exact key _ _ _ _ h rfl (fun C h1 h2 => ⟨h1, h2, fun _ => ⟨rfl, fun h => by cases h⟩, fun h => by cases h⟩)
    · exact key _ _ _ _ h rfl (fun C h1 h2 => ⟨h1, h2, fun _ => ⟨rfl, fun h => by cases h⟩, fun h => by cases h⟩)
    · exact key _ _ _ _ h rfl (fun C h1 h2 => by
        obtain ⟨m1, m2, m3⟩ := more C _ h1
        exact ⟨m1, h2, fun _ => ⟨rfl, fun _ => m3.trans m2.symm⟩, fun h => by cases h⟩)
    · exact key _ _ _ _ h rfl (fun C h1 h2 => by
        obtain ⟨m1, m2, m3⟩ := more C _ h1
        exact ⟨m1, h2, fun _ => ⟨rfl, fun _ => m3.trans m2.symm⟩, fun h => by cases h⟩)
    · obtain ⟨z, hz, h⟩ := h
      exact key _ _ _ _ h rfl (fun C h1 h2 => ⟨h1, h2, (fun h => by cases h), fun _ => hz⟩)
    · obtain ⟨z, hz, h⟩ := h
      exact key _ _ _ _ h rfl (fun C h1 h2 => ⟨h1, fun q hq => h2 q (List.mem_cons_of_mem _ hq), (fun h => by cases h), fun _ k h3 h4 h5 => h2 _ (List.mem_cons_self) k h3 h4 h5⟩)
    · obtain ⟨z, H', hz, h⟩ := h
      exact key _ _ _ _ h rfl (fun C h1 h2 => by
        obtain ⟨m1, m2, m3⟩ := more C _ h1
        exact ⟨m1, h2, (fun h => by cases h), fun _ => by show ES _ _ _ _ (C.H prev.length) _ (C.H (prev.length + 1)); rw [m2, m3]; exact hz⟩)
    · obtain ⟨cs, s, hz, h⟩ := h
      exact key _ _ _ _ h rfl (fun C h1 h2 => by
        obtain ⟨m1, m2, m3⟩ := more C _ h1
        exact ⟨m1, h2, (fun h => by cases h), fun _ => ⟨cs, s, hz, by rw [m2], by rw [m2, m3]⟩⟩)
end
end Go.Ai
end
