/- THE ABSTRACT INTERPRETER, PART 3: conversions, lookups, lengths, composite values; the operation that only reads, whole. -/
import Derived.Test.YtaghpkljmnpjoaaGreatDoorE2
set_option linter.unusedVariables false
set_option linter.unusedSimpArgs false
noncomputable section
namespace Go.Ai
variable {ξ : Env}

section
variable {P : Program} {Φ : Nat → Option Obj} {μ : Nat → Pl}

def unA (op : UnOp) (x : AV) : Option AV :=
  match op, x with
  | .not, .bool b => some (.bool (!b))
  | .neg, .int k n => some (.int k (k.wrap (0 - n)))
  | _, _ => none
theorem unA_sound {n : Nat} {op : UnOp} {x z : AV} {v : Value} (w : World) (h : unA op x = some z) (hv : V ξ Φ μ n v x) : ∃ r, (Op.unary op v).run P w = .ok r w ∧ V ξ Φ μ n r z := by
  unfold unA at h
  split at h
  · cases h; cases hv; exact ⟨_, rfl, .bool _ _⟩
  · cases h; cases hv; exact ⟨_, rfl, .int _ _ _⟩
  · cases h

/-- The elements of a slice. -/
def chunks (ag : Bool) (esz : Nat) : Nat → List AV → List AV
  | 0, _ => []
  | n + 1, cs => (if ag then .agg (cs.take esz) else cs.headD .undef) :: chunks ag esz n (cs.drop esz)

/-- Bytes. -/
def byteA : List AV → Option (List UInt8)
  | [] => some []
  | .int .u8 n :: r => match byteA r with
    | some l => some (UInt8.ofNat n.toNat :: l)
    | none => none
  | _ :: _ => none
/-- The single cells of a slice whose elements have one cell. -/
def cells1 (H : AH) : AV → Option (List AV)
  | .fslice esz els _ => if esz = 1 ∨ els = [] then if els.all AV.one then some els else none else none
  | .slice id off len esz ag _ => if esz = 1 ∧ ag = false then
      match H.get id with
      | some (.cells _ cs) => if off + len ≤ cs.length then some ((cs.drop off).take len) else none
      | _ => none
    else none
  | _ => none
theorem flat_one : ∀ (ws : List Value), (∀ w ∈ ws, w.oneCell' = true) → (ws.flatMap fun w => w.cells.toList) = ws
  | [], _ => rfl
  | x :: xs, h => by
    have hx := h x (by simp)
    rw [List.flatMap_cons, flat_one xs (fun w hw => h w (by simp [hw]))]
    cases x <;> first | rfl | simp [Value.oneCell'] at hx
theorem cells1_sound {H : AH} {w : World} {x : AV} {cs : List AV} {v : Value} (hR : R ξ Φ μ H w) (h : cells1 H x = some cs) (hv : V ξ Φ μ H.next v x) :
    ∃ a c vs, v = .slice a cs.length c ∧ Vs ξ Φ μ H.next vs cs ∧ (cs ≠ [] → ∃ b o, a = some ⟨b, o, none⟩ ∧ ∀ (j : Nat) u, vs[j]? = some u → w.cell? ⟨b, o + j, none⟩ = some u) := by
  unfold cells1 at h
  cases hv with
  | fnil _ esz a c cap hcap =>
    simp at h; subst h
    exact ⟨a, c, [], rfl, Vs.nil, fun h => absurd rfl h⟩
  | fslice _ b o c esz cap cs' t fz ws els hcap hlc hb hl hsz hc hv' =>
    simp only at h
    split at h
    · rename_i he
      split at h
      · rename_i hone
        cases h
        have hw1 : ∀ w ∈ ws, w.oneCell' = true := by
          intro y hy
          obtain ⟨j, hj⟩ := List.getElem?_of_mem hy
          have hlt : j < cs.length := by rw [← hl]; exact (List.getElem?_eq_some_iff.1 hj).1
          exact (hv' j y cs[j] hj (by simp)).one ((List.all_eq_true.1 hone) _ (List.getElem_mem _))
        refine ⟨_, c, ws, rfl, ⟨hl, fun j v a h1 h2 => (hv' j v a h1 h2).up⟩, fun _ => ⟨b, o, rfl, fun j u hj => ?_⟩⟩
        rw [cell_of_row' w _ _ _ _ _ (hR.frz _ _ hb)]
        exact hc j u (by rw [flat_one ws hw1]; exact hj)
      · cases h
    · cases h
  | slice _ id off len esz ag c cap hid hcap hlc hsz =>
    simp only at h
    split at h
    · split at h
      · rename_i he str cs' hg
        split at h
        · rename_i hle
          cases h
          obtain ⟨c', t, vs, h1, h2, h3, h4, h5⟩ := hR.obj _ _ hg
          have hlen : ((cs'.drop off).take len).length = len := by simp; omega
          refine ⟨_, c, (vs.drop off).take len, by rw [hlen], (h5.drop off).take len, fun _ => ⟨_, _, rfl, fun j u hj => ?_⟩⟩
          rw [cell_of_row' w _ _ _ _ _ h1]
          rw [List.getElem?_take] at hj
          split at hj
          · have := h4 (off + j) u (by simpa using hj)
            rw [← this]; congr 1; omega
          · cases hj
        · cases h
      · cases h
    · cases h
  | _ => cases h

theorem byteA_sound {n : Nat} : ∀ {cs : List AV} {l : List UInt8} {vs : List Value}, byteA cs = some l → Vs ξ Φ μ n vs cs →
    ∃ ns : List Int, vs = ns.map (Value.int .u8) ∧ l = ns.map fun n => UInt8.ofNat n.toNat
  | [], l, vs, h, hv => by
    simp [byteA] at h; subst h
    have := hv.1
    simp at this; subst this
    exact ⟨[], rfl, rfl⟩
  | c :: r, l, vs, h, hv => by
    unfold byteA at h
    split at h
    · rename_i heq; cases heq
    · rename_i m r' heq
      cases heq
      split at h
      · rename_i l' hr
        cases h
        cases vs with
        | nil => have := hv.1; simp at this
        | cons v vs =>
          obtain ⟨ns, h1, h2⟩ := byteA_sound hr hv.tail
          have hh := hv.head
          cases hh
          exact ⟨m :: ns, by simp [h1], by simp [h2]⟩
      · cases h
    · cases h

theorem foldl_push (ns : List Int) : ∀ s : ByteArray, (ns.foldl (fun r n => r.push (UInt8.ofNat n.toNat)) s).data.toList = s.data.toList ++ ns.map fun n => UInt8.ofNat n.toNat := by
  induction ns with
  | nil => simp
  | cons n ns ih => intro s; rw [List.foldl_cons, ih]; simp [ByteArray.push]

def mkBytes (l : List UInt8) : ByteArray := ⟨l.toArray⟩
theorem bytes_mk (l : List UInt8) : bytes (mkBytes l) = l := by simp [bytes, mkBytes]
theorem mk_bytes (s : ByteArray) : mkBytes (bytes s) = s := bytes_inj (bytes_mk _)

def convA (P : Tab) (H : AH) (src dst : TypeId) (x : AV) : Option AV :=
  match x with
  | .int _ n => match P.underlying src, P.underlying dst with
    | some _, some (.int k) => some (.int k (k.wrap n))
    | _, _ => none
  | .str s => match P.underlying src, P.underlying dst with
    | some .string, some .string => some (.str s)
    | _, _ => none
  | x => match P.underlying src, P.underlying dst with
    | some (.slice e), some .string => match P.underlying e with
      | some (.int .u8) => match cells1 H x with
        | some cs => match byteA cs with
          | some l => some (.str (mkBytes l))
          | none => none
        | none => none
      | _ => none
    | _, _ => none
theorem convA_sound {H : AH} {w : World} {src dst : TypeId} {x z : AV} {v : Value} (hR : R ξ Φ μ H w) (h : convA P H src dst x = some z) (hv : V ξ Φ μ H.next v x) :
    ∃ r, (convert src dst v).run P w = .ok r w ∧ V ξ Φ μ H.next r z := by
  unfold convA at h
  split at h
  · split at h
    · rename_i hs hd
      cases h; cases hv
      exact ⟨_, by simp [convert, run_underlying hs, run_underlying hd, Conv.intToInt], .int _ _ _⟩
    · cases h
  · split at h
    · rename_i hs hd
      cases h; cases hv
      exact ⟨_, by simp [convert, run_underlying hs, run_underlying hd], .str _ _⟩
    · cases h
  · split at h
    · rename_i e hs hd
      split at h
      · rename_i he
        split at h
        · rename_i cs hc
          split at h
          · rename_i l hl
            cases h
            obtain ⟨a, c, vs, hv1, hvs, hne⟩ := cells1_sound hR hc hv
            obtain ⟨ns, h1, h2⟩ := byteA_sound hl hvs
            subst hv1
            refine ⟨.string (mkBytes l), ?_, .str _ _⟩
            rw [run_convert_bytes_string w src dst e a _ c hs he hd]
            by_cases hcs : cs = []
            · subst hcs
              have hvs0 : vs = [] := by have := hvs.1; simpa using this
              have hns0 : ns = [] := by rw [hvs0] at h1; simpa using h1.symm
              subst hns0
              simp at h2; subst h2
              cases a with
              | none => rfl
              | some a =>
                have := run_bytesToString (P := P) w a 0 c [] (by simp [loadCells, loadCellsFrom])
                rw [show mkBytes [] = ByteArray.empty from rfl]
                simpa using this
            · obtain ⟨b, o, ha, hcell⟩ := hne hcs
              subst ha
              have hlen : cs.length = vs.length := hvs.1.symm
              have hload : (loadCells ⟨b, o, none⟩ cs.length).run P w = .ok (ns.map (Value.int .u8)).toArray w := by
                rw [hlen, ← h1]
                exact run_loadCells_list w _ vs (fun j u hj => by rw [add_off]; exact hcell j u hj)
              rw [run_bytesToString w _ _ _ ns hload]
              congr 2
              refine bytes_inj ?_
              rw [bytes_mk, h2]
              have := foldl_push ns ByteArray.empty
              simpa [bytes] using this
          · cases h
        · cases h
      · cases h
    · cases h

/-- A map's entry by its key. -/
def keyEq : AV → AV → Option Bool
  | .str a, .str b => some (decide (a = b))
  | .int k a, .int k' b => if k = k' then some (a == b) else none
  | .bool a, .bool b => some (a == b)
  | _, _ => none
def lookL (k : AV) : List (AV × AV) → Option (Option AV)
  | [] => some none
  | (k', v) :: r => match keyEq k k' with
    | some true => some (some v)
    | some false => lookL k r
    | none => none
def keyKind (P : Tab) (kt : TypeId) (k : AV) : Option TypeDesc :=
  match P.underlying kt, k with
  | some .string, .str _ => some .string
  | some (.int j), .int j' _ => if j = j' then some (.int j) else none
  | some .bool, .bool _ => some .bool
  | _, _ => none

theorem ba_beq (a b : ByteArray) : (a == b) = decide (a = b) := by
  cases a with | mk a => cases b with | mk b =>
  show (a == b) = _
  rw [Bool.eq_iff_iff]; simp
theorem keyEq_now {d : TypeDesc} {kt : TypeId} {n : Nat} {k k' : AV} {v v' : Value} {b : Bool} (hd : keyKind P kt k = some d) (h : keyEq k k' = some b) (hv : V ξ Φ μ n v k) (hv' : V ξ Φ μ 0 v' k') :
    Instr.sameNow d v v' = some b := by
  unfold keyKind at hd
  split at hd
  · cases hd
    cases hv
    cases hv' <;> simp only [keyEq] at h <;> cases h
    simp only [Instr.sameNow, ba_beq]
  · split at hd <;> cases hd
    rename_i hj
    subst hj
    cases hv
    cases hv' <;> simp only [keyEq] at h <;> (try (cases h; done))
    split at h <;> cases h
    rename_i hk; subst hk
    simp [Instr.sameNow]
  · cases hd
    cases hv
    cases hv' <;> simp only [keyEq] at h <;> cases h
    rfl
  · cases hd

theorem lookL_now {d : TypeDesc} {kt : TypeId} {n : Nat} {k : AV} {v : Value} (hd : keyKind P kt k = some d) (hv : V ξ Φ μ n v k) :
    ∀ {es : List (AV × AV)} {en : List MapEntry} {r : Option AV} (i : Nat), lookL k es = some r → Vm ξ Φ μ en es →
      ∃ q, Instr.findNow d v en i = some q ∧ match r with
        | none => q = none
        | some x => ∃ j u, q = some (i + j, u) ∧ (∃ e, en[j]? = some e ∧ e.val = u) ∧ V ξ Φ μ 0 u x
  | [], en, r, i, h, hm => by
    have : en = [] := by have := hm.1; simpa using this
    subst this
    simp [lookL] at h; subst h
    exact ⟨none, rfl, rfl⟩
  | (k', x) :: es, en, r, i, h, hm => by
    cases en with
    | nil => have := hm.1; simp at this
    | cons e en =>
      have h0 := hm.2 0 e (k', x) rfl rfl
      simp only [lookL] at h
      split at h
      · rename_i he
        cases h
        refine ⟨some (i, e.val), by simp [Instr.findNow, keyEq_now hd he hv h0.1], 0, e.val, rfl, ⟨e, rfl, rfl⟩, h0.2⟩
      · rename_i he
        have hm' : Vm ξ Φ μ en es := ⟨by have := hm.1; simpa using this, fun j e p h1 h2 => hm.2 (j + 1) e p (by simpa using h1) (by simpa using h2)⟩
        obtain ⟨q, h1, h2⟩ := lookL_now hd hv (i + 1) h hm'
        refine ⟨q, by simp [Instr.findNow, keyEq_now hd he hv h0.1, h1], ?_⟩
        cases r with
        | none => exact h2
        | some y =>
          obtain ⟨j, u, h3, ⟨e', h4, h5⟩, h6⟩ := h2
          exact ⟨j + 1, u, by rw [h3]; congr 2; omega, ⟨e', by simpa using h4, h5⟩, h6⟩
      · cases h

theorem keyKind_under {kt : TypeId} {k : AV} {d : TypeDesc} (h : keyKind P kt k = some d) : P.underlying kt = some d := by
  unfold keyKind at h
  split at h
  · cases h; assumption
  · split at h <;> cases h; assumption
  · cases h; assumption
  · cases h
theorem checkKey_ok {n : Nat} {kt : TypeId} {k : AV} {d : TypeDesc} {v : Value} (h : keyKind P kt k = some d) (hv : V ξ Φ μ n v k) (b : Bool) (f : Nat) (w : World) :
    (Instr.checkKey b (f + 1) kt v).run P w = .ok () w := by
  have hu := keyKind_under h
  unfold keyKind at h
  split at h
  · cases h; cases hv; simp [Instr.checkKey, run_underlying hu]
  · split at h <;> cases h
    cases hv; simp [Instr.checkKey, run_underlying hu]
  · cases h; cases hv; simp [Instr.checkKey, run_underlying hu]
  · cases h
theorem checkKey_any {n : Nat} {kt : TypeId} {k : AV} {d : TypeDesc} {v : Value} (h : keyKind P kt k = some d) (hv : V ξ Φ μ n v k) (b : Bool) (w : World) :
    (Instr.checkKey b 10000 kt v).run P w = .ok () w := checkKey_ok h hv b 9999 w

theorem run_getObj_map {w : World} {b : Nat} {en : Array MapEntry} {clock : Nat} (h : w.heap[b]? = some (.map en clock)) : (getObj b).run P w = .ok (.map en clock) w := by
  simp [getObj, Sem.run, h]

/-- Of a map type: its key's and its element's type. -/
def mapTy (P : Tab) (t : TypeId) : Option (TypeId × TypeId) :=
  match P.underlying t with
  | some (.map k e) => some (k, e)
  | _ => none
theorem mapTy_spec {t k e : TypeId} (h : mapTy P t = some (k, e)) : P.underlying t = some (.map k e) := by
  unfold mapTy at h
  split at h <;> cases h
  assumption
def zeroA (P : Tab) (t : TypeId) : Option AV :=
  match P.info? t with
  | some i => match i.zero with
    | some z => constA z
    | none => none
  | none => none
theorem zeroA_sound {t : TypeId} {x : AV} (w : World) (h : zeroA P t = some x) : ∃ v, (zeroValue t).run P w = .ok v w ∧ ∀ n, V ξ Φ μ n v x := by
  unfold zeroA at h
  split at h
  · rename_i i hi
    have hi : P.info? t = some i := hi
    split at h
    · rename_i z hz
      exact ⟨z, by simp [zeroValue, typeInfo, hi, hz], fun n => V.constA h⟩
    · cases h
  · cases h

def lookupA (P : Tab) (H : AH) (t : TypeId) (m k : AV) (ok : Bool) : Option AV :=
  match mapTy P t with
  | some (kt, et) => match keyKind P kt k with
    | some _ =>
      let r : Option (Option AV) := match m with
        | .nilmap => some none
        | .map id => match H.get id with
          | some (.map es _ _) => lookL k es
          | _ => none
        | _ => none
      match r with
      | some (some x) => some (if ok then .tuple [x, .bool true] else x)
      | some none => match zeroA P et with
        | some z => some (if ok then .tuple [z, .bool false] else z)
        | none => none
      | none => none
    | none => none
  | none => none

theorem V.pair {n : Nat} {u v : Value} {x y : AV} (h1 : V ξ Φ μ n u x) (h2 : V ξ Φ μ n v y) : V ξ Φ μ n (.tuple #[u, v]) (.tuple [x, y]) := by
  have := Vs.cons h1 (Vs.cons h2 Vs.nil)
  exact .tuple _ [u, v] [x, y] this.1 this.2

def IsES (w : World) (vm : Value) (es : Array MapEntry) : Prop := (vm = .map none ∧ es = #[]) ∨ ∃ b clock, vm = .map (some b) ∧ w.heap[b]? = some (.map es clock)
theorem lookup_run {w : World} {t kt et : TypeId} {vm vk : Value} {ok : Bool} {es : Array MapEntry} {d : TypeDesc} {q : Option (Nat × Value)} (hes : IsES w vm es) (hu : P.underlying t = some (.map kt et))
    (hc : ∀ b, (Instr.checkKey b 10000 kt vk).run P w = .ok () w) (hku : P.underlying kt = some d) (hq : Instr.findNow d vk es.toList 0 = some q) (v : Value) (b : Bool)
    (hv : (match q with | some (_, v) => pure (v, true) | none => do pure (← zeroValue et, false) : Sem (Value × Bool)).run P w = .ok (v, b) w) :
    (Instr.lookup t vm vk ok).run P w = .ok (if ok then .tuple #[v, .bool b] else v) w := by
  rcases hes with ⟨rfl, rfl⟩ | ⟨bb, clock, rfl, h⟩
  · cases q with
    | none =>
      simp at hv
      simp [Instr.lookup, run_underlying hu, hc, Instr.findKey, run_underlying hku]
      have : Instr.findNow d vk [] 0 = some none := rfl
      simp [this]
      revert hv
      cases (zeroValue et).run P w <;> simp
      rintro rfl rfl rfl; simp
    | some p => simp [Instr.findNow] at hq
  · cases q with
    | none =>
      simp at hv
      simp [Instr.lookup, run_underlying hu, hc, Instr.findKey, run_underlying hku, run_getObj_map h, hq]
      revert hv
      cases (zeroValue et).run P w <;> simp
      rintro rfl rfl rfl; simp
    | some p =>
      simp at hv
      obtain ⟨rfl, rfl⟩ := hv
      simp [Instr.lookup, run_underlying hu, hc, Instr.findKey, run_underlying hku, run_getObj_map h, hq]

theorem lookupA_sound {H : AH} {w : World} {t : TypeId} {m k z : AV} {ok : Bool} {vm vk : Value} (hR : R ξ Φ μ H w) (h : lookupA P H t m k ok = some z)
    (hm : V ξ Φ μ H.next vm m) (hk : V ξ Φ μ H.next vk k) : ∃ r, (Instr.lookup t vm vk ok).run P w = .ok r w ∧ V ξ Φ μ H.next r z := by
  unfold lookupA at h
  split at h
  · rename_i kt et hmt
    have hu := mapTy_spec hmt
    split at h
    · rename_i d hd
      have hku := keyKind_under hd
      have key : ∀ (es : Array MapEntry) (q : Option (Nat × Value)) (r : Option AV), IsES w vm es → Instr.findNow d vk es.toList 0 = some q →
          (match r with | none => q = none | some x => ∃ j u, q = some (j, u) ∧ V ξ Φ μ 0 u x) →
          (match (r : Option AV) with
            | some x => some (if ok then .tuple [x, .bool true] else x)
            | none => match zeroA P et with
              | some z => some (if ok then .tuple [z, .bool false] else z)
              | none => none : Option AV) = some z → ∃ r, (Instr.lookup t vm vk ok).run P w = .ok r w ∧ V ξ Φ μ H.next r z := by
        intro es q r hes hq hr hz
        cases r with
        | some x =>
          obtain ⟨j, u, e, hV⟩ := hr
          subst e
          simp only [Option.some.injEq] at hz
          refine ⟨_, lookup_run hes hu (checkKey_any hd hk · w) hku hq u true rfl, ?_⟩
          rw [← hz]
          cases ok
          · exact hV.up
          · exact V.pair hV.up (.bool _ _)
        | none =>
          subst hr
          simp only at hz
          split at hz
          · rename_i y hy
            simp only [Option.some.injEq] at hz
            obtain ⟨v, h1, h2⟩ := zeroA_sound (ξ := ξ) (Φ := Φ) (μ := μ) w hy
            refine ⟨_, lookup_run hes hu (checkKey_any hd hk · w) hku hq v false (by simp [h1]), ?_⟩
            rw [← hz]
            cases ok
            · exact h2 _
            · exact V.pair (h2 _) (.bool _ _)
          · cases hz
      cases hm with
      | nilmap =>
        refine key #[] none none (.inl ⟨rfl, rfl⟩) rfl rfl ?_
        simpa using h
      | map _ id hid =>
        simp only at h
        cases hg : H.get id with
        | none => simp [hg] at h
        | some o =>
          cases o with
          | cells s cs => simp [hg] at h
          | loop => simp [hg] at h
          | dfr => simp [hg] at h
          | miter => simp [hg] at h
          | map es bs clock =>
            obtain ⟨en, h1, h2, h3, h4⟩ := hR.obj _ _ hg
            simp only [hg] at h
            cases hl : lookL k es with
            | none => simp [hl] at h
            | some r =>
              obtain ⟨q, h5, h6⟩ := lookL_now (P := P) hd hk 0 hl h2
              refine key en q r (.inr ⟨_, _, rfl, h1⟩) h5 ?_ ?_
              · cases r with
                | none => exact h6
                | some x =>
                  obtain ⟨j, u, e, _, hV⟩ := h6
                  exact ⟨0 + j, u, e, hV⟩
              · rw [hl] at h
                cases r <;> exact h
      | _ => simp at h
    · cases h
  · cases h

/-- Lengths. -/
def lenA (P : Tab) (H : AH) (t : TypeId) (x : AV) : Option AV :=
  match P.underlying t, x with
  | some .string, .str s => some (.int .i64 s.size)
  | some (.array n _), _ => some (.int .i64 n)
  | some (.slice _), .slice _ _ len _ _ _ => some (.int .i64 len)
  | some (.slice _), .fslice _ els _ => some (.int .i64 els.length)
  | some (.map _ _), .nilmap => some (.int .i64 0)
  | some (.map _ _), .map id => match H.get id with
    | some (.map es _ _) => some (.int .i64 es.length)
    | _ => none
  | _, _ => none
theorem lenA_sound {H : AH} {w : World} {t ty : TypeId} {x z : AV} {v : Value} (hR : R ξ Φ μ H w) (h : lenA P H t x = some z) (hv : V ξ Φ μ H.next v x) :
    ∃ r, (Builtin.len_ #[t] ty #[v]).run P w = .ok r w ∧ V ξ Φ μ H.next r z := by
  unfold lenA at h
  split at h
  · rename_i hu; cases h; cases hv; exact ⟨_, by simp [Builtin.len_, run_underlying hu, goInt], .int _ _ _⟩
  · rename_i hu; cases h; exact ⟨_, by simp [Builtin.len_, run_underlying hu, goInt], .int _ _ _⟩
  · rename_i hu; cases h; cases hv; exact ⟨_, by simp [Builtin.len_, run_underlying hu, goInt], .int _ _ _⟩
  · rename_i hu; cases h; cases hv <;> exact ⟨_, by simp [Builtin.len_, run_underlying hu, goInt], .int _ _ _⟩
  · rename_i hu; cases h; cases hv; exact ⟨.int .i64 0, by simp [Builtin.len_, run_underlying hu, goInt], .int _ _ _⟩
  · rename_i hu
    split at h
    · rename_i es bs clock hg
      cases h; cases hv
      obtain ⟨en, h1, h2, h3, h4⟩ := hR.obj _ _ hg
      have : en.size = es.length := by have := h2.1; simpa using this
      exact ⟨.int .i64 es.length, by simp [Builtin.len_, run_underlying hu, goInt, run_getObj_map h1, this], .int _ _ _⟩
    · cases h
  · cases h

def mmA (mx : Bool) : AV → List AV → Option AV
  | .int k a, [] => some (.int k a)
  | .int k a, .int k' b :: r => if k = k' then mmA mx (.int k (if mx then max a b else min a b)) r else none
  | _, _ => none
theorem min2_int (k : IntKind) (a b : Int) : Builtin.min2 (.int k a) (.int k b) = pure (.int k (min a b)) := by
  simp only [Builtin.min2]; congr 2; split <;> omega
theorem max2_int (k : IntKind) (a b : Int) : Builtin.max2 (.int k a) (.int k b) = pure (.int k (max a b)) := by
  simp only [Builtin.max2]; congr 2; split <;> omega
theorem mmA_cons {mx : Bool} {x y z : AV} {xs : List AV} (h : mmA mx x (y :: xs) = some z) : ∃ k a b, x = .int k a ∧ y = .int k b ∧ mmA mx (.int k (if mx then max a b else min a b)) xs = some z := by
  unfold mmA at h
  split at h
  · rename_i heq; cases heq
  · rename_i k a k' b r heq
    cases heq
    by_cases hk : k = k'
    · subst hk
      rw [if_pos rfl] at h
      exact ⟨_, _, _, rfl, rfl, h⟩
    · rw [if_neg hk] at h; cases h
  · cases h
theorem mmA_nil {mx : Bool} {x z : AV} (h : mmA mx x [] = some z) : x = z := by
  unfold mmA at h
  split at h
  · cases h; rfl
  · rename_i heq; cases heq
  · cases h
theorem mmA_sound {n : Nat} {mx : Bool} (w : World) : ∀ {xs : List AV} {x z : AV} {v : Value} {vs : List Value}, mmA mx x xs = some z → V ξ Φ μ n v x → Vs ξ Φ μ n vs xs →
    ∃ r, (vs.foldlM (if mx then Builtin.max2 else Builtin.min2) v).run P w = .ok r w ∧ V ξ Φ μ n r z
  | [], x, z, v, vs, h, hv, hvs => by
    have : vs = [] := by have := hvs.1; simpa using this
    subst this
    have := mmA_nil h
    subst this
    exact ⟨v, by simp, hv⟩
  | y :: xs, x, z, v, vs, h, hv, hvs => by
    cases vs with
    | nil => have := hvs.1; simp at this
    | cons u vs =>
      obtain ⟨k, a, b, rfl, rfl, h'⟩ := mmA_cons h
      have hy := hvs.head
      cases hv; cases hy
      obtain ⟨r, h1, h2⟩ := mmA_sound w h' (.int n k _) hvs.tail
      refine ⟨r, ?_, h2⟩
      cases mx
      · simp only [List.foldlM_cons, Bool.false_eq_true, if_false, min2_int, Sem.run_bind, Sem.run_pure, Result.andThen_ok] at h1 ⊢
        exact h1
      · simp only [List.foldlM_cons, if_true, max2_int, Sem.run_bind, Sem.run_pure, Result.andThen_ok] at h1 ⊢
        exact h1
end
end Go.Ai
end
