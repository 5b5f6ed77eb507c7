/- Part of a proof about the given program: EvG2. -/
import Derived.Test.YtbgbplacpjcmfaaEvG
namespace Go.Ev
variable {Rt : Type}
/-! ### maps -/
def keq : (s : Shape) → den s → den s → Bool
  | .int _, a, b => (show Int from a) == (show Int from b)
  | .bool, a, b => (show Bool from a) == (show Bool from b)
  | .str, a, b => (show ByteArray from a) == (show ByteArray from b)
  | .pair _ _, _, _ => false
  | .slice _, _, _ => false
theorem ba_eq {a b : ByteArray} : (a == b) = true ↔ a = b := by
  show (a.data == b.data) = true ↔ _
  rw [beq_iff_eq]
  cases a; cases b; simp
def keyV : (s : Shape) → den s → Value
  | .int k, n => .int k n
  | .bool, b => .bool b
  | .str, s => .string s
  | .pair _ _, _ => undef
  | .slice _, _ => undef
/-- Is a type of keys told so? -/
def keyOk (d : TypeDesc) (s : Shape) : Bool :=
  match d, s with
  | .int k, .int k' => Nat.beq (kindNo k) (kindNo k')
  | .bool, .bool => true
  | .string, .str => true
  | _, _ => false
def oneS : Shape → Bool
  | .pair .. => false
  | _ => true
def mget (ks vs : Shape) (k : den ks) : List (den ks × den vs) → Option (den vs)
  | [] => none
  | x :: m => cond (keq ks k x.1) (some x.2) (mget ks vs k m)
def mset (ks vs : Shape) (k : den ks) (v : den vs) : List (den ks × den vs) → List (den ks × den vs)
  | [] => [(k, v)]
  | x :: m => cond (keq ks k x.1) ((k, v) :: m) (x :: mset ks vs k v m)

theorem keyV_rel {A : Nat → Prop} {w : World} {d : TypeDesc} {s : Shape} (h : keyOk d s = true) {x : den s} {v : Value} (hr : RelD A w s x [v]) : v = keyV s x := by
  cases s <;> cases d <;> simp only [keyOk, Bool.false_eq_true] at h
  all_goals (have := show [v] = [_] from hr; simp only [List.cons.injEq, and_true] at this; exact this)

theorem sameNow_key {d : TypeDesc} {s : Shape} (h : keyOk d s = true) (x y : den s) : Instr.sameNow d (keyV s x) (keyV s y) = some (keq s x y) := by
  cases s <;> cases d <;> simp only [keyOk, Bool.false_eq_true] at h
  all_goals simp [Instr.sameNow, keyV, keq]

/-- What is found, and where it stands. -/
theorem find_rel {A : Nat → Prop} {w : World} {d : TypeDesc} {ks vs : Shape} (h : keyOk d ks = true) (k : den ks) : ∀ {m : List (den ks × den vs)} {es : List MapEntry} (i : Nat), RelEntries A w ks vs m es →
    (mget ks vs k m = none ∧ Instr.findNow d (keyV ks k) es i = some none ∧ ∀ v, mset ks vs k v m = m ++ [(k, v)]) ∨
    (∃ n e x, mget ks vs k m = some x.2 ∧ Instr.findNow d (keyV ks k) es i = some (some (i + n, e.val)) ∧ es[n]? = some e ∧ m[n]? = some x ∧ keq ks k x.1 = true ∧ ∀ v, mset ks vs k v m = m.set n (k, v))
  | [], es, i, hr => by
    rw [show es = [] from hr]
    exact .inl ⟨rfl, rfl, fun _ => rfl⟩
  | x :: m, es, i, ⟨e, es', he, ⟨h1, h2⟩, h3⟩ => by
    subst he
    have hk := keyV_rel h h1
    have hs := sameNow_key h k x.1
    cases hq : keq ks k x.1 with
    | true =>
      refine .inr ⟨0, e, x, by simp [mget, hq], ?_, rfl, rfl, hq, fun v => by simp [mset, hq]⟩
      unfold Instr.findNow
      rw [hk, hs, hq]
      rfl
    | false =>
      have hf : Instr.findNow d (keyV ks k) (e :: es') i = Instr.findNow d (keyV ks k) es' (i + 1) := by
        conv => lhs; unfold Instr.findNow
        rw [hk, hs, hq]
      rcases find_rel h k (i + 1) h3 with ⟨a, b, c⟩ | ⟨n, e', x', a, b, c, d', g, f⟩
      · exact .inl ⟨by simp [mget, hq, a], by rw [hf, b], fun v => by simp [mset, hq, c]⟩
      · exact .inr ⟨n + 1, e', x', by simp [mget, hq, a], by rw [hf, b]; simp [Nat.add_comm, Nat.add_left_comm], by simpa using c, by simpa using d', g, fun v => by simp [mset, hq, f]⟩

theorem RelEntries.length {A : Nat → Prop} {w : World} {ks vs : Shape} : ∀ {m : List (den ks × den vs)} {es : List MapEntry}, RelEntries A w ks vs m es → es.length = m.length
  | [], es, h => by rw [show es = [] from h]; rfl
  | x :: m, _, ⟨e, es', he, _, h⟩ => by subst he; simp [RelEntries.length h]
theorem RelEntries.push {A : Nat → Prop} {w : World} {ks vs : Shape} {y : den ks × den vs} {e : MapEntry} (he : RelEntry A w ks vs y e) : ∀ {m : List (den ks × den vs)} {es : List MapEntry}, RelEntries A w ks vs m es → RelEntries A w ks vs (m ++ [y]) (es ++ [e])
  | [], es, h => by rw [show es = [] from h]; exact ⟨e, [], rfl, he, rfl⟩
  | x :: m, _, ⟨e', es', h1, h2, h3⟩ => by subst h1; exact ⟨e', es' ++ [e], rfl, h2, RelEntries.push he h3⟩
theorem RelEntries.set {A : Nat → Prop} {w : World} {ks vs : Shape} {y : den ks × den vs} {f : MapEntry → MapEntry} : ∀ {m : List (den ks × den vs)} {es : List MapEntry} {n : Nat}, RelEntries A w ks vs m es → (∀ e, es[n]? = some e → RelEntry A w ks vs y (f e)) → RelEntries A w ks vs (m.set n y) (es.modify n f)
  | [], es, n, h, _ => by rw [show es = [] from h]; simp [RelEntries]
  | x :: m, _, 0, ⟨e', es', h1, h2, h3⟩, hf => by subst h1; exact ⟨f e', es', rfl, hf e' rfl, h3⟩
  | x :: m, _, n + 1, ⟨e', es', h1, h2, h3⟩, hf => by
    subst h1
    exact ⟨e', es'.modify n f, rfl, h2, RelEntries.set h3 (fun e he => hf e (by simpa using he))⟩
theorem RelEntries.get {A : Nat → Prop} {w : World} {ks vs : Shape} : ∀ {m : List (den ks × den vs)} {es : List MapEntry} {n : Nat} {e : MapEntry} {x : den ks × den vs}, RelEntries A w ks vs m es → es[n]? = some e → m[n]? = some x → RelEntry A w ks vs x e
  | [], es, n, _, _, h, _, hx => by simp at hx
  | x :: m, _, 0, e, y, ⟨e', es', h1, h2, h3⟩, he, hx => by
    subst h1
    simp only [List.getElem?_cons_zero, Option.some.injEq] at he hx
    subst he; subst hx; exact h2
  | x :: m, _, n + 1, e, y, ⟨e', es', h1, h2, h3⟩, he, hx => by
    subst h1
    simp only [List.getElem?_cons_succ] at he hx
    exact RelEntries.get h3 he hx

theorem run_checkKey {P : Program} {t : TypeId} {d : TypeDesc} {s : Shape} (ht : P.underlying t = some d) (h : keyOk d s = true) (b : Bool) (n : Nat) (v : Value) (w : World) : (Instr.checkKey b (n + 1) t v).run P w = .ok () w := by
  unfold Instr.checkKey
  rw [run_bind', run_und ht]
  cases d <;> cases s <;> simp only [keyOk, Bool.false_eq_true] at h <;> rfl
theorem run_findKey {P : Program} {t : TypeId} {d : TypeDesc} (ht : P.underlying t = some d) {k : Value} {es : List MapEntry} {r : Option (Nat × Value)} (h : Instr.findNow d k es 0 = some r) (w : World) : (Instr.findKey t k es).run P w = .ok r w := by
  unfold Instr.findKey
  rw [run_bind', run_und ht]
  simp only [h]
  rfl
theorem run_getObj {P : Program} {w : World} {b : Nat} {o : Obj} (h : w.heap[b]? = some o) (hc : ∀ c e f, o ≠ .cells c e f) : (getObj b).run P w = .ok o w := by
  unfold getObj
  cases o with
  | cells c e f => exact absurd rfl (hc c e f)
  | _ => simp only [Sem.run, h]

/-- A value of one cell, as a leaf. -/
def leafS : (s : Shape) → den s → Lf
  | .int k, n => .sc (.int k n)
  | .bool, b => .sc (.bool b)
  | .str, s => .sc (.string s)
  | .slice a, xs => .sl a xs none
  | .pair _ _, _ => .any
theorem leafS_rel {φ : Phi} {A : Nat → Prop} {w : World} {s : Shape} {d : den s} {v : Value} (h : RelD A w s d [v]) : RelL φ A w (leafS s d) v := by
  cases s with
  | int k => have := show [v] = [_] from h; simp only [List.cons.injEq, and_true] at this; simp only [leafS, RelL]; exact this
  | bool => have := show [v] = [_] from h; simp only [List.cons.injEq, and_true] at this; simp only [leafS, RelL]; exact this
  | str => have := show [v] = [_] from h; simp only [List.cons.injEq, and_true] at this; simp only [leafS, RelL]; exact this
  | pair a b => simp only [leafS, RelL]
  | slice a =>
    obtain ⟨ad, c, e, h1, h2⟩ := h
    simp only [List.cons.injEq, and_true] at e
    simp only [leafS, RelL]
    exact ⟨ad, c, e, (fun c' hc => by cases hc), h1, h2⟩

def lkPV (co : Bool) (vs : Shape) (r : Option (den vs)) : PV :=
  cond co (.tup [.lf (leafS vs (r.getD (zero vs))), sc (.bool r.isSome)]) (.lf (leafS vs (r.getD (zero vs))))

def mapAt (f : Nat → Option Ob) (p : PV) : Option Ob :=
  match p with
  | .lf (.mp o) => match f o with
    | some (.map ks vs m) => some (.map ks vs m)
    | _ => none
  | _ => none

/-- A key, as data. -/
def keyOf : (s : Shape) → PV → Option (den s)
  | .int k, p => match p with | .lf l => ofInt k l | _ => none
  | .bool, p => match p with | .lf l => ofBool l | _ => none
  | .str, p => match p with | .lf l => ofStr l | _ => none
  | .pair _ _, _ => none
  | .slice _, _ => none
theorem keyOf_rel {φ : Phi} {A : Nat → Prop} {w : World} {s : Shape} {p : PV} {k : den s} {v : Value} (h : keyOf s p = some k) (hr : RelV φ A w p v) : v = keyV s k := by
  cases s with
  | int kd =>
    simp only [keyOf] at h
    split at h
    · rename_i l
      unfold ofInt at h
      split at h
      · rename_i k' n
        cases hb : Nat.beq (kindNo kd) (kindNo k') with
        | false => rw [hb] at h; cases h
        | true =>
          rw [hb] at h; simp only [cond, Option.some.injEq] at h
          simp only [RelV, RelL] at hr
          rw [hr, ← h, kindNo_inj (Nat.eq_of_beq_eq_true hb)]; rfl
      · cases h
    · cases h
  | bool =>
    simp only [keyOf] at h
    split at h
    · rename_i l
      unfold ofBool at h
      split at h
      · simp only [Option.some.injEq] at h
        simp only [RelV, RelL] at hr
        rw [hr, ← h]; rfl
      · cases h
    · cases h
  | str =>
    simp only [keyOf] at h
    split at h
    · rename_i l
      unfold ofStr at h
      split at h
      · simp only [Option.some.injEq] at h
        simp only [RelV, RelL] at hr
        rw [hr, ← h]; rfl
      · cases h
    · cases h
  | pair a b => cases h
  | slice a => cases h

def evLookup (P : Program) (t : TypeId) (co : Bool) (f : Nat → Option Ob) (p q : PV) : Option PV :=
  match mapAt f p, P.underlying t with
  | some (.map ks vs m), some (.map kt et) => match P.underlying kt, P.info? et, keyOf ks q with
    | some d, some ie, some k => match ie.zero with
      | some z => cond (keyOk d ks && zeroD vs z.cells.toList && noAgg z && oneS vs) (some (lkPV co vs (mget ks vs k m))) none
      | none => none
    | _, _, _ => none
  | _, _ => none

def evMapLen (P : Program) (t : TypeId) (f : Nat → Option Ob) (p : PV) : Option PV :=
  match mapAt f p, P.underlying t with
  | some (.map _ _ m), some (.map _ _) => some (sc (.int .i64 (m.length : Int)))
  | _, _ => none

theorem mapAt_rel {f : Nat → Option Ob} {p : PV} {ks vs : Shape} {m : List (den ks × den vs)} (h : mapAt f p = some (.map ks vs m)) {φ : Phi} {A : Nat → Prop} {w : World} (hf : ∀ o x, f o = some x → ∃ b, φ o = some b ∧ RelOb φ A w b x) {v : Value} (hr : RelV φ A w p v) :
    ∃ o b es clock, p = .lf (.mp o) ∧ f o = some (.map ks vs m) ∧ φ o = some b ∧ v = .map (some b.blk) ∧ A b.blk ∧ w.heap[b.blk]? = some (.map es clock) ∧ RelEntries A w ks vs m es.toList := by
  unfold mapAt at h
  split at h
  · rename_i o
    split at h
    · rename_i ks' vs' m' ho
      simp only [Option.some.injEq] at h
      obtain ⟨b, hb, hA, es, clock, hh, hre⟩ := hf _ _ ho
      simp only [RelV, RelL] at hr
      obtain ⟨b', hb', ev⟩ := hr
      rw [hb] at hb'
      simp only [Option.some.injEq] at hb'
      subst hb'
      cases h
      exact ⟨o, b, es, clock, rfl, ho, hb, ev, hA, hh, hre⟩
    · cases h
  · cases h

theorem zero_cell {v : Value} (h : noAgg v = true) : v.cells = #[v] := by
  cases v <;> first | rfl | cases h

theorem lkPV_rel {φ : Phi} {A : Nat → Prop} {w : World} {vs : Shape} {r : Option (den vs)} {v : Value} {b : Bool} (co : Bool) (h : RelD A w vs (r.getD (zero vs)) [v]) (hb : b = r.isSome) : RelV φ A w (lkPV co vs r) (if co = true then .tuple #[v, .bool b] else v) := by
  subst hb
  cases co with
  | true =>
    simp only [lkPV, cond, if_true, RelV]
    refine ⟨[v, .bool r.isSome], rfl, ?_⟩
    simp only [RelVs, RelV]
    exact ⟨v, _, rfl, leafS_rel h, .bool r.isSome, [], rfl, RelV_sc .., rfl⟩
  | false =>
    simp only [lkPV, cond, RelV]
    exact leafS_rel h

theorem evLookup_sound {P : Program} {o : Oper} {t : TypeId} {x y : Operand} {co : Bool} (ho : o.op = .lookup t x y co) {ρ : Operand → PV} {f : Nat → Option Ob} {v : PV} (h : evLookup P t co f (ρ x) (ρ y) = some v)
    {φ : Phi} {A : Nat → Prop} {w : World} {ρm : Operand → Value} (hr : OpsRel φ A w o ρ ρm) (hf : ∀ o x, f o = some x → ∃ b, φ o = some b ∧ RelOb φ A w b x) : ∃ mv, (execOp ρm o).run P w = .ok (.value mv) w ∧ RelV φ A w v mv := by
  have hx := hr x (by rw [ho]; simp [Op.operands])
  have hy := hr y (by rw [ho]; simp [Op.operands])
  unfold evLookup at h
  split at h
  · rename_i ks vs m kt et hm ht
    split at h
    · rename_i d ie k hd hie hk
      split at h
      · rename_i z hz
        cases hc : (keyOk d ks && zeroD vs z.cells.toList && noAgg z && oneS vs) with
        | false => rw [hc] at h; cases h
        | true =>
          rw [hc] at h
          simp only [cond, Option.some.injEq] at h
          simp only [Bool.and_eq_true] at hc
          obtain ⟨⟨⟨hko, hzd⟩, hna⟩, hone⟩ := hc
          obtain ⟨o', b, es, clock, _, _, _, ev, _, hh, hre⟩ := mapAt_rel hm hf hx
          have hkv := keyOf_rel hk hy
          have hg := run_getObj (P := P) hh (fun _ _ _ e => by cases e)
          rcases find_rel hko k 0 hre with ⟨a, b', _⟩ | ⟨n, e, x', a, b', c, d', _, _⟩
          · refine ⟨if co = true then .tuple #[z, .bool false] else z, ?_, h ▸ lkPV_rel co ?_ (by rw [a]; rfl)⟩
            · unfold execOp; rw [ho]; simp only []
              rw [run_bind']
              have key : (Instr.lookup t (ρm x) (ρm y) co).run P w = .ok (if co = true then .tuple #[z, .bool false] else z) w := by
                unfold Instr.lookup
                rw [ev, hkv]
                simp only [run_bind', run_und ht, hg, run_pure, run_checkKey hd hko es.isEmpty 9999, run_findKey hd b', run_zero hie hz]
              rw [key]; rfl
            · rw [a]
              have := zeroD_rel A w hzd
              rw [zero_cell hna] at this
              exact this
          · have hre' := RelEntries.get hre c d'
            refine ⟨if co = true then .tuple #[e.val, .bool true] else e.val, ?_, h ▸ lkPV_rel co ?_ (by rw [a]; rfl)⟩
            · unfold execOp; rw [ho]; simp only []
              rw [run_bind']
              have key : (Instr.lookup t (ρm x) (ρm y) co).run P w = .ok (if co = true then .tuple #[e.val, .bool true] else e.val) w := by
                unfold Instr.lookup
                rw [ev, hkv]
                simp only [run_bind', run_und ht, hg, run_pure, run_checkKey hd hko es.isEmpty 9999, run_findKey hd b']
              rw [key]; rfl
            · rw [a]
              exact hre'.2
      · cases h
    · cases h
  · cases h

theorem evMapLen_sound {P : Program} {o : Oper} {x : Operand} {t : TypeId} {ats : Array TypeId} (ho : o.op = .call { callee := .builtin .len, args := #[x], argTypes := ats }) (hat : ats[0]? = some t) {ρ : Operand → PV} {f : Nat → Option Ob} {v : PV} (h : evMapLen P t f (ρ x) = some v)
    {φ : Phi} {A : Nat → Prop} {w : World} {ρm : Operand → Value} (hr : OpsRel φ A w o ρ ρm) (hf : ∀ o x, f o = some x → ∃ b, φ o = some b ∧ RelOb φ A w b x) : ∃ mv, (execOp ρm o).run P w = .ok (.value mv) w ∧ RelV φ A w v mv := by
  have hx := hr x (by rw [ho]; simp [Op.operands, Call.operands])
  unfold evMapLen at h
  split at h
  · rename_i ks vs m kt et hm ht
    simp only [Option.some.injEq] at h
    obtain ⟨o', b, es, clock, _, _, _, ev, _, hh, hre⟩ := mapAt_rel hm hf hx
    have hg := run_getObj (P := P) hh (fun _ _ _ e => by cases e)
    refine ⟨.int .i64 (m.length : Int), ?_, h ▸ RelV_sc ..⟩
    unfold execOp; rw [ho]
    simp only [resolve, invoke, builtin, run_bind', run_pure, List.map_toArray, List.map_cons, List.map_nil]
    unfold Builtin.len_
    rw [hat]
    simp only [List.getElem?_toArray, List.getElem?_cons_zero, run_bind', run_und ht, ev, hg]
    have hl := RelEntries.length hre
    rw [← hl]
    rfl
  · cases h
end Go.Ev
