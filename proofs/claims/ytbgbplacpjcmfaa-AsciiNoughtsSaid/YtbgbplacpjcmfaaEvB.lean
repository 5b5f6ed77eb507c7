/- Part of a proof about the given program: EvB. -/
import Derived.Test.YtbgbplacpjcmfaaEvA
namespace Go.Ev

/-! ## The state of a frame -/
inductive Ob where
  | box (own : Bool) (g : List Seg)
  | arr (own : Bool) (s : Shape) (xs : List (den s))
  | map (ks vs : Shape) (m : List (den ks × den vs))
  | iter (s : ByteArray) (pos : Nat)

structure St where
  tm : Nat → PV
  ob : Nat → Option Ob
  nx : Nat

def anyV : PV := .lf .any
def sc (v : Value) : PV := .lf (.sc v)
def St.put (s : St) (d : Option Tmp) (v : PV) : St :=
  match d with
  | none => s
  | some t => { s with tm := fun i => cond (Nat.beq i t) v (s.tm i) }

def constPV : Value → PV
  | .agg cs => .agg (cs.toList.map fun v => .lf (.sc v))
  | v => .lf (.sc v)

def St.val (s : St) : Operand → PV
  | .tmp t => s.tm t
  | .const v => constPV v
  | .global _ => anyV
  | .func f => .lf (.fnc f [])

/-! ## What it says of the machine -/
/-- No cell of a row is frozen. -/
def Thawed (n : Nat) (fz : Nat × Nat) : Prop := fz.1 = fz.2 ∨ n ≤ fz.1
theorem Thawed.no {n : Nat} {fz : Nat × Nat} (h : Thawed n fz) : ∀ i, i < n → ¬ (fz.1 ≤ i ∧ i < fz.2) := fun i hi hk => by
  rcases h with h | h <;> omega

def Held (own : Bool) (A : Nat → Prop) (w : World) (blk base : Nat) (vs : List Value) (n : Nat) : Prop :=
  blk < w.heap.size ∧ (if own then A blk ∧ ∃ c e fz, w.heap[blk]? = some (.cells c e fz) ∧ Thawed c.size fz ∧ base + n ≤ c.size ∧ ∀ j v, vs[j]? = some v → c[base + j]? = some v
   else ¬ A blk ∧ CellsAt w blk base vs)

def RelEntry (A : Nat → Prop) (w : World) (ks vs : Shape) (x : den ks × den vs) (e : MapEntry) : Prop :=
  RelD A w ks x.1 [e.key] ∧ RelD A w vs x.2 [e.val]

def RelEntries (A : Nat → Prop) (w : World) (ks vs : Shape) : List (den ks × den vs) → List MapEntry → Prop
  | [], es => es = []
  | x :: m, es => ∃ e es', es = e :: es' ∧ RelEntry A w ks vs x e ∧ RelEntries A w ks vs m es'

def RelOb (φ : Phi) (A : Nat → Prop) (w : World) (b : Bind) : Ob → Prop
  | .box own g => ∃ vs, RelG φ A w g vs ∧ Held own A w b.blk b.base vs vs.length
  | .arr own s xs => b.len = xs.length ∧ xs.length ≤ b.cap ∧ ∃ vs, Lift (RelD A w s) xs vs ∧ (b.cap = 0 ∨ Held own A w b.blk b.base vs (b.cap * s.size))
  | .map ks vs m => A b.blk ∧ ∃ es clock, w.heap[b.blk]? = some (.map es clock) ∧ RelEntries A w ks vs m es.toList
  | .iter s pos => b.base = 0 ∧ A b.blk ∧ w.heap[b.blk]? = some (.stringIter s pos)

def Owns (b : Bind) : Ob → Prop
  | .box own _ => own = true
  | .arr own _ _ => own = true ∧ b.cap ≠ 0
  | .map .. => True
  | .iter .. => True

structure Env where
  w0 : World
  O0 : Nat → Prop
  A0 : Nat → Prop
  inc : Phi → Prop
  mono : ∀ φ φ' : Phi, (∀ o b, φ o = some b → φ' o = some b) → inc φ → inc φ'
  fx : List Bool
  loc : ∀ φ φ' : Phi, (∀ i : Nat, fx[i]? = some true → φ' i = φ i) → inc φ → inc φ'

/-- The one package variable that holds an int (bytealg.MaxLen), if the program has it: its place. -/
def globN : Option Nat := some 0
def GlobAt (A O : Nat → Prop) (w : World) : Prop := ∀ k, globN = some k → ¬ A k ∧ ¬ O k ∧ k < w.heap.size ∧ ∃ m : Int, w.cell? ⟨k, 0, none⟩ = some (.int .i64 m)

structure Frm (E : Env) (A : Nat → Prop) (w : World) : Prop where
  size : E.w0.heap.size ≤ w.heap.size
  heap : ∀ k, k < E.w0.heap.size → ¬ E.O0 k → w.heap[k]? = E.w0.heap[k]?
  out : ∀ k, k < E.w0.heap.size → ¬ E.A0 k → ¬ A k
  keep : ∀ k, k < E.w0.heap.size → E.A0 k → ¬ E.O0 k → A k
  os : w.os = E.w0.os
  tape : w.tape = E.w0.tape
  output : w.output = E.w0.output
  gl : GlobAt E.A0 E.O0 E.w0

structure ROb (E : Env) (φ : Phi) (A : Nat → Prop) (f : Nat → Option Ob) (nx : Nat) (w : World) : Prop where
  ob : ∀ o x, f o = some x → ∃ b, φ o = some b ∧ RelOb φ A w b x ∧ (Owns b x → E.O0 b.blk ∨ E.w0.heap.size ≤ b.blk)
  inj : ∀ o o' x x' b b', f o = some x → f o' = some x' → φ o = some b → φ o' = some b' → Owns b x → Owns b' x' → b.blk = b'.blk → o = o'
  nx : ∀ o, nx ≤ o → φ o = none

/-- What a range over a function leaves among the deferred calls: marks, of which nothing comes. -/
def mark (D : Nat) : Deferred := { target := .collected D, args := #[] }
def Marks (E : Env) (A : Nat → Prop) (w : World) (ds : List Deferred) : Prop :=
  ∃ Ds : List Nat, Ds.Nodup ∧ ds = Ds.map mark ∧ ∀ D ∈ Ds, ¬ A D ∧ E.w0.heap.size ≤ D ∧ D < w.heap.size ∧ w.heap[D]? = some (.deferred (some []))
theorem Marks.nil (E : Env) (A : Nat → Prop) (w : World) : Marks E A w [] := ⟨[], List.nodup_nil, rfl, fun _ h => by cases h⟩
theorem Marks.keep {E : Env} {A A' : Nat → Prop} {w w' : World} {ds : List Deferred} (h : Marks E A w ds) (h1 : ∀ k, k < w.heap.size → ¬ A k → ¬ A' k) (h2 : w.heap.size ≤ w'.heap.size) (h3 : ∀ k, k < w.heap.size → ¬ A k → w'.heap[k]? = w.heap[k]?) : Marks E A' w' ds := by
  obtain ⟨Ds, a, b, c⟩ := h
  exact ⟨Ds, a, b, fun D hD => by
    obtain ⟨d1, d2, d3, d4⟩ := c D hD
    exact ⟨h1 D d3 d1, d2, Nat.lt_of_lt_of_le d3 h2, (h3 D d3 d1).trans d4⟩⟩
theorem Marks.ext {E : Env} {A A' : Nat → Prop} {w w' : World} {ds : List Deferred} (h : Marks E A w ds) {φ φ' : Phi} (x : Ext φ φ' A A' w w') : Marks E A' w' ds := h.keep x.out x.size x.mem

structure R (E : Env) (n : Nat) (φ : Phi) (A : Nat → Prop) (s : St) (a : Act) (w : World) : Prop where
  defers : Marks E A w a.defers
  size : a.tmps.size = n
  tm : ∀ t, RelV φ A w (s.tm t) (a.tmps.getD t undef)
  obs : ROb E φ A s.ob s.nx w
  frm : Frm E A w
  inc : E.inc φ

theorem RelV_any (φ : Phi) (A : Nat → Prop) (w : World) (v : Value) : RelV φ A w anyV v := by simp [anyV, RelV, RelL]
theorem RelV_sc (φ : Phi) (A : Nat → Prop) (w : World) (v : Value) : RelV φ A w (sc v) v := by simp [sc, RelV, RelL]

theorem RelG_sc (φ : Phi) (A : Nat → Prop) (w : World) : ∀ l : List Value, RelG φ A w (l.map fun v => Seg.lf (.sc v)) l
  | [] => rfl
  | v :: l => ⟨[v], l, rfl, ⟨v, rfl, by simp [RelL]⟩, RelG_sc φ A w l⟩

theorem RelV_const (φ : Phi) (A : Nat → Prop) (w : World) (v : Value) : RelV φ A w (constPV v) v := by
  cases v <;> simp only [constPV, RelV, RelL]
  case agg cs => exact ⟨cs.toList, rfl, RelG_sc φ A w _⟩

theorem R.val {E : Env} {n : Nat} {φ : Phi} {A : Nat → Prop} {s : St} {a : Act} {w : World} (h : R E n φ A s a w) (x : Operand) : RelV φ A w (s.val x) (a.eval x) := by
  cases x with
  | tmp t => exact h.tm t
  | const v => exact RelV_const φ A w v
  | global g => exact RelV_any φ A w _
  | func f => simp only [St.val, Act.eval, RelV, RelL]; exact ⟨[], rfl, by simp [RelLs]⟩

theorem getD_put (a : Array Value) (t i : Nat) (v : Value) (h : t < a.size) : (a.setIfInBounds t v).getD i undef = if i = t then v else a.getD i undef := by
  by_cases e : i = t
  · subst e; simp [h]
  · rw [if_neg e]; simp [Array.getD_eq_getD_getElem?, Array.getElem?_setIfInBounds_ne (Ne.symm e)]

theorem put_tm {φ : Phi} {A : Nat → Prop} {s : St} {a : Act} {w : World} {n : Nat} (hs : a.tmps.size = n) (h : ∀ t, RelV φ A w (s.tm t) (a.tmps.getD t undef)) {d : Option Tmp} (hd : ∀ t, d = some t → t < n)
    {v : PV} {mv : Value} (hv : RelV φ A w v mv) : ∀ t, RelV φ A w ((s.put d v).tm t) ((a.put d mv).tmps.getD t undef) := by
  cases d with
  | none => exact h
  | some t =>
    intro i
    simp only [St.put, Act.put]
    rw [getD_put _ _ _ _ (by rw [hs]; exact hd t rfl)]
    by_cases e : i = t
    · subst e; rw [show Nat.beq i i = true from Nat.beq_refl i, if_pos rfl]; exact hv
    · rw [show Nat.beq i t = false from by rw [Bool.eq_false_iff]; intro h; exact e (Nat.eq_of_beq_eq_true h), if_neg e]; exact h i

theorem put_size (a : Act) (d : Option Tmp) (v : Value) : (a.put d v).tmps.size = a.tmps.size := by cases d <;> simp [Act.put]
theorem put_defers (a : Act) (d : Option Tmp) (v : Value) : (a.put d v).defers = a.defers := by cases d <;> rfl

theorem R.put {E : Env} {n : Nat} {φ : Phi} {A : Nat → Prop} {s : St} {a : Act} {w : World} (h : R E n φ A s a w) {d : Option Tmp} (hd : ∀ t, d = some t → t < n)
    {v : PV} {mv : Value} (hv : RelV φ A w v mv) : R E n φ A (s.put d v) (a.put d mv) w := by
  refine ⟨by rw [put_defers]; exact h.defers, (put_size a d mv).trans h.size, put_tm h.size h.tm hd hv, ?_, h.frm, h.inc⟩
  cases d <;> exact h.obs

/-! ## Sems that look at no world -/
def pur (P : Program) {α : Type} : Sem α → Option α
  | .pure a => some a
  | .program k => pur P (k P)
  | _ => none

theorem pur_run {P : Program} {α : Type} : ∀ (m : Sem α) (a : α), pur P m = some a → ∀ w, m.run P w = .ok a w
  | .pure b, a, h, w => by simp only [pur, Option.some.injEq] at h; subst h; rfl
  | .program k, a, h, w => by simp only [pur] at h; exact pur_run (k P) a h w
  | .load .., _, h, _ => by simp [pur] at h
  | .store .., _, h, _ => by simp [pur] at h
  | .new .., _, h, _ => by simp [pur] at h
  | .shape .., _, h, _ => by simp [pur] at h
  | .freeze .., _, h, _ => by simp [pur] at h
  | .frozen .., _, h, _ => by simp [pur] at h
  | .getObj .., _, h, _ => by simp [pur] at h
  | .setObj .., _, h, _ => by simp [pur] at h
  | .choose .., _, h, _ => by simp [pur] at h
  | .sys .., _, h, _ => by simp [pur] at h
  | .mark .., _, h, _ => by simp [pur] at h
  | .halt .., _, h, _ => by simp [pur] at h

theorem run_bind {P : Program} {α β : Type} : ∀ (m : Sem α) (f : α → Sem β) (w : World), (m.bind f).run P w = match m.run P w with | .ok a w' => (f a).run P w' | .halt h w' => .halt h w' := by
  intro m f
  induction m with
  | pure a => intro w; rfl
  | load m a k ih =>
    intro w; simp only [Sem.bind, Sem.run]
    split
    · exact ih _ w
    · split
      · exact ih _ w
      · rfl
  | store m a v k ih =>
    intro w
    cases v <;> simp only [Sem.bind, Sem.run] <;> (try rfl) <;>
      (split
       · split
         · rfl
         · exact ih _
       · split
         · exact ih _
         · rfl)
  | new o k ih => intro w; simp only [Sem.bind, Sem.run]; exact ih _ _
  | shape r k ih => intro w; simp only [Sem.bind, Sem.run]; exact ih _ _
  | freeze a n k ih => intro w; simp only [Sem.bind, Sem.run]; exact ih _
  | frozen a k ih => intro w; simp only [Sem.bind, Sem.run]; exact ih _ _
  | getObj r k ih =>
    intro w; simp only [Sem.bind, Sem.run]
    split
    · rfl
    · exact ih _ w
    · rfl
  | setObj r o k ih =>
    intro w; simp only [Sem.bind, Sem.run]
    split
    · rfl
    · exact ih _
    · rfl
  | choose q k ih =>
    intro w; simp only [Sem.bind, Sem.run]
    split
    · exact ih _ _
    · exact ih _ _
  | sys c k ih => intro w; simp only [Sem.bind, Sem.run]; exact ih _ _
  | program k ih => intro w; simp only [Sem.bind, Sem.run]; exact ih _ _
  | mark m k ih => intro w; simp only [Sem.bind, Sem.run]; exact ih _
  | halt h => intro w; rfl

theorem run_bind' {P : Program} {α β : Type} (m : Sem α) (f : α → Sem β) (w : World) : (m >>= f).run P w = match m.run P w with | .ok a w' => (f a).run P w' | .halt h w' => .halt h w' := run_bind m f w
theorem run_pure {P : Program} {α : Type} (a : α) (w : World) : (pure a : Sem α).run P w = .ok a w := rfl
theorem run_pur0 {P : Program} {α : Type} (a : α) (w : World) : (Sem.pure a).run P w = .ok a w := rfl

theorem run_und {P : Program} {t : TypeId} {d : TypeDesc} (h : P.underlying t = some d) (w : World) : (underlying t).run P w = .ok d w := by
  simp [underlying, run_bind', program, Sem.run, h, run_pure]
theorem run_info {P : Program} {t : TypeId} {d : TypeInfo} (h : P.info? t = some d) (w : World) : (typeInfo t).run P w = .ok d w := by
  simp [typeInfo, run_bind', program, Sem.run, h, run_pure]
theorem run_size {P : Program} {t : TypeId} {d : TypeInfo} (h : P.info? t = some d) (w : World) : (sizeOf t).run P w = .ok d.size w := by
  simp [sizeOf, run_bind', run_info h, run_pure]

/-! ## What an operation that touches nothing comes to -/
def OpsRel (φ : Phi) (A : Nat → Prop) (w : World) (o : Oper) (ρ : Operand → PV) (ρm : Operand → Value) : Prop := ∀ x ∈ o.op.operands, RelV φ A w (ρ x) (ρm x)

def PureSem (P : Program) (o : Oper) (ρ : Operand → PV) (v : PV) : Prop :=
  ∀ (φ : Phi) (A : Nat → Prop) (w : World) (ρm : Operand → Value), OpsRel φ A w o ρ ρm → ∃ mv, (execOp ρm o).run P w = .ok (.value mv) w ∧ RelV φ A w v mv

def ofVal : Value → PV
  | .agg cs => .agg (cs.toList.map fun v => .lf (.sc v))
  | .tuple cs => .tup (cs.toList.map fun v => sc v)
  | v => .lf (.sc v)

theorem RelVs_sc (φ : Phi) (A : Nat → Prop) (w : World) : ∀ l : List Value, RelVs φ A w (l.map fun v => sc v) l
  | [] => by simp [RelVs]
  | v :: l => by simp only [List.map_cons, RelVs]; exact ⟨v, l, rfl, RelV_sc φ A w v, RelVs_sc φ A w l⟩

theorem RelV_ofVal (φ : Phi) (A : Nat → Prop) (w : World) (v : Value) : RelV φ A w (ofVal v) v := by
  cases v <;> simp only [ofVal, RelV, RelL]
  case agg cs => exact ⟨cs.toList, rfl, RelG_sc φ A w _⟩
  case tuple cs => exact ⟨cs.toList, rfl, RelVs_sc φ A w _⟩

/-- A value that leads nowhere, as the machine's. -/
def segScs : List Seg → Option (List Value)
  | [] => some []
  | .lf (.sc v) :: g => match segScs g with | some l => some (v :: l) | none => none
  | _ => none
def toVal : PV → Option Value
  | .lf (.sc v) => some v
  | .agg g => match segScs g with | some l => some (.agg ⟨l⟩) | none => none
  | _ => none

theorem segScs_rel {φ : Phi} {A : Nat → Prop} {w : World} : ∀ {g : List Seg} {l vs : List Value}, segScs g = some l → RelG φ A w g vs → vs = l
  | [], l, vs, h, hr => by simp only [segScs, Option.some.injEq] at h; subst h; exact hr
  | .lf (.sc v) :: g, l, vs, h, ⟨v1, v2, e, ⟨u, e1, hu⟩, h2⟩ => by
    simp only [segScs] at h
    cases hg : segScs g with
    | none => rw [hg] at h; cases h
    | some l' =>
      rw [hg] at h
      simp only [Option.some.injEq] at h
      simp only [RelL] at hu
      subst hu
      rw [e, e1, ← h, segScs_rel hg h2]; rfl
  | .lf .any :: _, _, _, h, _ => by simp [segScs] at h
  | .lf .anyb :: _, _, _, h, _ => by simp [segScs] at h
  | .lf (.ptr ..) :: _, _, _, h, _ => by simp [segScs] at h
  | .lf (.sl ..) :: _, _, _, h, _ => by simp [segScs] at h
  | .lf (.dp ..) :: _, _, _, h, _ => by simp [segScs] at h
  | .lf (.slr ..) :: _, _, _, h, _ => by simp [segScs] at h
  | .lf (.fnc ..) :: _, _, _, h, _ => by simp [segScs] at h
  | .lf (.ifc ..) :: _, _, _, h, _ => by simp [segScs] at h
  | .lf (.mp ..) :: _, _, _, h, _ => by simp [segScs] at h
  | .many .. :: _, _, _, h, _ => by simp [segScs] at h

theorem toVal_rel {φ : Phi} {A : Nat → Prop} {w : World} {p : PV} {v mv : Value} (h : toVal p = some v) (hr : RelV φ A w p mv) : mv = v := by
  unfold toVal at h
  split at h
  · simp only [Option.some.injEq] at h
    simp only [RelV, RelL] at hr
    rw [hr, h]
  · rename_i g
    split at h
    · rename_i l hl
      simp only [Option.some.injEq] at h
      simp only [RelV] at hr
      obtain ⟨vs, e, hg⟩ := hr
      rw [e, segScs_rel hl hg, h]
    · cases h
  · cases h

/-- All operands lead nowhere: the machine's own operation is asked. -/
def allVals (ρ : Operand → PV) : List Operand → Bool
  | [] => true
  | x :: l => (toVal (ρ x)).isSome && allVals ρ l
def valOf (ρ : Operand → PV) (x : Operand) : Value := (toVal (ρ x)).getD undef

theorem allVals_rel {φ : Phi} {A : Nat → Prop} {w : World} {ρ : Operand → PV} {ρm : Operand → Value} : ∀ {l : List Operand}, allVals ρ l = true → (∀ x ∈ l, RelV φ A w (ρ x) (ρm x)) → ∀ x ∈ l, ρm x = valOf ρ x
  | [], _, _, _, hx => by cases hx
  | y :: l, h, hr, x, hx => by
    simp only [allVals, Bool.and_eq_true] at h
    rcases List.mem_cons.1 hx with rfl | hx
    · unfold valOf
      cases ht : toVal (ρ x) with
      | none => rw [ht] at h; simp at h
      | some v => exact toVal_rel ht (hr x (List.mem_cons_self ..))
    · exact allVals_rel h.2 (fun z hz => hr z (List.mem_cons_of_mem _ hz)) x hx

def isSel : Op → Bool
  | .select .. => true
  | _ => false

def scalarOp (P : Program) (o : Oper) (ρ : Operand → PV) : Option PV :=
  cond (isSel o.op) none (cond (allVals ρ o.op.operands.toList)
    (match pur P (execOp (valOf ρ) o) with | some (.value v) => some (ofVal v) | _ => none) none)

theorem scalarOp_sound {P : Program} {o : Oper} {ρ : Operand → PV} {v : PV} (h : scalarOp P o ρ = some v) : PureSem P o ρ v := by
  intro φ A w ρm hr
  unfold scalarOp at h
  cases hs : isSel o.op with
  | true => rw [hs] at h; cases h
  | false =>
    rw [hs] at h
    cases ha : allVals ρ o.op.operands.toList with
    | false => rw [ha] at h; cases h
    | true =>
      rw [ha] at h
      simp only [cond] at h
      split at h
      · rename_i u hu
        simp only [Option.some.injEq] at h
        refine ⟨u, ?_, h ▸ RelV_ofVal φ A w u⟩
        have heq : execOp ρm o = execOp (valOf ρ) o := execOp_congr o (fun cs b e => by rw [e] at hs; simp [isSel] at hs)
          (fun x hx => allVals_rel ha (fun y hy => hr y (by simpa using hy)) x (by simpa using hx))
        rw [heq]
        exact pur_run _ _ hu w
      · cases h
end Go.Ev
