/- Part of a proof about the given program: EvS. -/
import Derived.Test.YtbgbplacpjcmfaaEvQ
namespace Go.Ev
variable {Rt : Type}

/-! ## What a reading operation looks at -/
def rdRefs (o : Oper) (ρ : Operand → PV) : List Nat :=
  match o.op with
  | .load _ x => refsV (ρ x)
  | .convert _ _ x => refsV (ρ x)
  | .lookup _ x _ _ => refsV (ρ x)
  | .call { callee := .builtin .len, args := ⟨[x]⟩, argTypes := _ } => refsV (ρ x)
  | _ => []

theorem mapAt_congr {f f' : Nat → Option Ob} {p : PV} (h : ∀ i ∈ refsV p, f' i = f i) : mapAt f' p = mapAt f p := by
  unfold mapAt
  split
  · rw [h _ (by simp [refsV, refsL])]
  · rfl

theorem readOp_congr {P : Program} {o : Oper} {ρ : Operand → PV} {f f' : Nat → Option Ob} (h : ∀ i ∈ rdRefs o ρ, f' i = f i) : readOp P o ρ f' = readOp P o ρ f := by
  unfold readOp
  unfold rdRefs at h
  split
  · rename_i t x ho
    simp only [ho] at h
    split
    · rename_i l hl
      rw [hl] at h
      unfold readAt
      split
      · rw [h _ (by simp [refsV, refsL])]
      · rfl
      · rfl
    · rfl
  · rename_i src dst x ho
    simp only [ho] at h
    cases hx : ρ x with
    | lf l =>
      rw [hx] at h
      have : viewL f' l = viewL f l := by
        unfold viewL
        split
        · rfl
        · rw [h _ (by simp [refsV, refsL])]
        · rfl
      show cvtRead P src dst (viewL f' l) = cvtRead P src dst (viewL f l)
      rw [this]
    | agg => rfl
    | tup => rfl
  · rename_i t x y co ho
    simp only [ho] at h
    have : mapAt f' (ρ x) = mapAt f (ρ x) := mapAt_congr h
    unfold evLookup
    rw [this]
  · rename_i x ats ho
    simp only [ho] at h
    have : mapAt f' (ρ x) = mapAt f (ρ x) := mapAt_congr h
    unfold evMapLen
    rw [this]
  · rfl

/-! ### values that are the same, if so much is so -/
def sameB (a b : Bool) : Bool := cond a b (!b)
theorem sameB_spec : ∀ {a b : Bool}, sameB a b = true → a = b
  | true, true, _ => rfl
  | false, false, _ => rfl
def eqL {α : Type} (f : α → α → Bool) : List α → List α → Bool
  | [], [] => true
  | x :: xs, y :: ys => f x y && eqL f xs ys
  | _, _ => false
def eqS : (s : Shape) → den s → den s → Bool
  | .int _, a, b => decide (a = b)
  | .bool, a, b => sameB a b
  | .str, a, b => decide (a.data = b.data)
  | .pair s t, x, y => eqS s x.1 y.1 && eqS t x.2 y.2
  | .slice s, xs, ys => eqL (eqS s) xs ys

def EqB {α : Type} (f : α → α → Bool) : Prop := ∀ a b, f a b = true ↔ a = b

theorem eqL_ok {α : Type} {f : α → α → Bool} (h : EqB f) : EqB (eqL f) := by
  intro a
  induction a with
  | nil => intro b; cases b <;> simp [eqL]
  | cons x xs ih => intro b; cases b with
    | nil => simp [eqL]
    | cons y ys => simp only [eqL, Bool.and_eq_true, List.cons.injEq]; rw [h x y, ih ys]

theorem eqS_ok : ∀ s : Shape, EqB (eqS s)
  | .int _ => fun a b => by simp only [eqS, decide_eq_true_eq]
  | .bool => fun a b => by cases a <;> cases b <;> simp [eqS, sameB]
  | .str => fun a b => by
    simp only [eqS, decide_eq_true_eq]
    cases a; cases b; simp
  | .pair s t => fun a b => by
    simp only [eqS, Bool.and_eq_true]
    rw [eqS_ok s, eqS_ok t]
    exact Prod.ext_iff.symm
  | .slice s => eqL_ok (eqS_ok s)


def shapeCast {s s' : Shape} (h : s'.beq s = true) (xs : List (den s')) : List (den s) := (Shape.eq_of_beq h) ▸ xs

def valEqs : Value → Value → Option (List Bool)
  | .int k a, .int k' b => cond (Nat.beq (kindNo k) (kindNo k')) (some [decide (a = b)]) none
  | .bool a, .bool b => some [sameB a b]
  | .string a, .string b => some [eqS .str a b]
  | .pointer none, .pointer none => some []
  | .slice none 0 0, .slice none 0 0 => some []
  | .nilFunc, .nilFunc => some []
  | .nilIface, .nilIface => some []
  | _, _ => none
def lfEqs : Lf → Lf → Option (List Bool)
  | .sc a, .sc b => valEqs a b
  | .sl s xs none, .sl s' ys none => if h : s'.beq s = true then some [eqS (.slice s) xs (shapeCast h ys)] else none
  | _, _ => none
def segEqs : List Seg → List Seg → Option (List Bool)
  | [], [] => some []
  | .lf a :: g, .lf b :: g' => match lfEqs a b, segEqs g g' with | some l, some r => some (l ++ r) | _, _ => none
  | _, _ => none
def pvEqs : Option PV → Option PV → Option (List Bool)
  | some (.lf a), some (.lf b) => lfEqs a b
  | some (.agg g), some (.agg g') => segEqs g g'
  | _, _ => none

def Alls (l : List Bool) : Prop := ∀ b ∈ l, b = true

theorem valEqs_spec {a b : Value} {l : List Bool} (h : valEqs a b = some l) (hl : Alls l) : a = b := by
  unfold valEqs at h
  split at h
  · rename_i k a k' b
    cases hk : Nat.beq (kindNo k) (kindNo k') with
    | false => rw [hk] at h; cases h
    | true =>
      rw [hk] at h; simp only [cond, Option.some.injEq] at h
      subst h
      have := hl (decide (a = b)) (by simp)
      rw [kindNo_inj (Nat.eq_of_beq_eq_true hk), of_decide_eq_true this]
  · rename_i a b
    simp only [Option.some.injEq] at h; subst h
    rw [sameB_spec (hl (sameB a b) (by simp))]
  · rename_i a b
    simp only [Option.some.injEq] at h; subst h
    rw [((eqS_ok .str) a b).1 (hl (eqS .str a b) (by simp))]
  · rfl
  · rfl
  · rfl
  · rfl
  · cases h
theorem lfEqs_spec {a b : Lf} {l : List Bool} (h : lfEqs a b = some l) (hl : Alls l) : a = b := by
  unfold lfEqs at h
  split at h
  · rw [valEqs_spec h hl]
  · rename_i s xs s' ys
    split at h
    · rename_i hb
      have e := Shape.eq_of_beq hb
      subst e
      simp only [Option.some.injEq] at h; subst h
      have := ((eqS_ok (.slice s')) xs (shapeCast hb ys)).1 (hl _ (by simp))
      rw [this]; rfl
    · cases h
  · cases h
theorem segEqs_spec : ∀ {a b : List Seg} {l : List Bool}, segEqs a b = some l → Alls l → a = b
  | [], [], _, _, _ => rfl
  | .lf a :: g, .lf b :: g', l, h, hl => by
    simp only [segEqs] at h
    split at h
    · rename_i l1 l2 h1 h2
      simp only [Option.some.injEq] at h; subst h
      rw [lfEqs_spec h1 (fun b hb => hl b (List.mem_append_left _ hb)), segEqs_spec h2 (fun b hb => hl b (List.mem_append_right _ hb))]
    · cases h
  | [], _ :: _, _, h, _ => by simp [segEqs] at h
  | .lf _ :: _, [], _, h, _ => by simp [segEqs] at h
  | .many .. :: _, [], _, h, _ => by simp [segEqs] at h
  | .lf _ :: _, .many .. :: _, _, h, _ => by simp [segEqs] at h
  | .many .. :: _, .lf _ :: _, _, h, _ => by simp [segEqs] at h
  | .many .. :: _, .many .. :: _, _, h, _ => by simp [segEqs] at h
theorem pvEqs_spec {a b : Option PV} {l : List Bool} (h : pvEqs a b = some l) (hl : Alls l) : a = b := by
  unfold pvEqs at h
  split at h
  · rw [lfEqs_spec h hl]
  · rw [segEqs_spec h hl]
  · cases h

def alls {α : Type} : List Bool → Option α → Option α
  | [], k => k
  | b :: l, k => if b = true then alls l k else none
theorem alls_spec {α : Type} : ∀ {l : List Bool} {k : Option α} {r : α}, alls l k = some r → Alls l ∧ k = some r
  | [], _, _, h => ⟨(fun _ hp => by cases hp), h⟩
  | b :: l, k, r, h => by
    unfold alls at h
    split at h
    · rename_i e
      obtain ⟨h1, h2⟩ := alls_spec h
      exact ⟨fun p hp => by
        rcases List.mem_cons.1 hp with h | h
        · rw [h]; exact e
        · exact h1 p h, h2⟩
    · cases h

def joinE {α : Type} (f : α → Option (List Bool)) : List α → Option (List Bool)
  | [] => some []
  | x :: l => match f x, joinE f l with | some a, some b => some (a ++ b) | _, _ => none
theorem joinE_spec {α : Type} {f : α → Option (List Bool)} : ∀ {l : List α} {r : List Bool}, joinE f l = some r → Alls r → ∀ x ∈ l, ∃ a, f x = some a ∧ Alls a
  | [], _, _, _, x, hx => by cases hx
  | y :: l, r, h, hr, x, hx => by
    unfold joinE at h
    split at h
    · rename_i a b h1 h2
      simp only [Option.some.injEq] at h; subst h
      rcases List.mem_cons.1 hx with e | e
      · rw [e]; exact ⟨a, h1, fun b hb => hr b (List.mem_append_left _ hb)⟩
      · exact joinE_spec h2 (fun b hb => hr b (List.mem_append_right _ hb)) x e
    · cases h

/-! ## A region that draws its order -/
def msk (acc : List Nat) : List Edge → Nat
  | [] => 0
  | e :: es => cond (Region.binds .any e) (msk acc es ||| (2 ^ e.on ||| acc.getD e.on 0)) (msk acc es)

def masks : List Oper → List Nat → List Nat
  | [], acc => acc
  | o :: r, acc => masks r (acc ++ [msk acc o.after.toList])

def isW (P : Program) (o : Oper) : Bool := match kdOf P o with | .write => true | _ => false
def isR (P : Program) (o : Oper) : Bool := match kdOf P o with | .read => true | _ => false

/-- Every pair that isn't ordered may be exchanged, as far as temporaries and writes go; number i0 is a variable that may be made earlier. -/
def pairsOk (P : Program) (ops : Array Oper) (ms : List Nat) (i0 : Nat) : Nat → Bool
  | 0 => true
  | i + 1 => pairsOk P ops ms i0 i && (match ops[i]? with
    | some oi => (List.range i).all fun j => match ops[j]? with
      | some oj => (ms.getD i 0).testBit j || (Oper.apart ops oj oi && (!(isW P oj && isW P oi) || Nat.beq i i0))
      | none => true
    | none => true)

def isAlloc (o : Oper) : Bool := match o.op with | .alloc _ => true | _ => false

def wrAt (ops : Array Oper) (P : Program) (i : Nat) : Bool := match ops[i]? with | some o => isW P o | none => false

/-- The first variable that need not wait for a write before it. -/
def floatAt (P : Program) (ops : Array Oper) (ms : List Nat) : Nat :=
  match (List.range ops.size).find? (fun i => match ops[i]? with
    | some o => isAlloc o && (List.range i).any (fun j => wrAt ops P j && !(ms.getD i 0).testBit j)
    | none => false) with
  | some i => i
  | none => ops.size

def noPred (o : Oper) : Bool := o.after.toList.all fun e => !Region.binds .any e

/-- Who waits for it waits for all writes before it. -/
def depsOk (P : Program) (ops : Array Oper) (ms : List Nat) (i0 : Nat) : Bool :=
  (List.range ops.size).all fun k => !(ms.getD k 0).testBit i0 || (List.range i0).all fun j => !wrAt ops P j || (ms.getD k 0).testBit j

def edgesOk (ops : Array Oper) : Nat → Bool
  | 0 => true
  | i + 1 => edgesOk ops i && (match ops[i]? with
    | some oi => oi.after.toList.all fun e => !Region.binds .any e || Nat.blt e.on i
    | none => true)

def noSel (ops : Array Oper) : Bool := ops.toList.all fun o => !isSel o.op

/-- A read and a write that aren't ordered: the read sees the same on both sides of it. -/
def rwFar (P : Program) (O : Orc Rt) (oi oj : Oper) (si : St) (sj : St) : Bool :=
  (rdRefs oi si.val).all (fun x => Nat.blt x sj.nx && !elemB x (touchOf P O oj sj.val sj.ob))
def RwOk (P : Program) (O : Orc Rt) (oi oj : Oper) (si : St) (sj sj' : St) : Prop :=
  rwFar P O oi oj si sj = true ∨ readOp P oi si.val sj.ob = readOp P oi si.val sj'.ob

def rwAll (P : Program) (O : Orc Rt) (ops : Array Oper) (ms : List Nat) (S : List St) (d : St) : Option (List Bool) :=
  joinE (fun i => match ops[i]? with
    | some oi => cond (isR P oi) (joinE (fun j => match ops[j]? with
        | some oj => cond (isW P oj) (cond ((ms.getD i 0).testBit j || (ms.getD j 0).testBit i || rwFar P O oi oj (S.getD i d) (S.getD j d)) (some [])
            (pvEqs (readOp P oi (S.getD i d).val (S.getD j d).ob) (readOp P oi (S.getD i d).val (S.getD (j + 1) d).ob))) (some [])
        | none => some []) (List.range ops.size)) (some [])
    | none => some []) (List.range ops.size)

theorem rwAll_spec {P : Program} {O : Orc Rt} {ops : Array Oper} {ms : List Nat} {S : List St} {d : St} {l : List Bool} (h : rwAll P O ops ms S d = some l) (hl : Alls l) {i j : Nat} {oi oj : Oper} (hi : ops[i]? = some oi) (hj : ops[j]? = some oj)
    (hri : isR P oi = true) (hwj : isW P oj = true) (h5 : (ms.getD i 0).testBit j = false) (h6 : (ms.getD j 0).testBit i = false) : RwOk P O oi oj (S.getD i d) (S.getD j d) (S.getD (j + 1) d) := by
  obtain ⟨a, ha, hla⟩ := joinE_spec h hl i (List.mem_range.2 (Array.getElem?_eq_some_iff.1 hi).1)
  rw [hi] at ha
  simp only [hri, cond] at ha
  obtain ⟨b, hb, hlb⟩ := joinE_spec ha hla j (List.mem_range.2 (Array.getElem?_eq_some_iff.1 hj).1)
  rw [hj] at hb
  simp only [hwj, h5, h6, Bool.false_or] at hb
  cases hf : rwFar P O oi oj (S.getD i d) (S.getD j d) with
  | true => exact .inl hf
  | false =>
    rw [hf] at hb
    exact .inr (pvEqs_spec hb hlb)

def evLog (P : Program) (O : Orc Rt) (n : Nat) (ops : Array Oper) : List Oper → St → (List St → St → Option Rt) → Option Rt
  | [], s, K => K [s] s
  | o :: l, s, K => evG P O n ops o s fun s' => evLog P O n ops l s' fun S e => K (s :: S) e

def evDrawA (P : Program) (O : Orc Rt) (n : Nat) (ops : Array Oper) (ms : List Nat) (i0 : Nat) (s : St) (K : St → Option Rt) : Option Rt :=
  match ops[i0]? with
  | some o => match o.op with
    | .alloc t => match o.dst with
      | some d => match o.guard with
        | none => cond (Nat.blt d n && pairsOk P ops ms i0 ops.size && noPred o && depsOk P ops ms i0)
          (match zeroPV P t with
            | some p => match segsOf p with
              | some g => evLog P O n ops (ops.toList.take i0) (s.put (some d) anyV) fun S1 s1 =>
                fPV (.lf (.ptr s1.nx 0 0 0 0 none)) fun v => fNat (s1.nx + 1) fun nx => fF (updO s1.ob s1.nx (some (.box true g))) nx fun f =>
                  evLog P O n ops (ops.toList.drop (i0 + 1)) (s1.after o v f nx) fun S2 e =>
                    match rwAll P O ops ms (S1 ++ S2) s with | some l => alls l (K e) | none => none
              | none => none
            | none => none) none
        | some _ => none
      | none => none
    | _ => none
  | none => none

def evDraw (P : Program) (O : Orc Rt) (n : Nat) (ops : Array Oper) (s : St) (K : St → Option Rt) : Option Rt :=
  cond (edgesOk ops ops.size && noSel ops)
    (cond (pairsOk P ops (masks ops.toList []) ops.size ops.size)
      (evLog P O n ops ops.toList s fun S e => match rwAll P O ops (masks ops.toList []) S s with | some l => alls l (K e) | none => none)
      (evDrawA P O n ops (masks ops.toList []) (floatAt P ops (masks ops.toList [])) s K)) none
end Go.Ev
