/- Part of a proof about the given program: EvC. -/
import Derived.Test.YtbgbplacpjcmfaaEvB1
namespace Go.Ev
variable {Rt : Type}

theorem addr_add (b o n : Nat) : Addr.add ⟨b, o, none⟩ n = ⟨b, o + n, none⟩ := by
  unfold Addr.add; split <;> simp_all

/-- What each operation that touches nothing owes. -/
def Pured (P : Program) (o : Oper) (ρ : Operand → PV) (K : PV → Option Rt) (r : Rt) : Prop := ∃ v, K v = some r ∧ PureSem P o ρ v

/-! ### binary operations -/
def intBin (op : BinOp) (k : IntKind) (a b : Int) : Option Value :=
  match op with
  | .add => some (.int k (k.wrap (a + b)))
  | .sub => some (.int k (k.wrap (a - b)))
  | .mul => some (.int k (k.wrap (a * b)))
  | .eql => some (.bool (a == b))
  | .neq => some (.bool (a != b))
  | .lss => some (.bool (decide (a < b)))
  | .leq => some (.bool (decide (a ≤ b)))
  | .gtr => some (.bool (decide (a > b)))
  | .geq => some (.bool (decide (a ≥ b)))
  | _ => none

def isPtrT (P : Program) (t : TypeId) : Bool := match P.underlying t with | some (.pointer _) => true | _ => false
def isFuncT (P : Program) (t : TypeId) : Bool := match P.underlying t with | some (.func ..) => true | _ => false
def isIfaceT (P : Program) (t : TypeId) : Bool := match P.underlying t with | some (.interface _) => true | _ => false

def isSliceT (P : Program) (t : TypeId) : Bool := match P.underlying t with | some (.slice _) => true | _ => false

def nilSide (P : Program) (t : TypeId) (l : Lf) (v : Value) : Bool :=
  match l, v with
  | .ptr .., .pointer none => isPtrT P t
  | .dp .., .pointer none => isPtrT P t
  | .fnc .., .nilFunc => isFuncT P t
  | .ifc .., .nilIface => isIfaceT P t
  | _, _ => false

def evBin (P : Program) (o : Oper) (op : BinOp) (t : TypeId) (p q : PV) (ρ : Operand → PV) (K : PV → Option Rt) : Option Rt :=
  match p, q with
  | .lf (.sc (.int k a)), .lf (.sc (.int k' b)) =>
    match op with
    | .quo => cond (Nat.beq (kindNo k) (kindNo k')) (if b = 0 then none else K (sc (.int k (k.wrap (a.tdiv b))))) none
    | .rem => cond (Nat.beq (kindNo k) (kindNo k')) (if b = 0 then none else K (sc (.int k (a.tmod b)))) none
    | .shl => if b < 0 then none else K (sc (.int k (k.wrap (a * 2 ^ (min b.toNat k.bits)))))
    | .shr => if b < 0 then none else K (sc (.int k (a.fdiv (2 ^ (min b.toNat k.bits)))))
    | _ => cond (Nat.beq (kindNo k) (kindNo k')) (match intBin op k a b with | some v => K (sc v) | none => match scalarOp P o ρ with | some v => K v | none => none) none
  | .lf (.sc (.string a)), .lf (.sc (.string b)) =>
    match op with
    | .add => if a.size + b.size ≤ 9223372036854775807 then K (sc (.string (a ++ b))) else none
    | _ => match scalarOp P o ρ with | some v => K v | none => none
  | .lf (.sl _ xs _), .lf (.sc (.slice none _ _)) =>
    cond (isSliceT P t) (match op with
      | .eql => if xs.length = 0 then K (.lf .anyb) else K (sc (.bool false))
      | .neq => if xs.length = 0 then K (.lf .anyb) else K (sc (.bool true))
      | _ => none) none
  | .lf (.slr _ _ _ _ len _ _), .lf (.sc (.slice none _ _)) =>
    cond (isSliceT P t) (match op with
      | .eql => if len = 0 then K (.lf .anyb) else K (sc (.bool false))
      | .neq => if len = 0 then K (.lf .anyb) else K (sc (.bool true))
      | _ => none) none
  | .lf (.sc v), .lf l =>
    cond (nilSide P t l v) (match op with | .eql => K (sc (.bool false)) | .neq => K (sc (.bool true)) | _ => none)
      (match scalarOp P o ρ with | some v => K v | none => none)
  | .lf l, .lf (.sc v) =>
    cond (nilSide P t l v) (match op with | .eql => K (sc (.bool false)) | .neq => K (sc (.bool true)) | _ => none)
      (match scalarOp P o ρ with | some v => K v | none => none)
  | _, _ => match scalarOp P o ρ with | some v => K v | none => none

theorem scal {P : Program} {o : Oper} {ρ : Operand → PV} {K : PV → Option Rt} {r : Rt} (h : (match scalarOp P o ρ with | some v => K v | none => none) = some r) : Pured P o ρ K r := by
  split at h
  · rename_i v hv; exact ⟨v, h, scalarOp_sound hv⟩
  · cases h

theorem eqGuard_int (op : BinOp) (t : TypeId) (x y : Operand) (k k' : IntKind) (a b : Int) (P : Program) (w : World) : (eqGuard op t x y (.int k a) (.int k' b)).run P w = .ok () w := by
  unfold eqGuard; split <;> rfl
theorem eqGuard_str (op : BinOp) (t : TypeId) (x y : Operand) (a b : ByteArray) (P : Program) (w : World) : (eqGuard op t x y (.string a) (.string b)).run P w = .ok () w := by
  unfold eqGuard; split <;> rfl

theorem run_binInt {P : Program} {o : Oper} {op : BinOp} {t yt : TypeId} {x y : Operand} (ho : o.op = .binOp op t x y yt) {ρm : Operand → Value} {k k' : IntKind} {a b : Int}
    (hx : ρm x = .int k a) (hy : ρm y = .int k' b) {v : Value} {w : World} (h : (binOp op t (.int k a) (.int k' b)).run P w = .ok v w) : (execOp ρm o).run P w = .ok (.value v) w := by
  unfold execOp
  rw [ho]
  simp only [hx, hy]
  simp only [run_bind', eqGuard_int, h, run_pure]

theorem intBin_run {P : Program} {op : BinOp} {k : IntKind} {a b : Int} {v : Value} (t : TypeId) (h : intBin op k a b = some v) (w : World) : (binOp op t (.int k a) (.int k b)).run P w = .ok v w := by
  cases op <;> simp only [intBin, Option.some.injEq, reduceCtorEq] at h <;> subst h <;> simp [binOp, Op.intArith, Op.intCmp, run_pure]

theorem eqd {P : Program} {t : TypeId} {x y : Value} {w : World} {b : Bool} (h : ∀ d, (Op.equalIn (d + 1) t x y).run P w = .ok b w) : (Op.equal t x y).run P w = .ok b w := h 9999
theorem eq_ptr_nil {P : Program} {t e : TypeId} (h : P.underlying t = some (.pointer e)) (a : Addr) (w : World) : (Op.equal t (.pointer (some a)) (.pointer none)).run P w = .ok false w :=
  eqd fun d => by simp only [Op.equalIn]; rw [run_bind', run_und h]; rfl
theorem eq_nil_ptr {P : Program} {t e : TypeId} (h : P.underlying t = some (.pointer e)) (a : Addr) (w : World) : (Op.equal t (.pointer none) (.pointer (some a))).run P w = .ok false w :=
  eqd fun d => by simp only [Op.equalIn]; rw [run_bind', run_und h]; rfl
theorem eq_fn_nil {P : Program} {t : TypeId} {a b : Array TypeId} {c : Bool} (h : P.underlying t = some (.func a b c)) (f : Fn) (x y : Array Value) (w : World) : (Op.equal t (.func f x y) .nilFunc).run P w = .ok false w :=
  eqd fun d => by simp only [Op.equalIn]; rw [run_bind', run_und h]; rfl
theorem eq_nil_fn {P : Program} {t : TypeId} {a b : Array TypeId} {c : Bool} (h : P.underlying t = some (.func a b c)) (f : Fn) (x y : Array Value) (w : World) : (Op.equal t .nilFunc (.func f x y)).run P w = .ok false w :=
  eqd fun d => by simp only [Op.equalIn]; rw [run_bind', run_und h]; rfl
theorem eq_ifc_nil {P : Program} {t : TypeId} {a : Array (String × TypeId)} (h : P.underlying t = some (.interface a)) (u : TypeId) (x : Value) (w : World) : (Op.equal t (.iface u x) .nilIface).run P w = .ok false w :=
  eqd fun d => by simp only [Op.equalIn]; rw [run_bind', run_und h]; rfl
theorem eq_nil_ifc {P : Program} {t : TypeId} {a : Array (String × TypeId)} (h : P.underlying t = some (.interface a)) (u : TypeId) (x : Value) (w : World) : (Op.equal t .nilIface (.iface u x)).run P w = .ok false w :=
  eqd fun d => by simp only [Op.equalIn]; rw [run_bind', run_und h]; rfl

theorem slice_nil {P : Program} {o : Oper} {op : BinOp} {t yt : TypeId} {x y : Operand} (ho : o.op = .binOp op t x y yt) (ht : isSliceT P t = true) {ρm : Operand → Value} {ad : Option Addr} {n c n' c' : Nat} (hx : ρm x = .slice ad n c) (hy : ρm y = .slice none n' c') (w : World) :
    (op = .eql → (execOp ρm o).run P w = .ok (.value (.bool ad.isNone)) w) ∧ (op = .neq → (execOp ρm o).run P w = .ok (.value (.bool !ad.isNone)) w) := by
  unfold isSliceT at ht
  split at ht
  · rename_i e he
    have hg : ∀ op, (eqGuard op t x y (.slice ad n c) (.slice none n' c')).run P w = .ok () w := fun op => by unfold eqGuard; split <;> rfl
    have heq : (Op.equal t (.slice ad n c) (.slice none n' c')).run P w = .ok ad.isNone w := eqd fun d => by
      simp only [Op.equalIn]; rw [run_bind', run_und he]
      cases ad <;> rfl
    refine ⟨fun h => ?_, fun h => ?_⟩ <;> subst h <;> unfold execOp <;> rw [ho] <;> simp only [hx, hy] <;> simp only [run_bind', hg, binOp, heq, run_pure]
  · cases ht

set_option maxHeartbeats 1000000 in
theorem evBin_sound {P : Program} {o : Oper} {op : BinOp} {t yt : TypeId} {x y : Operand} (ho : o.op = .binOp op t x y yt) {ρ : Operand → PV} {K : PV → Option Rt} {r : Rt}
    (h : evBin P o op t (ρ x) (ρ y) ρ K = some r) : Pured P o ρ K r := by
  have hxm : x ∈ o.op.operands := by rw [ho]; simp [Op.operands]
  have hym : y ∈ o.op.operands := by rw [ho]; simp [Op.operands]
  generalize hp : ρ x = p at h
  generalize hq : ρ y = q at h
  unfold evBin at h
  split at h
  · rename_i k a k' b
    have hv : ∀ {φ A w ρm}, OpsRel φ A w o ρ ρm → ρm x = .int k a ∧ ρm y = .int k' b := fun hr => by
      have h1 := hr x hxm; have h2 := hr y hym
      rw [hp] at h1; rw [hq] at h2
      simp only [RelV, RelL] at h1 h2
      exact ⟨h1, h2⟩
    split at h
    · cases hk : Nat.beq (kindNo k) (kindNo k') with
      | false => rw [hk] at h; cases h
      | true =>
        rw [hk] at h
        have hkk := kindNo_inj (Nat.eq_of_beq_eq_true hk)
        simp only [cond] at h
        split at h
        · cases h
        · rename_i hb
          refine ⟨_, h, fun φ A w ρm hr => ⟨_, run_binInt ho (hv hr).1 (hv hr).2 (v := .int k (k.wrap (a.tdiv b))) ?_, RelV_sc ..⟩⟩
          simp [binOp, hkk, Op.intDiv, hb, run_pure]
    · cases hk : Nat.beq (kindNo k) (kindNo k') with
      | false => rw [hk] at h; cases h
      | true =>
        rw [hk] at h
        have hkk := kindNo_inj (Nat.eq_of_beq_eq_true hk)
        simp only [cond] at h
        split at h
        · cases h
        · rename_i hb
          refine ⟨_, h, fun φ A w ρm hr => ⟨_, run_binInt ho (hv hr).1 (hv hr).2 (v := .int k (a.tmod b)) ?_, RelV_sc ..⟩⟩
          simp [binOp, hkk, Op.intDiv, hb, run_pure]
    · split at h
      · cases h
      · rename_i hb
        refine ⟨_, h, fun φ A w ρm hr => ⟨_, run_binInt ho (hv hr).1 (hv hr).2 (v := .int k (k.wrap (a * 2 ^ (min b.toNat k.bits)))) ?_, RelV_sc ..⟩⟩
        simp [binOp, Op.shift, hb, run_pure]
    · split at h
      · cases h
      · rename_i hb
        refine ⟨_, h, fun φ A w ρm hr => ⟨_, run_binInt ho (hv hr).1 (hv hr).2 (v := .int k (a.fdiv (2 ^ (min b.toNat k.bits)))) ?_, RelV_sc ..⟩⟩
        simp [binOp, Op.shift, hb, run_pure]
    · cases hk : Nat.beq (kindNo k) (kindNo k') with
      | false => rw [hk] at h; cases h
      | true =>
        rw [hk] at h
        have hkk := kindNo_inj (Nat.eq_of_beq_eq_true hk)
        simp only [cond] at h
        split at h
        · rename_i v hb
          refine ⟨_, h, fun φ A w ρm hr => ⟨_, run_binInt ho (hv hr).1 (hv hr).2 (v := v) ?_, RelV_sc ..⟩⟩
          subst hkk
          exact intBin_run t hb w
        · exact scal h
  · rename_i a b
    split at h
    · split at h
      · rename_i hs
        refine ⟨_, h, fun φ A w ρm hr => ⟨.string (a ++ b), ?_, RelV_sc ..⟩⟩
        have h1 := hr x hxm; have h2 := hr y hym
        rw [hp] at h1; rw [hq] at h2
        simp only [RelV, RelL] at h1 h2
        unfold execOp
        rw [ho]
        simp only [h1, h2]
        simp only [run_bind', eqGuard_str]
        have : ¬ (((a.size + b.size : Nat) : Int) > IntKind.i64.max) := by
          simp only [show IntKind.i64.max = 9223372036854775807 from by decide]; omega
        simp only [binOp, Op.stringOp, if_neg this, run_pure]
      · cases h
    · exact scal h
  · rename_i s xs cap na nb
    cases hn : isSliceT P t with
    | false => rw [hn] at h; cases h
    | true =>
      rw [hn] at h; simp only [cond] at h
      have hv : ∀ {φ A w ρm}, OpsRel φ A w o ρ ρm → ∃ ad c, ρm x = .slice ad xs.length c ∧ ρm y = .slice none na nb ∧ (xs.length ≠ 0 → ad.isNone = false) := fun hr => by
        have h1 := hr x hxm; have h2 := hr y hym
        rw [hp] at h1; rw [hq] at h2
        simp only [RelV, RelL] at h1 h2
        obtain ⟨ad, c, e, _, _, hrow⟩ := h1
        refine ⟨ad, c, e, h2, fun hne => ?_⟩
        rcases hrow with h0 | ⟨b, off, vs, e, _⟩
        · rw [h0] at hne; exact absurd rfl hne
        · rw [e]; rfl
      split at h
      · split at h
        · refine ⟨_, h, fun φ A w ρm hr => ?_⟩
          obtain ⟨ad, c, e1, e2, _⟩ := hv hr
          exact ⟨_, (slice_nil ho hn e1 e2 w).1 rfl, by simp only [RelV, RelL]; exact ⟨_, rfl⟩⟩
        · rename_i hne
          refine ⟨_, h, fun φ A w ρm hr => ?_⟩
          obtain ⟨ad, c, e1, e2, e3⟩ := hv hr
          exact ⟨_, (slice_nil ho hn e1 e2 w).1 rfl, by rw [e3 hne]; exact RelV_sc ..⟩
      · split at h
        · refine ⟨_, h, fun φ A w ρm hr => ?_⟩
          obtain ⟨ad, c, e1, e2, _⟩ := hv hr
          exact ⟨_, (slice_nil ho hn e1 e2 w).2 rfl, by simp only [RelV, RelL]; exact ⟨_, rfl⟩⟩
        · rename_i hne
          refine ⟨_, h, fun φ A w ρm hr => ?_⟩
          obtain ⟨ad, c, e1, e2, e3⟩ := hv hr
          exact ⟨_, (slice_nil ho hn e1 e2 w).2 rfl, by rw [e3 hne]; exact RelV_sc ..⟩
      · cases h
  · rename_i s o' off st len cap lim na nb
    cases hn : isSliceT P t with
    | false => rw [hn] at h; cases h
    | true =>
      rw [hn] at h; simp only [cond] at h
      have hv : ∀ {φ A w ρm}, OpsRel φ A w o ρ ρm → ∃ ad c, ρm x = .slice ad len c ∧ ρm y = .slice none na nb ∧ (len ≠ 0 → ad.isNone = false) := fun hr => by
        have h1 := hr x hxm; have h2 := hr y hym
        rw [hp] at h1; rw [hq] at h2
        simp only [RelV, RelL] at h1 h2
        obtain ⟨b, _, ad, c, e, _, _, _, had⟩ := h1
        refine ⟨ad, c, e, h2, fun hne => ?_⟩
        rcases had with ⟨_, h0⟩ | had
        · exact absurd h0 hne
        · rw [had]; rfl
      split at h
      · split at h
        · refine ⟨_, h, fun φ A w ρm hr => ?_⟩
          obtain ⟨ad, c, e1, e2, _⟩ := hv hr
          exact ⟨_, (slice_nil ho hn e1 e2 w).1 rfl, by simp only [RelV, RelL]; exact ⟨_, rfl⟩⟩
        · rename_i hne
          refine ⟨_, h, fun φ A w ρm hr => ?_⟩
          obtain ⟨ad, c, e1, e2, e3⟩ := hv hr
          exact ⟨_, (slice_nil ho hn e1 e2 w).1 rfl, by rw [e3 hne]; exact RelV_sc ..⟩
      · split at h
        · refine ⟨_, h, fun φ A w ρm hr => ?_⟩
          obtain ⟨ad, c, e1, e2, _⟩ := hv hr
          exact ⟨_, (slice_nil ho hn e1 e2 w).2 rfl, by simp only [RelV, RelL]; exact ⟨_, rfl⟩⟩
        · rename_i hne
          refine ⟨_, h, fun φ A w ρm hr => ?_⟩
          obtain ⟨ad, c, e1, e2, e3⟩ := hv hr
          exact ⟨_, (slice_nil ho hn e1 e2 w).2 rfl, by rw [e3 hne]; exact RelV_sc ..⟩
      · cases h
  · rename_i v l _ _
    cases hn : nilSide P t l v with
    | false => rw [hn] at h; exact scal h
    | true =>
      rw [hn] at h
      simp only [cond] at h
      have key : ∀ {φ A w ρm}, OpsRel φ A w o ρ ρm → (eqGuard op t x y (ρm x) (ρm y)).run P w = .ok () w ∧ (Op.equal t (ρm x) (ρm y)).run P w = .ok false w ∧
          ((∃ a, ρm y = .pointer a) ∨ (∃ f a b, ρm y = .func f a b) ∨ (∃ t u, ρm y = .iface t u)) ∧ ρm x = v := fun {φ A w ρm} hr => by
        have h1 := hr x hxm; have h2 := hr y hym
        rw [hp] at h1; rw [hq] at h2
        simp only [RelV] at h1 h2
        simp only [RelL] at h1
        unfold nilSide at hn
        split at hn
        · simp only [RelL] at h2
          obtain ⟨b, _, h2, _⟩ := h2
          unfold isPtrT at hn
          split at hn
          · rename_i e he
            rw [h1, h2]
            refine ⟨?_, ?_, .inl ⟨_, rfl⟩, rfl⟩
            · unfold eqGuard; split <;> rfl
            · first | exact eq_ptr_nil he _ _ | exact eq_nil_ptr he _ _ | exact eq_fn_nil he _ _ _ _ | exact eq_nil_fn he _ _ _ _ | exact eq_ifc_nil he _ _ _ | exact eq_nil_ifc he _ _ _
          · cases hn
        · simp only [RelL] at h2
          obtain ⟨b, off, vs, h2, _⟩ := h2
          unfold isPtrT at hn
          split at hn
          · rename_i e he
            rw [h1, h2]
            refine ⟨?_, ?_, .inl ⟨_, rfl⟩, rfl⟩
            · unfold eqGuard; split <;> rfl
            · first | exact eq_ptr_nil he _ _ | exact eq_nil_ptr he _ _ | exact eq_fn_nil he _ _ _ _ | exact eq_nil_fn he _ _ _ _ | exact eq_ifc_nil he _ _ _ | exact eq_nil_ifc he _ _ _
          · cases hn
        · simp only [RelL] at h2
          obtain ⟨vs, h2, _⟩ := h2
          unfold isFuncT at hn
          split at hn
          · rename_i a b c he
            rw [h1, h2]
            refine ⟨?_, ?_, .inr (.inl ⟨_, _, _, rfl⟩), rfl⟩
            · unfold eqGuard; split <;> rfl
            · first | exact eq_ptr_nil he _ _ | exact eq_nil_ptr he _ _ | exact eq_fn_nil he _ _ _ _ | exact eq_nil_fn he _ _ _ _ | exact eq_ifc_nil he _ _ _ | exact eq_nil_ifc he _ _ _
          · cases hn
        · simp only [RelL] at h2
          obtain ⟨u, h2, _⟩ := h2
          unfold isIfaceT at hn
          split at hn
          · rename_i a he
            rw [h1, h2]
            refine ⟨?_, ?_, .inr (.inr ⟨_, _, rfl⟩), rfl⟩
            · unfold eqGuard; split <;> rfl
            · first | exact eq_ptr_nil he _ _ | exact eq_nil_ptr he _ _ | exact eq_fn_nil he _ _ _ _ | exact eq_nil_fn he _ _ _ _ | exact eq_ifc_nil he _ _ _ | exact eq_nil_ifc he _ _ _
          · cases hn
        · cases hn
      have hvv : v = .pointer none ∨ v = .nilFunc ∨ v = .nilIface := by
        unfold nilSide at hn
        split at hn <;> first | exact .inl rfl | exact .inr (.inl rfl) | exact .inr (.inr rfl) | cases hn
      split at h
      · refine ⟨_, h, fun φ A w ρm hr => ⟨.bool false, ?_, RelV_sc ..⟩⟩
        obtain ⟨g, e, hy, hx⟩ := key hr
        unfold execOp
        rw [ho]
        simp only [run_bind', g]
        rw [hx] at e ⊢
        rcases hvv with rfl | rfl | rfl <;> rcases hy with ⟨a, hy⟩ | ⟨f, a, b, hy⟩ | ⟨t, u, hy⟩ <;> rw [hy] at e ⊢ <;> simp [binOp, run_bind', e, run_pure]
      · refine ⟨_, h, fun φ A w ρm hr => ⟨.bool true, ?_, RelV_sc ..⟩⟩
        obtain ⟨g, e, hy, hx⟩ := key hr
        unfold execOp
        rw [ho]
        simp only [run_bind', g]
        rw [hx] at e ⊢
        rcases hvv with rfl | rfl | rfl <;> rcases hy with ⟨a, hy⟩ | ⟨f, a, b, hy⟩ | ⟨t, u, hy⟩ <;> rw [hy] at e ⊢ <;> simp [binOp, run_bind', e, run_pure]
      · cases h
  · rename_i l v _ _ _ _ _
    cases hn : nilSide P t l v with
    | false => rw [hn] at h; exact scal h
    | true =>
      rw [hn] at h
      simp only [cond] at h
      have key : ∀ {φ A w ρm}, OpsRel φ A w o ρ ρm → (eqGuard op t x y (ρm x) (ρm y)).run P w = .ok () w ∧ (Op.equal t (ρm x) (ρm y)).run P w = .ok false w ∧
          ((∃ a, ρm x = .pointer a) ∨ (∃ f a b, ρm x = .func f a b) ∨ (∃ t u, ρm x = .iface t u)) ∧ ρm y = v := fun {φ A w ρm} hr => by
        have h1 := hr x hxm; have h2 := hr y hym
        rw [hp] at h1; rw [hq] at h2
        simp only [RelV] at h1 h2
        simp only [RelL] at h2
        unfold nilSide at hn
        split at hn
        · simp only [RelL] at h1
          obtain ⟨b, _, h1, _⟩ := h1
          unfold isPtrT at hn
          split at hn
          · rename_i e he
            rw [h1, h2]
            refine ⟨?_, ?_, .inl ⟨_, rfl⟩, rfl⟩
            · unfold eqGuard; split <;> rfl
            · first | exact eq_ptr_nil he _ _ | exact eq_nil_ptr he _ _ | exact eq_fn_nil he _ _ _ _ | exact eq_nil_fn he _ _ _ _ | exact eq_ifc_nil he _ _ _ | exact eq_nil_ifc he _ _ _
          · cases hn
        · simp only [RelL] at h1
          obtain ⟨b, off, vs, h1, _⟩ := h1
          unfold isPtrT at hn
          split at hn
          · rename_i e he
            rw [h1, h2]
            refine ⟨?_, ?_, .inl ⟨_, rfl⟩, rfl⟩
            · unfold eqGuard; split <;> rfl
            · first | exact eq_ptr_nil he _ _ | exact eq_nil_ptr he _ _ | exact eq_fn_nil he _ _ _ _ | exact eq_nil_fn he _ _ _ _ | exact eq_ifc_nil he _ _ _ | exact eq_nil_ifc he _ _ _
          · cases hn
        · simp only [RelL] at h1
          obtain ⟨vs, h1, _⟩ := h1
          unfold isFuncT at hn
          split at hn
          · rename_i a b c he
            rw [h1, h2]
            refine ⟨?_, ?_, .inr (.inl ⟨_, _, _, rfl⟩), rfl⟩
            · unfold eqGuard; split <;> rfl
            · first | exact eq_ptr_nil he _ _ | exact eq_nil_ptr he _ _ | exact eq_fn_nil he _ _ _ _ | exact eq_nil_fn he _ _ _ _ | exact eq_ifc_nil he _ _ _ | exact eq_nil_ifc he _ _ _
          · cases hn
        · simp only [RelL] at h1
          obtain ⟨u, h1, _⟩ := h1
          unfold isIfaceT at hn
          split at hn
          · rename_i a he
            rw [h1, h2]
            refine ⟨?_, ?_, .inr (.inr ⟨_, _, rfl⟩), rfl⟩
            · unfold eqGuard; split <;> rfl
            · first | exact eq_ptr_nil he _ _ | exact eq_nil_ptr he _ _ | exact eq_fn_nil he _ _ _ _ | exact eq_nil_fn he _ _ _ _ | exact eq_ifc_nil he _ _ _ | exact eq_nil_ifc he _ _ _
          · cases hn
        · cases hn
      have hvv : v = .pointer none ∨ v = .nilFunc ∨ v = .nilIface := by
        unfold nilSide at hn
        split at hn <;> first | exact .inl rfl | exact .inr (.inl rfl) | exact .inr (.inr rfl) | cases hn
      split at h
      · refine ⟨_, h, fun φ A w ρm hr => ⟨.bool false, ?_, RelV_sc ..⟩⟩
        obtain ⟨g, e, hy, hx⟩ := key hr
        unfold execOp
        rw [ho]
        simp only [run_bind', g]
        rw [hx] at e ⊢
        rcases hvv with rfl | rfl | rfl <;> rcases hy with ⟨a, hy⟩ | ⟨f, a, b, hy⟩ | ⟨t, u, hy⟩ <;> rw [hy] at e ⊢ <;> simp [binOp, run_bind', e, run_pure]
      · refine ⟨_, h, fun φ A w ρm hr => ⟨.bool true, ?_, RelV_sc ..⟩⟩
        obtain ⟨g, e, hy, hx⟩ := key hr
        unfold execOp
        rw [ho]
        simp only [run_bind', g]
        rw [hx] at e ⊢
        rcases hvv with rfl | rfl | rfl <;> rcases hy with ⟨a, hy⟩ | ⟨f, a, b, hy⟩ | ⟨t, u, hy⟩ <;> rw [hy] at e ⊢ <;> simp [binOp, run_bind', e, run_pure]
      · cases h
  · exact scal h
end Go.Ev
