/- Part of a proof about the given program: EvD2. -/
import Derived.Test.YtbgbplacpjcmfaaEvD
import Derived.Laws.StructEq
namespace Go.Ev
variable {Rt : Type}

/-! # Structs compared -/
def allEq : List (Int × Int) → Bool
  | [] => true
  | p :: l => (p.1 == p.2) && allEq l
theorem allEq_append : ∀ (a b : List (Int × Int)), allEq (a ++ b) = (allEq a && allEq b)
  | [], _ => rfl
  | p :: a, b => by simp only [List.cons_append, allEq, allEq_append a b, Bool.and_assoc]

def b01 : Bool → Int
  | true => 1
  | false => 0

def eqFs (P : Program) (F : TypeId → PV → PV → Option (List (Int × Int))) (gs hs : List Seg) : List Field → Option (List (Int × Int))
  | [] => some []
  | f :: l => cond (f.name != "_") (match partPV P f.type gs f.offset, partPV P f.type hs f.offset with
    | some a, some b => match F f.type a b with
      | some x => match eqFs P F gs hs l with
        | some y => some (x ++ y)
        | none => none
      | none => none
    | _, _ => none) none
def eqPV (P : Program) : Nat → TypeId → PV → PV → Option (List (Int × Int))
  | 0, _, _, _ => none
  | d + 1, t, p, q => match P.underlying t with
    | some (.int _) => match p, q with
      | .lf (.sc (.int k a)), .lf (.sc (.int k' b)) => cond (Nat.beq (kindNo k) (kindNo k')) (some [(a, b)]) none
      | _, _ => none
    | some .bool => match p, q with
      | .lf (.sc (.bool a)), .lf (.sc (.bool b)) => some [(b01 a, b01 b)]
      | _, _ => none
    | some (.struct fs) => match p, q with
      | .agg gs, .agg hs => cond (P.stoodInHeld t) none (eqFs P (eqPV P d) gs hs fs.toList)
      | _, _ => none
    | _ => none

theorem eqFs_sound {P : Program} {F : TypeId → PV → PV → Option (List (Int × Int))} {d : Nat} {φ : Phi} {A : Nat → Prop} {w : World}
    (hF : ∀ t p q l, F t p q = some l → ∀ x y, RelV φ A w p x → RelV φ A w q y → (Op.equalIn d t x y).run P w = .ok (allEq l) w) {gs hs : List Seg} {xs ys : Array Value} (hx : RelG φ A w gs xs.toList) (hy : RelG φ A w hs ys.toList) :
    ∀ {fs : List Field} {l : List (Int × Int)}, eqFs P F gs hs fs = some l → (Op.eqFields d xs ys fs).run P w = .ok (allEq l) w
  | [], l, h => by
    simp only [eqFs, Option.some.injEq] at h; subst h
    rfl
  | f :: fs, l, h => by
    unfold eqFs at h
    cases hn : (f.name != "_") with
    | false => rw [hn] at h; cases h
    | true =>
      rw [hn] at h; simp only [cond] at h
      split at h
      · rename_i a b ha hb
        split at h
        · rename_i x hxl
          split at h
          · rename_i y hyl
            simp only [Option.some.injEq] at h; subst h
            obtain ⟨va, p1, r1⟩ := partPV_sound ha hx w
            obtain ⟨vb, p2, r2⟩ := partPV_sound hb hy w
            have h3 := hF _ _ _ _ hxl _ _ r1 r2
            have ih := eqFs_sound hF hx hy hyl
            unfold Op.eqFields
            rw [if_pos (by simpa using hn), run_bind', show (part f.type xs f.offset).run P w = .ok va w from p1]
            simp only []
            rw [run_bind', show (part f.type ys f.offset).run P w = .ok vb w from p2]
            simp only []
            rw [run_bind', h3]
            simp only []
            rw [allEq_append]
            cases hq : allEq x with
            | false => rfl
            | true =>
              simp only [Bool.not_true, Bool.false_eq_true, if_false, Bool.true_and]
              exact ih
          · cases h
        · cases h
      · cases h

theorem eqPV_sound {P : Program} {φ : Phi} {A : Nat → Prop} {w : World} (D : Nat) : ∀ (d : Nat) (t : TypeId) (p q : PV) (l : List (Int × Int)), eqPV P d t p q = some l → ∀ x y, RelV φ A w p x → RelV φ A w q y → (Op.equalIn (D + d) t x y).run P w = .ok (allEq l) w
  | 0, _, _, _, _, h, _, _, _, _ => by cases h
  | d + 1, t, p, q, l, h, x, y, hx, hy => by
    unfold eqPV at h
    split at h
    · rename_i k0 hu
      split at h
      · rename_i k a k' b
        cases hk : Nat.beq (kindNo k) (kindNo k') with
        | false => rw [hk] at h; cases h
        | true =>
          rw [hk] at h
          have hkk := kindNo_inj (Nat.eq_of_beq_eq_true hk)
          simp only [cond, Option.some.injEq] at h
          subst h; subst hkk
          simp only [RelV, RelL] at hx hy
          subst hx; subst hy
          rw [← Nat.add_assoc, run_equalIn_int w _ t k k0 a b hu]
          simp [allEq]
      · cases h
    · rename_i hu
      split at h
      · rename_i a b
        simp only [Option.some.injEq] at h
        subst h
        simp only [RelV, RelL] at hx hy
        subst hx; subst hy
        rw [← Nat.add_assoc, run_equalIn_bool' w _ t a b hu]
        cases a <;> cases b <;> rfl
      · cases h
    · rename_i fs hu
      split at h
      · rename_i gs hs
        cases hst : P.stoodInHeld t with
        | true => rw [hst] at h; cases h
        | false =>
          rw [hst] at h; simp only [cond] at h
          simp only [RelV] at hx hy
          obtain ⟨vs, rfl, hvs⟩ := hx
          obtain ⟨us, rfl, hus⟩ := hy
          have hfo : P.fieldsOf t = fs := by unfold Program.fieldsOf; rw [hu]
          rw [← Nat.add_assoc, run_equalIn_struct w _ t _ _ (by rw [hfo]; exact hu) hst, hfo]
          exact eqFs_sound (fun t p q l h x y hx hy => eqPV_sound D d t p q l h x y hx hy) (xs := ⟨vs⟩) (ys := ⟨us⟩) hvs hus h
      · cases h
    · cases h

def isAggV : PV → Bool
  | .agg _ => true
  | _ => false
def evEqS (P : Program) (op : BinOp) (t : TypeId) (p q : PV) (K : PV → Option Rt) : Option Rt :=
  match p, q with
  | .agg gs, .agg hs => cond (P.eqGuardType P.depth t) none (match eqPV P 9 t (.agg gs) (.agg hs) with
    | some l => match op with
      | .eql => K (sc (.bool (allEq l)))
      | .neq => K (sc (.bool (!allEq l)))
      | _ => none
    | none => none)
  | _, _ => none
theorem evEqS_sound {P : Program} {o : Oper} {op : BinOp} {t yt : TypeId} {x y : Operand} (ho : o.op = .binOp op t x y yt) {ρ : Operand → PV} {K : PV → Option Rt} {r : Rt} (h : evEqS P op t (ρ x) (ρ y) K = some r) : Pured P o ρ K r := by
  have hxm : x ∈ o.op.operands := by rw [ho]; simp [Op.operands]
  have hym : y ∈ o.op.operands := by rw [ho]; simp [Op.operands]
  generalize hp : ρ x = p at h
  generalize hq : ρ y = q at h
  unfold evEqS at h
  split at h
  · rename_i gs hs
    cases hg : P.eqGuardType P.depth t with
    | true => rw [hg] at h; cases h
    | false =>
      rw [hg] at h; simp only [cond] at h
      split at h
      · rename_i l hl
        have key : ∀ {φ A w ρm}, OpsRel φ A w o ρ ρm → ∃ vs us, ρm x = .agg ⟨vs⟩ ∧ ρm y = .agg ⟨us⟩ ∧ (Op.equalIn 10000 t (.agg ⟨vs⟩) (.agg ⟨us⟩)).run P w = .ok (allEq l) w := fun {φ A w ρm} hr => by
          have h1 := hr x hxm; have h2 := hr y hym
          rw [hp] at h1; rw [hq] at h2
          have h3 := eqPV_sound (P := P) 9991 9 t _ _ l hl _ _ h1 h2
          simp only [RelV] at h1 h2
          obtain ⟨vs, e1, _⟩ := h1
          obtain ⟨us, e2, _⟩ := h2
          rw [e1, e2] at h3
          exact ⟨vs, us, e1, e2, h3⟩
        split at h
        · refine ⟨_, h, fun φ A w ρm hr => ?_⟩
          obtain ⟨vs, us, e1, e2, h3⟩ := key hr
          refine ⟨.bool (allEq l), ?_, RelV_sc ..⟩
          unfold execOp
          rw [ho]
          simp only [e1, e2]
          rw [run_bind', run_bind', run_eqGuard_agg w _ t x y _ _ hg]
          simp only []
          have hb : (binOp .eql t (.agg ⟨vs⟩) (.agg ⟨us⟩)).run P w = .ok (.bool (allEq l)) w := by
            rw [run_eql_struct, h3]; rfl
          rw [hb]
          rfl
        · refine ⟨_, h, fun φ A w ρm hr => ?_⟩
          obtain ⟨vs, us, e1, e2, h3⟩ := key hr
          refine ⟨.bool (!allEq l), ?_, RelV_sc ..⟩
          unfold execOp
          rw [ho]
          simp only [e1, e2]
          rw [run_bind', run_bind', run_eqGuard_agg w _ t x y _ _ hg]
          simp only []
          have hb : (binOp .neq t (.agg ⟨vs⟩) (.agg ⟨us⟩)).run P w = .ok (.bool (!allEq l)) w := by
            rw [run_neq_struct, h3]; rfl
          rw [hb]
          rfl
        · cases h
      · cases h
  · cases h
end Go.Ev
