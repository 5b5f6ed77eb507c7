/- Part of a proof about the given program: EvZ. -/
import Derived.Test.YtbgbplacpjcmfaaEvY
namespace Go.Ev

/-! # Pieces of code, by their way -/
def Code.at : List Bool → Code → Code
  | [], c => c
  | false :: l, .seq a _ => Code.at l a
  | true :: l, .seq _ b => Code.at l b
  | false :: l, .cond _ a _ => Code.at l a
  | true :: l, .cond _ _ b => Code.at l b
  | _ :: l, .block _ a => Code.at l a
  | _ :: l, .loop a => Code.at l a
  | _ :: l, .scope a => Code.at l a
  | _ :: l, .rangeFunc _ _ _ a => Code.at l a
  | _, _ => .skip

/-! ## A plan, by the ways to its cuts -/
def headsB (b : Bool) : List (List Bool × Cut) → List (List Bool × Cut)
  | [] => []
  | (c :: p, ct) :: l => cond (sameB c b) ((p, ct) :: headsB b l) (headsB b l)
  | ([], _) :: l => headsB b l
def rootB : List (List Bool × Cut) → Option Cut
  | [] => none
  | ([], ct) :: _ => some ct
  | _ :: l => rootB l
def planAt : Nat → List (List Bool × Cut) → Plan
  | 0, _ => .plain
  | d + 1, l => match l with
    | [] => .plain
    | l => match rootB l with
      | some ct => .cut ct
      | none => .node (planAt d (headsB false l)) (planAt d (headsB true l))

def AllSub (P : Program) (n : Nat) (fx : List Bool) (any : Bool) (c : Code) : List (List Bool × Cut) → Prop
  | [] => True
  | p :: l => SubOk P n fx (Code.at p.1 c) p.2 any ∧ AllSub P n fx any c l

theorem rootB_ok {any : Bool} {P : Program} {n : Nat} {fx : List Bool} {c : Code} {ct : Cut} : ∀ {l : List (List Bool × Cut)}, AllSub P n fx any c l → rootB l = some ct → SubOk P n fx c ct any
  | [], _, h => by cases h
  | ([], _) :: _, h, e => by
    simp only [rootB, Option.some.injEq] at e
    subst e
    exact h.1
  | (_ :: _, _) :: l, h, e => rootB_ok (l := l) h.2 (by simpa only [rootB] using e)

theorem headsB_ok {any : Bool} {P : Program} {n : Nat} {fx : List Bool} {c a : Code} {b : Bool} (hc : ∀ p, Code.at (b :: p) c = Code.at p a) : ∀ {l : List (List Bool × Cut)}, AllSub P n fx any c l → AllSub P n fx any a (headsB b l)
  | [], _ => trivial
  | ([], _) :: l, h => headsB_ok (l := l) hc h.2
  | (d :: p, ct) :: l, h => by
    unfold headsB
    cases hb : sameB d b with
    | false => exact headsB_ok (l := l) hc h.2
    | true =>
      have e := sameB_spec hb
      subst e
      exact ⟨by rw [← hc]; exact h.1, headsB_ok (l := l) hc h.2⟩

theorem planAt_ok {any : Bool} {P : Program} {n : Nat} {fx : List Bool} : ∀ {d : Nat} {l : List (List Bool × Cut)} {c : Code}, AllSub P n fx any c l → PlanOk P n fx any (planAt d l) c
  | 0, _, _, _ => by simp [planAt, PlanOk]
  | d + 1, [], _, _ => by simp [planAt, PlanOk]
  | d + 1, p :: l, c, h => by
    unfold planAt
    simp only []
    split
    · rename_i ct hr
      simp only [PlanOk]
      exact rootB_ok h hr
    · unfold PlanOk
      split
      · exact ⟨planAt_ok (headsB_ok (fun _ => rfl) h), planAt_ok (headsB_ok (fun _ => rfl) h)⟩
      · exact ⟨planAt_ok (headsB_ok (fun _ => rfl) h), planAt_ok (headsB_ok (fun _ => rfl) h)⟩
      · exact planAt_ok (headsB_ok (fun _ => rfl) h)
      · exact planAt_ok (headsB_ok (fun _ => rfl) h)
      · trivial

def AllEnt (P : Program) (g : FuncId) : List Ent → Prop
  | [] => True
  | e :: l => EntOk P g e ∧ AllEnt P g l
theorem AllEnt.mem {P : Program} {g : FuncId} : ∀ {l : List Ent}, AllEnt P g l → ∀ e ∈ l, EntOk P g e
  | [], _, e, he => by cases he
  | x :: l, h, e, he => by
    rcases List.mem_cons.1 he with h1 | h1
    · rw [h1]; exact h.1
    · exact AllEnt.mem h.2 e h1
theorem Table.plus {P : Program} {T : Table} (h : TableOk P T) {g : FuncId} {es : List Ent} (he : AllEnt P g es) (br : List Bool) : TableOk P (T.add g es br) := Table.add_ok h he.mem br

def Func.code (f : Func) : Code := match f.body with | some c => c | none => .skip

/-! # Results compared -/
def eqP {α β : Type} (f : α → α → Bool) (g : β → β → Bool) (x y : α × β) : Bool := f x.1 y.1 && g x.2 y.2
theorem eqP_ok {α β : Type} {f : α → α → Bool} {g : β → β → Bool} (hf : EqB f) (hg : EqB g) : EqB (eqP f g) := fun a b => by
  simp only [eqP, Bool.and_eq_true]
  rw [hf, hg]; exact Prod.ext_iff.symm
def eqN (a b : Nat) : Bool := Nat.beq a b
theorem eqN_ok : EqB eqN := fun a b => by simp [eqN]

mutual
def Ty.eq : (t : Ty) → (r : Type) → (r → r → Bool) → t.dn r → t.dn r → Bool
  | .int k, _, f => eqP (eqS (.int k)) f
  | .bool, _, f => eqP (eqS .bool) f
  | .str, _, f => eqP (eqS .str) f
  | .sl s, _, f => eqP (eqS (.slice s)) f
  | .vw _ _, _, f => eqP eqN (eqP eqN f)
  | .fnc _ ts, r, f => eqTs ts r f
  | .ifc _ u, r, f => u.eq r f
  | .any, _, f => f
  | .nilp, _, f => f
  | .nili, _, f => f
  | .nilf, _, f => f
  | .nils, _, f => f
  | .ptr _ _, _, f => f
  | .gr _ _, _, f => f
  | .mp _, _, f => f
def eqTs : (ts : List Ty) → (r : Type) → (r → r → Bool) → dnLs ts r → dnLs ts r → Bool
  | [], _, f => f
  | t :: ts, r, f => t.eq (dnLs ts r) (eqTs ts r f)
end
def STy.eq : (t : STy) → (r : Type) → (r → r → Bool) → t.dn r → t.dn r → Bool
  | .lf t, r, f => t.eq r f
  | .many s _, _, f => eqP (eqS (.slice s)) f
def eqG : (ts : List STy) → (r : Type) → (r → r → Bool) → dnG ts r → dnG ts r → Bool
  | [], _, f => f
  | t :: ts, r, f => t.eq (dnG ts r) (eqG ts r f)
def PTy.eq : (t : PTy) → (r : Type) → (r → r → Bool) → t.dn r → t.dn r → Bool
  | .lf t, r, f => t.eq r f
  | .agg g, r, f => eqG g r f
def eqPs : (ts : List PTy) → (r : Type) → (r → r → Bool) → dnPs ts r → dnPs ts r → Bool
  | [], _, f => f
  | t :: ts, r, f => t.eq (dnPs ts r) (eqPs ts r f)
def OTy.eq : (t : OTy) → (r : Type) → (r → r → Bool) → t.dn r → t.dn r → Bool
  | .box _ g, r, f => eqG g r f
  | .arr _ s, _, f => eqP (eqS (.slice s)) f
  | .map ks vs, _, f => eqP (eqL (eqP (eqS ks) (eqS vs))) f
  | .iter, _, f => eqP (eqS .str) (eqP eqN f)
def eqOs : (ts : List (Option OTy)) → dnOs ts → dnOs ts → Bool
  | [] => fun _ _ => true
  | none :: ts => eqOs ts
  | some t :: ts => t.eq (dnOs ts) (eqOs ts)
def Sg.eq (g : Sg) : g.D → g.D → Bool := eqPs g.tt (dnOs g.os) (eqOs g.os)

mutual
theorem Ty.eq_ok : ∀ {t : Ty} {r : Type} {f : r → r → Bool}, EqB f → EqB (t.eq r f)
  | .int _, _, _, h => eqP_ok (eqS_ok _) h
  | .bool, _, _, h => eqP_ok (eqS_ok _) h
  | .str, _, _, h => eqP_ok (eqS_ok _) h
  | .sl _, _, _, h => eqP_ok (eqS_ok _) h
  | .vw _ _, _, _, h => eqP_ok eqN_ok (eqP_ok eqN_ok h)
  | .fnc _ _, _, _, h => eqTs_ok h
  | .ifc _ u, _, _, h => Ty.eq_ok (t := u) h
  | .any, _, _, h => h
  | .nilp, _, _, h => h
  | .nili, _, _, h => h
  | .nilf, _, _, h => h
  | .nils, _, _, h => h
  | .ptr _ _, _, _, h => h
  | .gr _ _, _, _, h => h
  | .mp _, _, _, h => h
theorem eqTs_ok : ∀ {ts : List Ty} {r : Type} {f : r → r → Bool}, EqB f → EqB (eqTs ts r f)
  | [], _, _, h => h
  | t :: _, _, _, h => Ty.eq_ok (t := t) (eqTs_ok h)
end
theorem STy.eq_ok {t : STy} {r : Type} {f : r → r → Bool} (h : EqB f) : EqB (t.eq r f) := by
  cases t with
  | lf t => exact Ty.eq_ok (t := t) h
  | many s n => exact eqP_ok (eqS_ok _) h
theorem eqG_ok : ∀ {ts : List STy} {r : Type} {f : r → r → Bool}, EqB f → EqB (eqG ts r f)
  | [], _, _, h => h
  | t :: _, _, _, h => STy.eq_ok (t := t) (eqG_ok h)
theorem PTy.eq_ok {t : PTy} {r : Type} {f : r → r → Bool} (h : EqB f) : EqB (t.eq r f) := by
  cases t with
  | lf t => exact Ty.eq_ok (t := t) h
  | agg g => exact eqG_ok (ts := g) h
theorem eqPs_ok : ∀ {ts : List PTy} {r : Type} {f : r → r → Bool}, EqB f → EqB (eqPs ts r f)
  | [], _, _, h => h
  | t :: _, _, _, h => PTy.eq_ok (t := t) (eqPs_ok h)
theorem OTy.eq_ok {t : OTy} {r : Type} {f : r → r → Bool} (h : EqB f) : EqB (t.eq r f) := by
  cases t with
  | box own g => exact eqG_ok (ts := g) h
  | arr own s => exact eqP_ok (eqS_ok (.slice s)) h
  | map ks vs => exact eqP_ok (eqL_ok (eqP_ok (eqS_ok ks) (eqS_ok vs))) h
  | iter => exact eqP_ok (eqS_ok .str) (eqP_ok eqN_ok h)
theorem eqOs_ok : ∀ {ts : List (Option OTy)}, EqB (eqOs ts)
  | [] => fun a b => by simp [eqOs]
  | none :: ts => eqOs_ok (ts := ts)
  | some t :: ts => OTy.eq_ok (t := t) (eqOs_ok (ts := ts))
theorem Sg.eq_ok (g : Sg) : EqB g.eq := eqPs_ok (ts := g.tt) (eqOs_ok (ts := g.os))
theorem Sg.eq_eq (g : Sg) (a b : g.D) (h : g.eq a b = true) : a = b := (g.eq_ok a b).1 h
theorem Sg.eq_refl (g : Sg) (a : g.D) : g.eq a a = true := (g.eq_ok a a).2 rfl
end Go.Ev
