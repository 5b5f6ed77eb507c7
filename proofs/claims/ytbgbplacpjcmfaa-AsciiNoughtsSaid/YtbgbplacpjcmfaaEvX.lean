/- Part of a proof about the given program: EvX. -/
import Derived.Test.YtbgbplacpjcmfaaEvW
import Derived.LoopNIn
import Derived.Scope
import Derived.ControlIn
import Derived.RangeFuncRecord
namespace Go.Ev

/-! # A function's code -/
section
variable {F : Fence} {n : Nat} {P : Program} {b : Frame} {a : Act} {k : List Item} {cs : List Frame} {w : World} {Q : Exit → Act → World → Prop}
theorem stepR_scope {c : Code} : step P (lone (b.atR a (.code (.scope c) :: k)) cs w) = .next (lone (b.atR a (.code c :: .inScope c :: k)) cs w) :=
  step_lone_go (by simp [stepG, stepG.exec, Frame.atR])
theorem stepR_inScope {c : Code} : step P (lone (b.atR a (.inScope c :: k)) cs w) = .next (lone (b.atR a k) cs w) :=
  step_lone_go (by simp [stepG, stepG.exec, Frame.atR])
theorem wpIn_scope_straight {c : Code} (h : c.wpIn F n P (Exit.noGoto Q) a w) : (Code.scope c).wpIn F n P Q a w := by
  intro b k cs hro hb hr
  obtain ⟨e, a₁, w₁, hq, harr⟩ := h b (.inScope c :: k) cs hro hb hr
  have h0 : (lone (b.atR a (.code (.scope c) :: k)) cs w).fenced P F := fenced_calm hb hr rfl
  cases e with
  | normal => exact ⟨.normal, a₁, w₁, hq, .head h0 stepR_scope (StepsIn.trans harr (.one (fenced_calm hb hr rfl) stepR_inScope))⟩
  | exit id =>
    have hx : exitTo id (.inScope c :: k) = exitTo id k := by simp [exitTo]
    exact ⟨.exit id, a₁, w₁, hq, fun k' hk => .head h0 stepR_scope (harr.1 k' (by rw [hx]; exact hk)),
      fun hr' hk => let ⟨k₁, h1, h2⟩ := harr.2 hr' (by rw [hx]; exact hk); ⟨k₁, h1, .head h0 stepR_scope h2⟩⟩
  | goto l => exact hq.elim
  | ret => exact ⟨_, a₁, w₁, hq, .of_steps (.one h0 stepR_scope) harr⟩
  | panic ch => exact ⟨_, a₁, w₁, hq, .of_steps (.one h0 stepR_scope) harr⟩
  | outgrown => exact ⟨_, a₁, w₁, hq, .of_steps (.one h0 stepR_scope) harr⟩
end

structure Cut where
  g : Sg
  outs : Outs
  f : g.D → Option (outD outs)

inductive Plan where
  | plain
  | cut (c : Cut)
  | node (l r : Plan)

def Plan.l : Plan → Plan
  | .node l _ => l
  | _ => .plain
def Plan.r : Plan → Plan
  | .node _ r => r
  | _ => .plain

variable {Rt : Type}

def evCut (fx : List Bool) (ct : Cut) (s : St) (K : Exit → St → Option Rt) : Option Rt := (packS false fx ct.g s).then fun x => (ct.f x).bind (outK ct.outs K)

def St.known (s : St) (c : Operand) (b : Bool) : St := match c with | .tmp t => s.put (some t) (sc (.bool b)) | _ => s

def seqK (e : Exit) (s : St) (K : Exit → St → Option Rt) (K1 : St → Option Rt) : Option Rt := match e with | .normal => K1 s | e => K e s
def blkK (id : Nat) (e : Exit) (s : St) (K : Exit → St → Option Rt) : Option Rt := match e with | .exit i => cond (Nat.beq i id) (K .normal s) (K (.exit i) s) | e => K e s

/-- Out of a scope there are no jumps. -/
def scpK (e : Exit) (s : St) (K : Exit → St → Option Rt) : Option Rt := match e with | .goto _ => none | e => K e s

/-- It is not known which; both come to the same. -/
def amb (eq : Rt → Rt → Bool) (a b : Option Rt) : Option Rt := match a, b with | some x, some y => cond (eq x y) (some x) none | _, _ => none

theorem amb_spec {eq : Rt → Rt → Bool} (he : ∀ a b, eq a b = true → a = b) {a b : Option Rt} {r : Rt} (h : amb eq a b = some r) : a = some r ∧ b = some r := by
  unfold amb at h
  split at h
  · rename_i x y
    cases hb : eq x y with
    | false => rw [hb] at h; cases h
    | true => rw [hb] at h; simp only [cond, Option.some.injEq] at h; subst h; exact ⟨rfl, by rw [he _ _ hb]⟩
  · cases h

theorem amb_self {eq : Rt → Rt → Bool} (he : ∀ a, eq a a = true) (a : Option Rt) : amb eq a a = a := by
  cases a with
  | none => rfl
  | some x => simp [amb, he]

def ev (P : Program) (O : Orc Rt) (n : Nat) (fx : List Bool) : Code → Plan → St → (Exit → St → Option Rt) → Option Rt
  | .skip, p, s, K => match p with | .cut ct => evCut fx ct s K | _ => K .normal s
  | .label _, p, s, K => match p with | .cut ct => evCut fx ct s K | _ => K .normal s
  | .exit i, p, s, K => match p with | .cut ct => evCut fx ct s K | _ => K (.exit i) s
  | .ret, p, s, K => match p with | .cut ct => evCut fx ct s K | _ => K .ret s
  | .region _ ops draw, p, s, K => match p with
    | .cut ct => evCut fx ct s K
    | _ => cond draw (evDraw P O n ops s (K .normal)) (evIdx P O n ops (List.range ops.size) s (K .normal))
  | .seq a b, p, s, K => match p with
    | .cut ct => evCut fx ct s K
    | p => ev P O n fx a p.l s fun e s' => seqK e s' K fun s' => ev P O n fx b p.r s' K
  | .cond c a b, p, s, K => match p with
    | .cut ct => evCut fx ct s K
    | p => match s.val c with
      | .lf .anyb => amb O.eq (ev P O n fx a p.l (s.known c true) K) (ev P O n fx b p.r (s.known c false) K)
      | .lf (.sc (.bool t)) => if t = true then ev P O n fx a p.l (s.known c true) K else ev P O n fx b p.r (s.known c false) K
      | _ => none
  | .block id a, p, s, K => match p with
    | .cut ct => evCut fx ct s K
    | p => ev P O n fx a p.l s fun e s' => blkK id e s' K
  | .loop _, p, s, K => match p with | .cut ct => evCut fx ct s K | _ => none
  | .rangeFunc .., p, s, K => match p with | .cut ct => evCut fx ct s K | _ => none
  | .scope a, p, s, K => match p with
    | .cut ct => evCut fx ct s K
    | p => ev P O n fx a p.l s fun e s' => scpK e s' K
  | .goto _, p, s, K => match p with | .cut ct => evCut fx ct s K | _ => none
  | .refuse _, p, s, K => match p with | .cut ct => evCut fx ct s K | _ => none

def SubOk (P : Program) (n : Nat) (fx : List Bool) (c : Code) (ct : Cut) (any : Bool := true) : Prop :=
  ∀ x o, ct.f x = some o → ∀ (rd : Option Nat), (any = true ∨ rd = none) → ∀ (E : Env), E.fx = fx → ∀ φ A a w, R E n φ A (ct.g.st x) a w → c.wpIn (fen rd) 0 P (atOut E n ct.outs o) a w

def PlanOk (P : Program) (n : Nat) (fx : List Bool) (any : Bool) : Plan → Code → Prop
  | .plain, _ => True
  | .cut ct, c => SubOk P n fx c ct any
  | .node l r, c => match c with
    | .seq a b => PlanOk P n fx any l a ∧ PlanOk P n fx any r b
    | .cond _ a b => PlanOk P n fx any l a ∧ PlanOk P n fx any r b
    | .block _ a => PlanOk P n fx any l a
    | .scope a => PlanOk P n fx any l a
    | _ => True

theorem evCut_sound {rd : Option Nat} {any : Bool} (hrd : any = true ∨ rd = none) {P : Program} {n : Nat} {fx : List Bool} {c : Code} {ct : Cut} (hp : SubOk P n fx c ct any) {s : St} {K : Exit → St → Option Rt} {r : Rt} (h : evCut fx ct s K = some r) {E : Env} (hm : E.fx = fx) {φ : Phi} {A : Nat → Prop} {a : Act} {w : World} (hR : R E n φ A s a w)
    {Q : Exit → Act → World → Prop} (hK : ∀ e s φ A a w, K e s = some r → R E n φ A s a w → Q e a w) : c.wpIn (fen rd) 0 P Q a w := by
  obtain ⟨q, x, h1, hq, h2⟩ := Pk.then_spec h
  cases h3 : ct.f x with
  | none => rw [h3] at h2; cases h2
  | some o =>
    rw [h3] at h2
    simp only [Option.bind_some] at h2
    obtain ⟨φ', A', hR', _, _⟩ := packS_sound h1 hq hm hR
    refine wpIn_mono (hp x o h3 rd hrd E hm φ' A' a w hR') fun e a' w' ha => ?_
    obtain ⟨s', φ2, A2, h4, h5⟩ := outK_sound h2 ha
    exact hK e s' φ2 A2 a' w' h4 h5

theorem R.known {E : Env} {n : Nat} {φ : Phi} {A : Nat → Prop} {s : St} {a : Act} {w : World} (hR : R E n φ A s a w) {c : Operand} {t : Bool} (h : s.val c = .lf (.sc (.bool t))) : R E n φ A (s.known c t) a w := by
  cases c with
  | tmp i => rw [show s.known (.tmp i) t = s from put_same h]; exact hR
  | const _ => exact hR
  | global _ => exact hR
  | func _ => exact hR

theorem ev_sound {rd : Option Nat} {any : Bool} (hrd : any = true ∨ rd = none) {P : Program} {O : Orc Rt} (hO : OrcOk P O) (hmix : P.follows .mixedOrders = true) {n : Nat} {fx : List Bool} {E : Env} (hm : E.fx = fx) {r : Rt} : ∀ (c : Code) {p : Plan}, PlanOk P n fx any p c → ∀ {s : St} {K : Exit → St → Option Rt} {φ : Phi} {A : Nat → Prop} {a : Act} {w : World}
    {Q : Exit → Act → World → Prop}, ev P O n fx c p s K = some r → R E n φ A s a w → (∀ e s φ A a w, K e s = some r → R E n φ A s a w → Q e a w) → c.wpIn (fen rd) 0 P Q a w := by
  intro c
  induction c with
  | skip =>
    intro p hp s K φ A a w Q h hR hK
    unfold ev at h
    split at h
    · exact evCut_sound hrd (by simpa only [PlanOk] using hp) h hm hR hK
    · exact wpIn_skip (hK _ _ _ _ _ _ h hR)
  | label l =>
    intro p hp s K φ A a w Q h hR hK
    unfold ev at h
    split at h
    · exact evCut_sound hrd (by simpa only [PlanOk] using hp) h hm hR hK
    · exact wpIn_label (hK _ _ _ _ _ _ h hR)
  | exit i =>
    intro p hp s K φ A a w Q h hR hK
    unfold ev at h
    split at h
    · exact evCut_sound hrd (by simpa only [PlanOk] using hp) h hm hR hK
    · exact wpIn_exit (hK _ _ _ _ _ _ h hR)
  | ret =>
    intro p hp s K φ A a w Q h hR hK
    unfold ev at h
    split at h
    · exact evCut_sound hrd (by simpa only [PlanOk] using hp) h hm hR hK
    · exact wpIn_ret (hK _ _ _ _ _ _ h hR)
  | region id ops draw =>
    intro p hp s K φ A a w Q h hR hK
    unfold ev at h
    split at h
    · exact evCut_sound hrd (by simpa only [PlanOk] using hp) h hm hR hK
    · cases draw with
      | true => exact evDraw_sound hO hmix h hR (fun s φ A a w h' hR' => hK _ _ _ _ _ _ h' hR')
      | false => exact wpIn_region (evIdx_sound hO (fun s φ A a w h' hR' => hK _ _ _ _ _ _ h' hR') _ h hR)
  | seq a b iha ihb =>
    intro p hp s K φ A ac w Q h hR hK
    unfold ev at h
    split at h
    · exact evCut_sound hrd (by simpa only [PlanOk] using hp) h hm hR hK
    · have hab : PlanOk P n fx any p.l a ∧ PlanOk P n fx any p.r b := by
        cases p with
        | plain => exact ⟨by simp [Plan.l, PlanOk], by simp [Plan.r, PlanOk]⟩
        | cut ct => rename_i hx; exact absurd rfl (hx ct)
        | node l r => simp only [PlanOk] at hp; exact hp
      refine wpIn_seq (iha hab.1 h hR fun e s' φ' A' a' w' h' hR' => ?_)
      cases e with
      | normal => exact ihb hab.2 h' hR' hK
      | exit i => exact hK _ _ _ _ _ _ h' hR'
      | goto i => exact hK _ _ _ _ _ _ h' hR'
      | ret => exact hK _ _ _ _ _ _ h' hR'
      | panic i => exact hK _ _ _ _ _ _ h' hR'
      | outgrown => exact hK _ _ _ _ _ _ h' hR'
  | cond c a b iha ihb =>
    intro p hp s K φ A ac w Q h hR hK
    unfold ev at h
    split at h
    · exact evCut_sound hrd (by simpa only [PlanOk] using hp) h hm hR hK
    · have hab : PlanOk P n fx any p.l a ∧ PlanOk P n fx any p.r b := by
        cases p with
        | plain => exact ⟨by simp [Plan.l, PlanOk], by simp [Plan.r, PlanOk]⟩
        | cut ct => rename_i hx; exact absurd rfl (hx ct)
        | node l r => simp only [PlanOk] at hp; exact hp
      split at h
      · rename_i ht
        have hv := hR.val c
        rw [ht] at hv
        simp only [RelV, RelL] at hv
        obtain ⟨t, hv⟩ := hv
        obtain ⟨h1, h2⟩ := amb_spec O.eqOk h
        have hkn : R E n φ A (s.known c t) ac w := by
          cases c with
          | tmp i =>
            refine ⟨hR.defers, hR.size, fun j => ?_, hR.obs, hR.frm, hR.inc⟩
            show RelV φ A w (cond (Nat.beq j i) (sc (.bool t)) (s.tm j)) _
            cases hb : Nat.beq j i with
            | true =>
              rw [Nat.eq_of_beq_eq_true hb]
              have hv' : ac.tmps.getD i undef = .bool t := hv
              rw [hv']; exact RelV_sc ..
            | false => exact hR.tm j
          | const _ => exact hR
          | global _ => exact hR
          | func _ => exact hR
        cases t with
        | true => exact wpIn_cond hv (by simpa only [if_true] using iha hab.1 h1 hkn hK)
        | false => exact wpIn_cond hv (by simpa only [Bool.false_eq_true, if_false] using ihb hab.2 h2 hkn hK)
      · rename_i t ht
        have hv := hR.val c
        rw [ht] at hv
        simp only [RelV, RelL] at hv
        split at h
        · rename_i he
          subst he
          exact wpIn_cond hv (by simpa only [if_true] using iha hab.1 h (hR.known ht) hK)
        · rename_i he
          have he : t = false := by simpa using he
          subst he
          exact wpIn_cond hv (by simpa only [Bool.false_eq_true, if_false] using ihb hab.2 h (hR.known ht) hK)
      · cases h
  | block id a iha =>
    intro p hp s K φ A ac w Q h hR hK
    unfold ev at h
    split at h
    · exact evCut_sound hrd (by simpa only [PlanOk] using hp) h hm hR hK
    · have hab : PlanOk P n fx any p.l a := by
        cases p with
        | plain => simp [Plan.l, PlanOk]
        | cut ct => rename_i hx; exact absurd rfl (hx ct)
        | node l r => simp only [PlanOk] at hp; exact hp
      refine wpIn_block (iha hab h hR fun e s' φ' A' a' w' h' hR' => ?_)
      cases e with
      | exit i =>
        unfold blkK at h'
        simp only at h'
        show (if i = id then Q .normal a' w' else Q (.exit i) a' w')
        by_cases hi : i = id
        · rw [if_pos hi]
          rw [hi, Nat.beq_refl] at h'
          exact hK _ _ _ _ _ _ h' hR'
        · rw [if_neg hi]
          rw [show Nat.beq i id = false from by rw [Bool.eq_false_iff]; intro e; exact hi (Nat.eq_of_beq_eq_true e)] at h'
          exact hK _ _ _ _ _ _ h' hR'
      | normal => exact hK _ _ _ _ _ _ h' hR'
      | goto i => exact hK _ _ _ _ _ _ h' hR'
      | ret => exact hK _ _ _ _ _ _ h' hR'
      | panic i => exact hK _ _ _ _ _ _ h' hR'
      | outgrown => exact hK _ _ _ _ _ _ h' hR'
  | loop c ih =>
    intro p hp s K φ A a w Q h hR hK
    unfold ev at h
    split at h
    · exact evCut_sound hrd (by simpa only [PlanOk] using hp) h hm hR hK
    · cases h
  | rangeFunc _ _ _ _ _ _ =>
    intro p hp s K φ A a w Q h hR hK
    unfold ev at h
    split at h
    · exact evCut_sound hrd (by simpa only [PlanOk] using hp) h hm hR hK
    · cases h
  | scope c ih =>
    intro p hp s K φ A a w Q h hR hK
    unfold ev at h
    split at h
    · exact evCut_sound hrd (by simpa only [PlanOk] using hp) h hm hR hK
    · have hab : PlanOk P n fx any p.l c := by
        cases p with
        | plain => simp [Plan.l, PlanOk]
        | cut ct => rename_i hx; exact absurd rfl (hx ct)
        | node l r => simp only [PlanOk] at hp; exact hp
      refine wpIn_scope_straight (ih hab h hR fun e s' φ' A' a' w' h' hR' => ?_)
      cases e with
      | goto i => cases h'
      | normal => exact hK _ _ _ _ _ _ h' hR'
      | exit i => exact hK _ _ _ _ _ _ h' hR'
      | ret => exact hK _ _ _ _ _ _ h' hR'
      | panic i => exact hK _ _ _ _ _ _ h' hR'
      | outgrown => exact hK _ _ _ _ _ _ h' hR'
  | goto l =>
    intro p hp s K φ A a w Q h hR hK
    unfold ev at h
    split at h
    · exact evCut_sound hrd (by simpa only [PlanOk] using hp) h hm hR hK
    · cases h
  | refuse l =>
    intro p hp s K φ A a w Q h hR hK
    unfold ev at h
    split at h
    · exact evCut_sound hrd (by simpa only [PlanOk] using hp) h hm hR hK
    · cases h

/-! ## Pieces of code -/
/-- From holes, their state made plain. -/
def evF (P : Program) (O : Orc Rt) (n : Nat) (fx : List Bool) (c : Code) (p : Plan) (g : Sg) (x : g.D) (K : Exit → St → Option Rt) : Option Rt := g.fst x fun s => ev P O n fx c p s K
theorem evF_eq (P : Program) (O : Orc Rt) (n : Nat) (fx : List Bool) (c : Code) (p : Plan) (g : Sg) (x : g.D) (K : Exit → St → Option Rt) : evF P O n fx c p g x K = ev P O n fx c p (g.st x) K :=
  Sg.fst_eq g x _

theorem sub_ok {any : Bool} {P : Program} {n : Nat} {fx : List Bool} {c : Code} {g : Sg} {outs : Outs} {f : g.D → Option (outD outs)} {O : Orc (outD outs)} (hO : OrcOk P O) (hmix : P.follows .mixedOrders = true) {p : Plan} (hp : PlanOk P n fx any p c)
    (h : ∀ x, f x = evF P O n fx c p g x (injK fx outs some)) : SubOk P n fx c ⟨g, outs, f⟩ any := by
  intro x o hx rd hrd E hm φ A a w hR
  have hx : f x = some o := hx
  rw [h, evF_eq] at hx
  exact ev_sound hrd hO hmix hm c hp hx hR (fun e s φ A a w h' hR' => by
    obtain ⟨y, h1, h2⟩ := injK_sound hm h' hR'
    simp only [Option.some.injEq] at h1
    exact h1 ▸ h2)

/-! ## Loops -/
noncomputable def loopN (g : Sg) (outs : Outs) (body : g.D → Option (outD ((.normal, g) :: outs))) (k : Nat) : g.D → Option (outD outs) :=
  Nat.rec (fun _ => none) (fun _ ih x => (body x).bind (Sum.elim ih some)) k

theorem loopN_zero {g : Sg} {outs : Outs} {body : g.D → Option (outD ((.normal, g) :: outs))} {x : g.D} : loopN g outs body 0 x = none := rfl
theorem loopN_succ {g : Sg} {outs : Outs} {body : g.D → Option (outD ((.normal, g) :: outs))} {k : Nat} {x : g.D} : loopN g outs body (k + 1) x = (body x).bind (Sum.elim (loopN g outs body k) some) := rfl

def noNorm : Outs → Bool
  | [] => true
  | p :: l => !(exB p.1 .normal) && noNorm l

theorem atOut_ne {E : Env} {n : Nat} : ∀ {l : Outs} {x : outD l} {a : Act} {w : World}, noNorm l = true → ¬ atOut E n l x .normal a w
  | [], x, _, _, _ => nomatch x
  | p :: l, .inl x, a, w, h => fun ⟨he, _⟩ => by simp only [noNorm, ← he, exB] at h; cases h
  | p :: l, .inr x, a, w, h => by
    simp only [noNorm, Bool.and_eq_true] at h
    exact atOut_ne (l := l) (x := x) h.2

theorem loop_ok {any : Bool} {P : Program} {n : Nat} {fx : List Bool} {c : Code} {g : Sg} {outs : Outs} {body : g.D → Option (outD ((.normal, g) :: outs))} (hb : SubOk P n fx c ⟨g, (.normal, g) :: outs, body⟩ any) (hn : noNorm outs = true) (k : Nat) :
    SubOk P n fx (.loop c) ⟨g, outs, loopN g outs body k⟩ any := by
  intro x o hx rd hrd E hm φ A a w hR
  refine wpIn_loop_rounds k ?_
  revert x φ A a w
  induction k with
  | zero => intro x hx; cases hx
  | succ k ih =>
    intro x hx φ A a w hR
    rw [roundsIn_succ]
    rw [show (Cut.mk g outs (loopN g outs body (k + 1))).f x = (body x).bind (Sum.elim (loopN g outs body k) some) from rfl] at hx
    cases hbx : body x with
    | none => rw [hbx] at hx; cases hx
    | some y =>
      rw [hbx] at hx
      simp only [Option.bind_some] at hx
      refine wpIn_mono (hb x y hbx rd hrd E hm φ A a w hR) fun e a' w' ha => ?_
      cases y with
      | inl y =>
        obtain ⟨he, φ', A', hR'⟩ := ha
        subst he
        exact ih _ y hx φ' A' a' w' hR'
      | inr y =>
        simp only [Sum.elim_inr, Option.some.injEq] at hx
        subst hx
        have ha' : atOut E n outs y e a' w' := ha
        cases e with
        | normal => exact absurd ha' (atOut_ne hn)
        | exit i => exact ha'
        | goto i => exact ha'
        | ret => exact ha'
        | panic i => exact ha'
        | outgrown => exact ha'

/-! ## Functions -/
def outPV : List PV → PV
  | [p] => p
  | ps => .tup ps
def outOf (g : Sg) (y : g.D) : Out := (outPV (g.vals y), g.objs y)

def packIn (g : Sg) (args : List PV) (hl : List Ob) : Pk g.D :=
  cond (Nat.beq hl.length g.os.length) (packV g.os g.tt args (sig0 hl.length hl.length 0) (objsS (hlOf hl) (fun o => idxS o (sig0 hl.length hl.length 0)) (sig0 hl.length hl.length 0))) none

/-- A function may hand back one of several forms. -/
@[reducible] def alt : List Sg → Type
  | [] => Empty
  | [g] => g.D
  | g :: g2 :: l => g.D ⊕ alt (g2 :: l)
def altOut : (l : List Sg) → alt l → Out
  | [], x => nomatch x
  | [g], x => outOf g x
  | g :: g2 :: l, x => Sum.elim (fun y => outOf g y) (fun y => altOut (g2 :: l) y) x
def altK {Rt : Type} (K : Out → Option Rt) : (l : List Sg) → alt l → Option Rt
  | [] => Empty.elim
  | [g] => fun x => K (outOf g x)
  | g :: g2 :: l => Sum.elim (fun y => K (outOf g y)) (altK K (g2 :: l))
theorem altK_eq {Rt : Type} (K : Out → Option Rt) : ∀ (l : List Sg) (x : alt l), altK K l x = K (altOut l x)
  | [], x => nomatch x
  | [_], _ => rfl
  | g :: g2 :: l, x => by
    cases x with
    | inl y => rfl
    | inr y => exact altK_eq K (g2 :: l) y
def altPk {R : Type} (fx : List Bool) (s : St) (ps : List PV) : (l : List Sg) → (alt l → Option R) → Option R
  | [], _ => none
  | [g], K => (packW true fx g s ps).then K
  | g :: g2 :: l, K => match packW true fx g s ps with
    | some (q, x) => eqs q (K (.inl x))
    | none => altPk fx s ps (g2 :: l) fun y => K (.inr y)
theorem altPk_spec {R : Type} {fx : List Bool} {s : St} {ps : List PV} : ∀ {l : List Sg} {K : alt l → Option R} {r : R}, altPk fx s ps l K = some r →
    ∃ z, K z = some r ∧ ∃ g ∈ l, ∃ q y, packW true fx g s ps = some (q, y) ∧ Eqs q ∧ altOut l z = outOf g y
  | [], _, _, h => by cases h
  | [g], K, r, h => by
    obtain ⟨q, y, h1, h2, h3⟩ := Pk.then_spec h
    exact ⟨y, h3, g, List.mem_cons_self .., q, y, h1, h2, rfl⟩
  | g :: g2 :: l, K, r, h => by
    unfold altPk at h
    split at h
    · rename_i q y hp
      obtain ⟨h1, h2⟩ := eqs_spec h
      exact ⟨.inl y, h2, g, List.mem_cons_self .., q, y, hp, h1, rfl⟩
    · obtain ⟨z, h1, g', hg, q, y, h2, h3, h4⟩ := altPk_spec h
      exact ⟨.inr z, h1, g', List.mem_cons_of_mem _ hg, q, y, h2, h3, h4⟩

/-- What a function's code comes to. -/
def fnKV (vs : St → Option (List PV)) (fx : List Bool) (gos : List Sg) (e : Exit) (s : St) : Option (alt gos) := match e with
  | .normal => (vs s).bind fun l => altPk fx s l gos some
  | .ret => (vs s).bind fun l => altPk fx s l gos some
  | _ => none
def tnOf : List Sg → List Nat
  | [] => []
  | g :: _ => g.tn
/-- The results are temporaries. -/
def fnK (fx : List Bool) (gos : List Sg) : Exit → St → Option (alt gos) := fnKV (fun s => some (tmsOf s.tm (tnOf gos))) fx gos

/-- Results that are cells are looked up. -/
def resPV (P : Program) (s : St) : List ResultVar → Option (List PV)
  | [] => some []
  | .tmp t :: l => (resPV P s l).map fun r => s.tm t :: r
  | .cell x t :: l => match s.tm x with
    | .lf p => match readAt P s.ob t p with
      | some v => (resPV P s l).map fun r => v :: r
      | none => none
    | _ => none
def fnKR (P : Program) (fn : Func) (fx : List Bool) (gos : List Sg) : Exit → St → Option (alt gos) := fnKV (fun s => resPV P s fn.results.toList) fx gos

def iota : Nat → Nat → List Nat
  | 0, _ => []
  | n + 1, k => k :: iota n (k + 1)

theorem iota_get : ∀ {n k i : Nat}, i < n → (iota n k)[i]? = some (k + i)
  | 0, _, _, h => by omega
  | n + 1, k, 0, _ => rfl
  | n + 1, k, i + 1, h => by
    rw [iota, List.getElem?_cons_succ, iota_get (by omega)]; congr 1; omega

/-- A function's contract: from holes of these forms to holes of those. -/
def tmpsB : List ResultVar → List Nat → Bool
  | [], [] => true
  | .tmp t :: l, i :: r => Nat.beq t i && tmpsB l r
  | _, _ => false


/-- What may be taken over is behind the function no more, by its old number. -/
def looseB : List Bool → List (Option OTy) → Bool
  | [], _ => true
  | false :: fx, none :: os => looseB fx os
  | true :: fx, _ :: os => looseB fx os
  | _, _ => false

theorem looseB_spec : ∀ {fx : List Bool} {os : List (Option OTy)}, looseB fx os = true → fx.length ≤ os.length ∧ ∀ i : Nat, fx[i]? = some false → os[i]? = some none
  | [], os, _ => ⟨Nat.zero_le _, fun i h => by simp at h⟩
  | b :: fx, [], h => by cases b <;> cases h
  | false :: fx, some _ :: os, h => by cases h
  | false :: fx, none :: os, h => by
    obtain ⟨h1, h2⟩ := looseB_spec (fx := fx) (os := os) h
    refine ⟨by simp only [List.length_cons]; omega, fun i hi => ?_⟩
    cases i with
    | zero => rfl
    | succ i => rw [List.getElem?_cons_succ] at hi ⊢; exact h2 i hi
  | true :: fx, o :: os, h => by
    obtain ⟨h1, h2⟩ := looseB_spec (fx := fx) (os := os) h
    refine ⟨by simp only [List.length_cons]; omega, fun i hi => ?_⟩
    cases i with
    | zero => simp at hi
    | succ i => rw [List.getElem?_cons_succ] at hi ⊢; exact h2 i hi

structure FnFits (P : Program) (g : FuncId) (fn : Func) (c : Code) (fx : List Bool) (gi : Sg) (gos : List Sg) : Prop where
  hfn : P.funcs[g]? = some fn
  body : fn.body = some c
  tn : gi.tn = iota gi.tt.length 0
  len : gi.tt.length ≤ fn.ntmps
  hfx : fx.length = gi.os.length
  hgo : (gos.all fun go => looseB fx go.os) = true

theorem RelVs.get {φ : Phi} {A : Nat → Prop} {w : World} : ∀ {ps : List PV} {vs : List Value}, RelVs φ A w ps vs → vs.length = ps.length
  | [], _, h => by simp only [RelVs] at h; rw [h]; rfl
  | p :: ps, _, h => by
    simp only [RelVs] at h
    obtain ⟨v, vs, e, _, h2⟩ := h
    rw [e, List.length_cons, List.length_cons, RelVs.get h2]

theorem encPs_len {ln : Nat → Nat} : ∀ {ts : List PTy} {r : Type} {x : dnPs ts r}, (encPs ln ts r x).1.length = ts.length
  | [], _, _ => rfl
  | t :: ts, r, x => by simp only [encPs, List.length_cons]; rw [encPs_len]

theorem sig0_get : ∀ {n k i m : Nat}, i < n → k + i < m → (sig0 m n k)[i]? = some (some (k + i))
  | 0, _, _, _, h, _ => by omega
  | n + 1, k, 0, m, _, h => by
    simp only [sig0, List.getElem?_cons_zero]
    rw [show Nat.blt k m = true from Nat.ble_eq_true_of_le (by omega)]; rfl
  | n + 1, k, i + 1, m, h, h' => by
    rw [sig0, List.getElem?_cons_succ, sig0_get (by omega) (by omega)]; congr 2; omega

theorem sig0_len : ∀ {n k m : Nat}, (sig0 m n k).length = n
  | 0, _, _ => rfl
  | n + 1, k, m => by rw [sig0, List.length_cons, sig0_len]

theorem sig0_nodup : ∀ {n k m : Nat}, nodupS (sig0 m n k) = true ∧ ∀ i o : Nat, (sig0 m n k)[i]? = some (some o) → k ≤ o
  | 0, _, _ => ⟨rfl, fun i o h => by simp [sig0] at h⟩
  | n + 1, k, m => by
    obtain ⟨h1, h2⟩ := sig0_nodup (n := n) (k := k + 1) (m := m)
    refine ⟨?_, fun i o h => ?_⟩
    · unfold sig0
      cases Nat.blt k m with
      | false => exact h1
      | true =>
        simp only [cond, nodupS, h1, Bool.and_true]
        cases hi : idxS k (sig0 m n (k + 1)) with
        | none => rfl
        | some j => have := h2 j k (idxS_get hi); omega
    · cases i with
      | zero =>
        unfold sig0 at h
        cases hb : Nat.blt k m with
        | false => rw [hb] at h; simp at h
        | true => rw [hb] at h; simp at h; omega
      | succ i => rw [sig0, List.getElem?_cons_succ] at h; have := h2 i o h; omega

theorem pv_nil {φ : Phi} {A : Nat → Prop} {w : World} {l : List Nat} {ps : List PV} {a : Nat → Value} (h : RelVs φ A w ps (l.map a)) (t : Nat) (ht : t ∉ l) (v : Value) : RelV φ A w (look l ps t) v := by
  induction l generalizing ps with
  | nil => unfold look; exact RelV_any ..
  | cons u l ih =>
    cases ps with
    | nil => unfold look; exact RelV_any ..
    | cons p ps =>
      simp only [RelVs, List.map_cons] at h
      obtain ⟨x, xs, e, h1, h2⟩ := h
      injection e with e1 e2
      subst e2
      unfold look
      rw [show Nat.beq t u = false from by rw [Bool.eq_false_iff]; intro e; exact ht (Nat.eq_of_beq_eq_true e ▸ List.mem_cons_self ..)]
      exact ih h2 (fun h => ht (List.mem_cons_of_mem _ h))

/-- What is looked up is what the function hands back. -/
def ResOk (P : Program) (fn : Func) (vs : St → Option (List PV)) : Prop :=
  ∀ s l, vs s = some l → ∀ (E : Env) (n : Nat) (φ : Phi) (A : Nat → Prop) (a : Act) (w : World), R E n φ A s a w →
    ∃ vals, (fn.results.toList.mapM fun
      | .tmp t => pure (a.tmps.getD t undef)
      | .cell x t => do loadVar t (← asAddr (a.tmps.getD x undef)) : Sem (List Value)).run P w = .ok vals w ∧ RelVs φ A w l vals

theorem loadAt_ok {P : Program} {t : TypeId} {v mv : Value} {w : World} (h : (Instr.loadAt t v).run P w = .ok mv w) : (do loadVar t (← asAddr v) : Sem Value).run P w = .ok mv w := by
  unfold Instr.loadAt at h
  cases v with
  | pointer o => cases o with
    | some ad => exact h
    | none => exact absurd h (by rw [run_bind']; simp [Instr.sureAddr, stuck])
  | _ => exact absurd h (by rw [run_bind']; simp [Instr.sureAddr, stuck])

theorem resOk_tmps {P : Program} {fn : Func} {r : List Nat} (h : tmpsB fn.results.toList r = true) : ResOk P fn (fun s => some (tmsOf s.tm r)) := by
  intro s l hl E n φ A a w hR
  simp only [Option.some.injEq] at hl
  subst hl
  generalize fn.results.toList = L at h
  induction L generalizing r with
  | nil => cases r with
    | nil => exact ⟨[], rfl, by simp [tmsOf, RelVs]⟩
    | cons i r => cases h
  | cons x L ih => cases x with
    | tmp t => cases r with
      | nil => cases h
      | cons i r =>
        simp only [tmpsB, Bool.and_eq_true] at h
        obtain ⟨vals, h1, h2⟩ := ih h.2
        refine ⟨a.tmps.getD t undef :: vals, ?_, ?_⟩
        · rw [List.mapM_cons, run_bind']
          simp only [run_pure]
          rw [run_bind', h1]
          rfl
        · simp only [tmsOf, RelVs]
          rw [Nat.eq_of_beq_eq_true h.1]
          exact ⟨_, _, rfl, hR.tm i, h2⟩
    | cell x t => cases r <;> cases h

theorem resOk_cells {P : Program} {fn : Func} : ResOk P fn (fun s => resPV P s fn.results.toList) := by
  intro s l hl E n φ A a w hR
  generalize fn.results.toList = L at hl ⊢
  induction L generalizing l with
  | nil =>
    simp only [resPV, Option.some.injEq] at hl; subst hl
    exact ⟨[], rfl, by simp [RelVs]⟩
  | cons x L ih => cases x with
    | tmp t =>
      simp only [resPV] at hl
      cases hr : resPV P s L with
      | none => rw [hr] at hl; cases hl
      | some r =>
        rw [hr] at hl
        simp only [Option.map_some, Option.some.injEq] at hl; subst hl
        obtain ⟨vals, h1, h2⟩ := ih _ hr
        refine ⟨a.tmps.getD t undef :: vals, ?_, ?_⟩
        · rw [List.mapM_cons, run_bind']
          simp only [run_pure]
          rw [run_bind', h1]
          rfl
        · simp only [RelVs]
          exact ⟨_, _, rfl, hR.tm t, h2⟩
    | cell x t =>
      simp only [resPV] at hl
      split at hl
      · rename_i p hp
        split at hl
        · rename_i v hv
          cases hr : resPV P s L with
          | none => rw [hr] at hl; cases hl
          | some r =>
            rw [hr] at hl
            simp only [Option.map_some, Option.some.injEq] at hl; subst hl
            obtain ⟨vals, h1, h2⟩ := ih _ hr
            have hx := hR.tm x
            rw [hp] at hx
            simp only [RelV] at hx
            obtain ⟨mv, h3, h4⟩ := readAt_sound hv hR.obs.rel hx
            refine ⟨mv :: vals, ?_, ?_⟩
            · rw [List.mapM_cons, run_bind']
              simp only []
              rw [loadAt_ok h3]
              simp only []
              rw [run_bind', h1]
              rfl
            · simp only [RelVs]
              exact ⟨_, _, rfl, h4, h2⟩
        · cases hl
      · cases hl

theorem outPV_rel {P : Program} {fn : Func} {g : Sg} {y : g.D} {φ : Phi} {A : Nat → Prop} {w : World} {a : Act} {vs : List Value} (hrun : (fn.results.toList.mapM fun
      | .tmp t => pure (a.tmps.getD t undef)
      | .cell x t => do loadVar t (← asAddr (a.tmps.getD x undef)) : Sem (List Value)).run P w = .ok vs w) (hv : RelVs φ A w (g.vals y) vs) :
    ∃ v, (results fn a.tmps).run P w = .ok v w ∧ RelV φ A w (outPV (g.vals y)) v := by
  refine ⟨if h : vs.length = 1 then vs[0] else .tuple ⟨vs⟩, ?_, ?_⟩
  · unfold results
    rw [Array.mapM_eq_mapM_toList, run_bind']
    have e : ∀ m : Sem (List Value), m.run P w = .ok vs w → (List.toArray <$> m).run P w = .ok vs.toArray w := fun m hm => by
      rw [map_eq_pure_bind, run_bind', hm]; rfl
    erw [e _ hrun]
    simp only [run_pure]
    congr 1
  · generalize g.vals y = ps at hv
    cases ps with
    | nil =>
      simp only [RelVs] at hv; subst hv
      simp only [outPV, RelV]
      exact ⟨[], by simp, by simp [RelVs]⟩
    | cons p ps =>
      cases ps with
      | nil =>
        simp only [RelVs] at hv
        obtain ⟨v, vs', e, h1, h2⟩ := hv
        subst h2; subst e
        simp only [outPV]
        simpa using h1
      | cons p2 ps =>
        have hl := hv.get
        simp only [outPV, RelV]
        refine ⟨vs, ?_, hv⟩
        rw [dif_neg (by rw [hl]; simp)]

theorem encOs_len {ln : Nat → Nat} : ∀ {ts : List (Option OTy)} {x : dnOs ts}, (encOs ln ts x).length = ts.length
  | [], _ => rfl
  | none :: ts, x => by simp only [encOs, List.length_cons]; rw [encOs_len]
  | some t :: ts, x => by simp only [encOs, List.length_cons]; rw [encOs_len]

theorem encOs_none {ln : Nat → Nat} : ∀ {ts : List (Option OTy)} {x : dnOs ts} {i : Nat}, ts[i]? = some none → hlOut (encOs ln ts x) i = none
  | [], _, _, h => by simp at h
  | none :: ts, x, 0, _ => rfl
  | some t :: ts, x, 0, h => by simp at h
  | none :: ts, x, i + 1, h => by
    rw [List.getElem?_cons_succ] at h
    have := encOs_none (ln := ln) (ts := ts) (x := x) h
    simpa only [hlOut, encOs, List.getElem?_cons_succ] using this
  | some t :: ts, x, i + 1, h => by
    rw [List.getElem?_cons_succ] at h
    have := encOs_none (ln := ln) (ts := ts) (x := (t.enc ln (dnOs ts) x).2) h
    simpa only [hlOut, encOs, List.getElem?_cons_succ] using this

/-- A mark's block is shut: nothing that is spoken of turns. -/
theorem shut_ext {φ : Phi} {A : Nat → Prop} {w : World} {D : Nat} (hD : w.heap[D]? = some (.deferred (some []))) : ExtC φ φ A A w (w.putObj D (.deferred none)) :=
  ⟨fun _ _ h => h, by simp, fun _ _ h => h, fun k _ _ o s => by
    by_cases e : k = D
    · subst e
      have h1 : (w.putObj k (.deferred none)).heap[k]? = some (.deferred none) := World.putObj_heap_same (Array.getElem?_eq_some_iff.1 hD).1
      unfold World.cell?
      simp only [h1, hD]
    · exact cell_of_heap (World.putObj_heap_other e) o s⟩

theorem R.shut {P : Program} {E : Env} {n : Nat} {φ : Phi} {A : Nat → Prop} {s : St} {a : Act} {w : World} (h : R E n φ A s a w) {d : Deferred} {ds : List Deferred} (hd : a.defers = d :: ds) :
    ∃ D, d.target = .collected D ∧ ∃ w', (Instr.takeDeferred D).run P w = .ok [] w' ∧ R E n φ A s { a with defers := ds } w' := by
  obtain ⟨Ds, hn, he, hall⟩ := h.defers
  cases Ds with
  | nil => rw [hd] at he; cases he
  | cons D Ds =>
    rw [hd, List.map_cons] at he
    simp only [List.cons.injEq] at he
    obtain ⟨he1, he2⟩ := he
    obtain ⟨d1, d2, d3, d4⟩ := hall D List.mem_cons_self
    have hx : ExtC φ φ A A w (w.putObj D (.deferred none)) := shut_ext d4
    have hoth : ∀ k, k ≠ D → (w.putObj D (.deferred none)).heap[k]? = w.heap[k]? := fun k hk => World.putObj_heap_other hk
    refine ⟨D, by rw [he1]; rfl, w.putObj D (.deferred none), run_takeDeferred d4, ?_, h.size, fun t => (h.tm t).extC hx, ⟨fun o x hx' => ?_, h.obs.inj, h.obs.nx⟩, ?_, h.inc⟩
    · refine ⟨Ds, (List.nodup_cons.1 hn).2, he2, fun D' hD' => ?_⟩
      obtain ⟨e1, e2, e3, e4⟩ := hall D' (List.mem_cons_of_mem _ hD')
      exact ⟨e1, e2, by simpa using e3, (hoth D' (fun e => (List.nodup_cons.1 hn).1 (e ▸ hD'))).trans e4⟩
    · obtain ⟨b, hb, hrel, hreg⟩ := h.obs.ob o x hx'
      exact ⟨b, hb, hrel.extC hx (fun hO => ⟨(h.obs.lt hx' hb hO).2, hoth _ (fun e => d1 (e ▸ (h.obs.lt hx' hb hO).2))⟩), hreg⟩
    · exact ⟨by simpa using h.frm.size, fun k hk hO => (hoth k (by omega)).trans (h.frm.heap k hk hO), h.frm.out, h.frm.keep, h.frm.os, h.frm.tape, h.frm.output, h.frm.gl⟩

/-- On the way out all marks are shut. -/
theorem leaves_marks {P : Program} {fn : Func} {Rr : Ending → World → Prop} {F : Fence} {m : Nat} {E : Env} {n : Nat} {φ : Phi} {A : Nat → Prop} {s : St} (t : Array Value) : ∀ (ds : List Deferred) (w : World), R E n φ A s { tmps := t, defers := ds } w →
    (∀ w', R E n φ A s { tmps := t, defers := [] } w' → LeavesIn F m P fn t Rr [] .returning w') → LeavesInM F m P fn t Rr ds .returning w
  | [], w, h, k => k w h
  | d :: ds, w, h, k => by
    obtain ⟨D, h1, w', h2, h3⟩ := h.shut (P := P) rfl
    exact ⟨by simp, .inl ⟨D, w', h1, h2, leaves_marks t ds w' h3 k⟩⟩

theorem fn_okV {any : Bool} {P : Program} {g : FuncId} {fn : Func} {c : Code} {fx : List Bool} {gi : Sg} {gos : List Sg} (F : FnFits P g fn c fx gi gos) {vs : St → Option (List PV)} (hres : ResOk P fn vs) {O : Orc (alt gos)} (hO : OrcOk P O) (hmix : P.follows .mixedOrders = true) {p : Plan} (hp : PlanOk P fn.ntmps fx any p c)
    {x : gi.D} {y : alt gos} (h : ev P O fn.ntmps fx c p (gi.st x) (fnKV vs fx gos) = some y) {args : List PV} {hl : List Ob} {q : List (Nat × Nat)} (hin : packIn gi args hl = some (q, x)) (hq : Eqs q) : FnOk P g args hl (altOut gos y) := by
  intro φ A w vals hv hob hglb
  unfold packIn at hin
  cases hlen : Nat.beq hl.length gi.os.length with
  | false => rw [hlen] at hin; cases hin
  | true =>
    rw [hlen] at hin; simp only [cond] at hin
    have hlen := Nat.eq_of_beq_eq_true hlen
    obtain ⟨φ2, hφ2, _, hv2, hob2⟩ := packV_sound (tn := gi.tn) hin hq sig0_nodup.1 (by rw [sig0_len]; exact hlen) hob hv
    have hphi : ∀ i, i < gi.os.length → φ2 i = φ i := fun i hi => by
      rw [hφ2 i i (by have := sig0_get (n := hl.length) (k := 0) (i := i) (m := hl.length) (by omega) (by omega); simpa using this)]
    have hsome : ∀ i, i < hl.length → ∃ b, φ i = some b := fun i hi => by
      obtain ⟨b, hb, _⟩ := hob.ob i hl[i] (by unfold hlOf; exact List.getElem?_eq_getElem hi)
      exact ⟨b, hb⟩
    let E : Env := ⟨w, Owned φ (hlOf hl), A, fun φ' => ∀ i : Nat, fx[i]? = some true → φ' i = φ i, fun φ' φ'' hs hi i h => by
      obtain ⟨b, hb⟩ := hsome i (by have h1 := (List.getElem?_eq_some_iff.1 h).1; have h2 := F.hfx; omega)
      rw [hb]; exact hs i b ((hi i h).trans hb), fx, fun φ' φ'' hs hi i h => (hs i h).trans (hi i h)⟩
    have hob3 : ROb E φ2 A (hlOut (gi.objs x)) gi.os.length w := ⟨hob2.ob, hob2.inj, hob2.nx⟩
    have hF : Frm E A w := ⟨Nat.le_refl _, fun _ _ _ => rfl, fun _ _ h => h, fun _ _ h _ => h, rfl, rfl, rfl, hglb⟩
    have hvl : vals.length = gi.tt.length := by
      rw [RelVs.get hv2]; exact encPs_len
    have hR : R E fn.ntmps φ2 A (gi.st x) { tmps := (⟨vals⟩ : Array Value) ++ Array.replicate (fn.ntmps - (⟨vals⟩ : Array Value).size) undef, defers := [] } w := by
      refine ⟨Marks.nil _ _ _, ?_, fun t => ?_, hob3, hF, fun i hi => hphi i (by have h1 := (List.getElem?_eq_some_iff.1 hi).1; have h2 := F.hfx; omega)⟩
      · have := F.len
        simp only [Array.size_append, List.size_toArray, Array.size_replicate]; omega
      · have hmap : vals = (gi.tn.map fun t => ((⟨vals⟩ : Array Value) ++ Array.replicate (fn.ntmps - (⟨vals⟩ : Array Value).size) undef).getD t undef) := by
          apply List.ext_getElem?
          intro i
          rw [List.getElem?_map, F.tn]
          rcases Nat.lt_or_ge i gi.tt.length with hi | hi
          · rw [iota_get hi]
            simp only [Option.map_some, Nat.zero_add, Array.getD_eq_getD_getElem?]
            rw [Array.getElem?_append_left (by simpa using (by omega : i < vals.length))]
            rw [List.getElem?_toArray, List.getElem?_eq_getElem (by omega)]; rfl
          · rw [List.getElem?_eq_none (by omega)]
            have : (iota gi.tt.length 0)[i]? = none := by
              have hl : ∀ n k, (iota n k).length = n := fun n => by
                induction n with
                | zero => intro k; rfl
                | succ n ih => intro k; rw [iota, List.length_cons, ih]
              exact List.getElem?_eq_none (by rw [hl]; omega)
            rw [this]; rfl
        have hv3 := hv2
        rw [hmap] at hv3
        exact look_rel (a := fun t => ((⟨vals⟩ : Array Value) ++ Array.replicate (fn.ntmps - (⟨vals⟩ : Array Value).size) undef).getD t undef) hv3 t
    refine callsIn_wide.1 (callsIn_of_wp_marks (F := fen none) (n := 0) F.hfn F.body trivial ?_ rfl)
    refine ev_sound (rd := none) (.inr rfl) hO hmix (E := E) rfl c hp h hR fun e s φ' A' a w' hK hR' => ?_
    have key : ∀ e', ((vs s).bind fun l => altPk fx s l gos some) = some y → (e' = Exit.normal ∨ e' = .ret) → bodyPostM (fen none) 0 P fn (fun e w' => ∃ φ' A' v, e = .returned v ∧ RelV φ' A' w' (altOut gos y).1 v ∧ ROb (envOf φ A w (hlOf hl)) φ' A' (hlOut (altOut gos y).2) (altOut gos y).2.length w' ∧ Frm (envOf φ A w (hlOf hl)) A' w' ∧ ∀ i, i < hl.length → φ' i = φ i) e' a w' := fun e' hpk he' => by
      cases hvl : vs s with
      | none => rw [hvl] at hpk; cases hpk
      | some l =>
      rw [hvl] at hpk
      simp only [Option.bind_some] at hpk
      obtain ⟨z, e1, go, hgm, q', y', hy', hq', hao⟩ := altPk_spec hpk
      simp only [Option.some.injEq] at e1; subst e1
      rw [hao]
      suffices hs : LeavesInM (fen none) 0 P fn a.tmps (fun e w' => ∃ φ' A' v, e = .returned v ∧ RelV φ' A' w' (outOf go y').1 v ∧ ROb (envOf φ A w (hlOf hl)) φ' A' (hlOut (outOf go y').2) (outOf go y').2.length w' ∧ Frm (envOf φ A w (hlOf hl)) A' w' ∧ ∀ i, i < hl.length → φ' i = φ i) a.defers .returning w' by
        rcases he' with rfl | rfl <;> exact hs
      refine leaves_marks a.tmps a.defers w' hR' fun w' hR' => ?_
      obtain ⟨rvals, hrun, hrel⟩ := hres s l hvl E _ _ _ _ _ hR'
      obtain ⟨φ3, A3, hO3, hF3, hA3, hI3, hfree, hvs⟩ := packW_sound hy' hq' (E := E) rfl hR'.obs hR'.frm hR'.inc hrel
      obtain ⟨v, hv1, hv2⟩ := outPV_rel (P := P) (fn := fn) hrun hvs
      have hgl : (outOf go y').2.length = go.os.length := encOs_len
      obtain ⟨hl1, hl2⟩ := looseB_spec (List.all_eq_true.1 F.hgo go hgm)
      have hfx := F.hfx
      let φ4 : Phi := fun i => if i < hl.length then φ i else φ3 i
      have hφ4 : ∀ i, hl.length ≤ i → φ4 i = φ3 i := fun i hi => by show (if i < hl.length then φ i else φ3 i) = φ3 i; rw [if_neg (by omega)]
      have hφ4' : ∀ i, i < hl.length → φ4 i = φ i := fun i hi => by show (if i < hl.length then φ i else φ3 i) = φ i; rw [if_pos hi]
      have hcase : ∀ i, i < hl.length → fx[i]? = some true ∨ fx[i]? = some false := fun i hi => by
        rw [List.getElem?_eq_getElem (by omega)]
        cases fx[i] <;> simp
      have h34 : ∀ o b, φ3 o = some b → φ4 o = some b := fun o b hb => by
        rcases Nat.lt_or_ge o hl.length with ho | ho
        · rcases hcase o ho with h1 | h1
          · rw [hφ4' o ho, ← hI3 o h1]; exact hb
          · rw [hfree rfl o h1] at hb; cases hb
        · rw [hφ4 o ho]; exact hb
      have hext : Ext φ3 φ4 A3 A3 w' w' := ⟨h34, Nat.le_refl _, fun _ _ h => h, fun _ _ _ => rfl⟩
      have hob4 : ROb (envOf φ A w (hlOf hl)) φ4 A3 (hlOut (go.objs y')) go.os.length w' := by
        have hback : ∀ o x b, hlOut (go.objs y') o = some x → φ4 o = some b → φ3 o = some b := fun o x b hx hb => by
          obtain ⟨b', hb', _⟩ := hO3.ob o x hx
          rw [h34 o b' hb'] at hb
          rw [hb']; exact hb
        refine ⟨fun o x hx => ?_, fun o o' x x' b b' hx hx' hb hb' => hO3.inj o o' x x' b b' hx hx' (hback o x b hx hb) (hback o' x' b' hx' hb'), fun o ho => ?_⟩
        · obtain ⟨b, hb, hrel, hreg⟩ := hO3.ob o x hx
          exact ⟨b, h34 o b hb, RelOb.ext hext (fun hO => ⟨(hO3.lt hx hb hO).2, rfl⟩) hrel, hreg⟩
        · rw [hφ4 o (by omega)]; exact hO3.nx o ho
      have : ∃ v, (results fn a.tmps).run P w' = .ok v w' ∧ ∃ φ' A' v', Ending.returned v = .returned v' ∧ RelV φ' A' w' (outOf go y').1 v' ∧ ROb (envOf φ A w (hlOf hl)) φ' A' (hlOut (outOf go y').2) (outOf go y').2.length w' ∧ Frm (envOf φ A w (hlOf hl)) A' w' ∧ ∀ i, i < hl.length → φ' i = φ i :=
        ⟨v, hv1, φ4, A3, v, rfl, hv2.ext hext, by rw [hgl]; exact hob4, ⟨hF3.size, hF3.heap, hF3.out, hF3.keep, hF3.os, hF3.tape, hF3.output, hglb⟩, hφ4'⟩
      exact this
    unfold fnKV at hK
    split at hK
    · exact key _ hK (.inl rfl)
    · exact key _ hK (.inr rfl)
    · cases hK

theorem fn_ok {any : Bool} {P : Program} {g : FuncId} {fn : Func} {c : Code} {fx : List Bool} {gi : Sg} {gos : List Sg} (F : FnFits P g fn c fx gi gos) (hres : tmpsB fn.results.toList (tnOf gos) = true) {O : Orc (alt gos)} (hO : OrcOk P O) (hmix : P.follows .mixedOrders = true) {p : Plan} (hp : PlanOk P fn.ntmps fx any p c)
    {x : gi.D} {y : alt gos} (h : ev P O fn.ntmps fx c p (gi.st x) (fnK fx gos) = some y) {args : List PV} {hl : List Ob} {q : List (Nat × Nat)} (hin : packIn gi args hl = some (q, x)) (hq : Eqs q) : FnOk P g args hl (altOut gos y) :=
  fn_okV F (resOk_tmps hres) hO hmix hp h hin hq
end Go.Ev
