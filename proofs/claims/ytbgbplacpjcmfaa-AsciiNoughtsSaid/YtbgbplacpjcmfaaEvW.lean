/- Part of a proof about the given program: EvW. -/
import Derived.Test.YtbgbplacpjcmfaaEvV
namespace Go.Ev

/-! # A frame's state as holes -/
structure Sg where
  tn : List Nat
  tt : List PTy
  os : List (Option OTy)

abbrev Sg.D (g : Sg) : Type := dnPs g.tt (dnOs g.os)

def look : List Nat → List PV → Nat → PV
  | t :: ts, p :: ps, i => cond (Nat.beq i t) p (look ts ps i)
  | _, _, _ => anyV

def Sg.rest (g : Sg) (x : g.D) : dnOs g.os := (encPs (fun _ => 0) g.tt (dnOs g.os) x).2
def Sg.ln (g : Sg) (x : g.D) : Nat → Nat := lnL (encOs (fun _ => 0) g.os (g.rest x))
def Sg.vals (g : Sg) (x : g.D) : List PV := (encPs (g.ln x) g.tt (dnOs g.os) x).1
def Sg.objs (g : Sg) (x : g.D) : List (Option Ob) := encOs (g.ln x) g.os (g.rest x)
def Sg.st (g : Sg) (x : g.D) : St := ⟨look g.tn (g.vals x), hlOut (g.objs x), g.os.length⟩

/-- The same, made plain. -/
def Sg.fst {α : Type} (g : Sg) (x : g.D) (K : St → α) : α := fPVs (g.vals x) fun vs => fObs (g.objs x) fun os => fNat g.os.length fun n => K ⟨look g.tn vs, hlOut os, n⟩
theorem Sg.fst_eq {α : Type} (g : Sg) (x : g.D) (K : St → α) : g.fst x K = K (g.st x) := by
  unfold Sg.fst Sg.st
  simp only [fPVs_eq, fObs_eq, fNat_eq]

def idxS (o : Nat) : List (Option Nat) → Option Nat
  | [] => none
  | some x :: l => cond (Nat.beq x o) (some 0) (match idxS o l with | some i => some (i + 1) | none => none)
  | none :: l => match idxS o l with | some i => some (i + 1) | none => none
def nodupS : List (Option Nat) → Bool
  | [] => true
  | some x :: l => (match idxS x l with | none => true | some _ => false) && nodupS l
  | none :: l => nodupS l
/-- What came in and keeps its number does; what came in and may be taken over is behind a function no longer named by its old number. -/
def preOk (ex : Bool) (σ : List (Option Nat)) : List Bool → Nat → Bool
  | [], _ => true
  | b :: fx, k => (cond b (match σ[k]? with | some (some i) => Nat.beq i k | _ => false) (cond ex (match σ[k]? with | some (some _) => false | _ => true) true)) && preOk ex σ fx (k + 1)
def sigF : List Bool → Nat → Nat → List (Option Nat)
  | _, 0, _ => []
  | [], n + 1, k => none :: sigF [] n (k + 1)
  | b :: fx, n + 1, k => cond b (some k) none :: sigF fx n (k + 1)
def sig0 (m : Nat) : Nat → Nat → List (Option Nat)
  | 0, _ => []
  | n + 1, k => cond (Nat.blt k m) (some k) none :: sig0 m n (k + 1)
def objsS (f : Nat → Option Ob) (r : Nat → Option Nat) : List (Option Nat) → List (Option Ob)
  | [] => []
  | some o :: l => (match f o with | some x => some (renOb r x) | none => none) :: objsS f r l
  | none :: l => none :: objsS f r l
def tmsOf (tm : Nat → PV) : List Nat → List PV
  | [] => []
  | t :: l => tm t :: tmsOf tm l

abbrev Pk (α : Type) := Option (List (Nat × Nat) × α)

def packV (os : List (Option OTy)) (tt : List PTy) (ps : List PV) (σ : List (Option Nat)) (bs : List (Option Ob)) : Pk (dnPs tt (dnOs os)) :=
  match decOs (lnL (keepO os bs)) os bs with
  | some xo => match decPs (lnL (keepO os bs)) tt (dnOs os) (renVs (fun o => idxS o σ) ps) xo with
    | some x => some (chkPs (lnL (keepO os bs)) tt (renVs (fun o => idxS o σ) ps) ++ chkOs (lnL (keepO os bs)) os bs, x)
    | none => none
  | none => none

def packW (ex : Bool) (fx : List Bool) (g : Sg) (s : St) (l : List PV) : Pk g.D :=
  match convPs g.tt l ⟨s.ob, s.nx, sigF fx g.os.length 0⟩ with
  | some (ps, v) => match convOs g.os 0 v with
    | some v => fSig v.σ fun σ => fPVs ps fun ps => fObs (objsS v.f (fun o => idxS o σ) σ) fun bs => cond (preOk ex σ fx 0 && nodupS σ && Nat.beq σ.length g.os.length) (packV g.os g.tt ps σ bs) none
    | none => none
  | none => none
def packS (ex : Bool) (fx : List Bool) (g : Sg) (s : St) : Pk g.D := packW ex fx g s (tmsOf s.tm g.tn)

/-- Behind a packing: what is to be equal is looked at first. -/
def eqs {α : Type} : List (Nat × Nat) → Option α → Option α
  | [], k => k
  | (a, b) :: l, k => if a = b then eqs l k else none
def Pk.then {α β : Type} (p : Pk α) (K : α → Option β) : Option β := match p with | some (q, x) => eqs q (K x) | none => none

theorem eqs_spec {α : Type} : ∀ {l : List (Nat × Nat)} {k : Option α} {r : α}, eqs l k = some r → Eqs l ∧ k = some r
  | [], _, _, h => ⟨(fun _ hp => by cases hp), h⟩
  | (a, b) :: l, k, r, h => by
    unfold eqs at h
    split at h
    · rename_i e
      obtain ⟨h1, h2⟩ := eqs_spec h
      exact ⟨fun p hp => by
        rcases List.mem_cons.1 hp with h | h
        · rw [h]; exact e
        · exact h1 p h, h2⟩
    · cases h
theorem Pk.then_spec {α β : Type} {p : Pk α} {K : α → Option β} {r : β} (h : p.then K = some r) : ∃ q x, p = some (q, x) ∧ Eqs q ∧ K x = some r := by
  unfold Pk.then at h
  split at h
  · rename_i q x
    obtain ⟨h1, h2⟩ := eqs_spec h
    exact ⟨q, x, rfl, h1, h2⟩
  · cases h

theorem idxS_get {o : Nat} : ∀ {l : List (Option Nat)} {i : Nat}, idxS o l = some i → l[i]? = some (some o)
  | [], _, h => by cases h
  | none :: l, i, h => by
    simp only [idxS] at h
    split at h
    · rename_i j hj
      simp only [Option.some.injEq] at h
      rw [← h, List.getElem?_cons_succ]; exact idxS_get hj
    · cases h
  | some x :: l, i, h => by
    unfold idxS at h
    cases hb : Nat.beq x o with
    | true =>
      rw [hb] at h; simp only [cond, Option.some.injEq] at h
      rw [← h, Nat.eq_of_beq_eq_true hb]; rfl
    | false =>
      rw [hb] at h; simp only [cond] at h
      split at h
      · rename_i j hj
        simp only [Option.some.injEq] at h
        rw [← h, List.getElem?_cons_succ]; exact idxS_get hj
      · cases h

theorem idxS_none {o : Nat} : ∀ {l : List (Option Nat)}, idxS o l = none → ∀ i : Nat, l[i]? ≠ some (some o)
  | [], _, i => by simp
  | none :: l, h, i => by
    simp only [idxS] at h
    split at h
    · cases h
    · rename_i hn
      cases i with
      | zero => simp
      | succ i => rw [List.getElem?_cons_succ]; exact idxS_none hn i
  | some x :: l, h, i => by
    unfold idxS at h
    cases hb : Nat.beq x o with
    | true => rw [hb] at h; cases h
    | false =>
      rw [hb] at h; simp only [cond] at h
      split at h
      · cases h
      · rename_i hn
        cases i with
        | zero =>
          simp only [List.getElem?_cons_zero, ne_eq, Option.some.injEq]
          intro e; rw [e, Nat.beq_refl] at hb; cases hb
        | succ i => rw [List.getElem?_cons_succ]; exact idxS_none hn i

theorem nodupS_inj : ∀ {l : List (Option Nat)}, nodupS l = true → ∀ (i j o : Nat), l[i]? = some (some o) → l[j]? = some (some o) → i = j
  | [], _, i, j, o, h, _ => by simp at h
  | none :: l, h, i, j, o, hi, hj => by
    cases i with
    | zero => simp at hi
    | succ i =>
      cases j with
      | zero => simp at hj
      | succ j =>
        rw [List.getElem?_cons_succ] at hi hj
        rw [nodupS_inj (l := l) (by simpa only [nodupS] using h) i j o hi hj]
  | some x :: l, h, i, j, o, hi, hj => by
    simp only [nodupS, Bool.and_eq_true] at h
    have hx : ∀ k : Nat, l[k]? ≠ some (some x) := by
      cases hi : idxS x l with
      | none => exact idxS_none hi
      | some k => rw [hi] at h; simp at h
    cases i with
    | zero =>
      simp only [List.getElem?_cons_zero, Option.some.injEq] at hi
      subst hi
      cases j with
      | zero => rfl
      | succ j => rw [List.getElem?_cons_succ] at hj; exact absurd hj (hx j)
    | succ i =>
      cases j with
      | zero =>
        simp only [List.getElem?_cons_zero, Option.some.injEq] at hj
        subst hj
        rw [List.getElem?_cons_succ] at hi; exact absurd hi (hx i)
      | succ j =>
        rw [List.getElem?_cons_succ] at hi hj
        rw [nodupS_inj h.2 i j o hi hj]

theorem preOk_spec {ex : Bool} {σ : List (Option Nat)} : ∀ {fx : List Bool} {k : Nat}, preOk ex σ fx k = true → ∀ (i : Nat) (b : Bool), fx[i]? = some b → (b = true → σ[k + i]? = some (some (k + i))) ∧ (b = false → ex = true → ∀ o, σ[k + i]? ≠ some (some o))
  | [], _, _, i, b, h => by simp at h
  | c :: fx, k, h, i, b, hi => by
    simp only [preOk, Bool.and_eq_true] at h
    cases i with
    | succ i =>
      rw [List.getElem?_cons_succ] at hi
      have := preOk_spec h.2 i b hi
      rw [show k + 1 + i = k + (i + 1) by omega] at this
      exact this
    | zero =>
      simp only [List.getElem?_cons_zero, Option.some.injEq] at hi
      subst hi
      have h1 := h.1
      cases c with
      | true =>
        simp only [cond] at h1
        refine ⟨fun _ => ?_, fun h => by cases h⟩
        split at h1
        · rename_i j hj
          rw [Nat.eq_of_beq_eq_true h1] at hj; exact hj
        · cases h1
      | false =>
        refine ⟨fun h => by (cases h), fun _ he o ho => ?_⟩
        subst he
        simp only [cond, Nat.add_zero] at h1 ho
        rw [ho] at h1; cases h1

theorem objsS_get {f : Nat → Option Ob} {r : Nat → Option Nat} : ∀ {l : List (Option Nat)} {i : Nat} {x : Ob}, hlOut (objsS f r l) i = some x → ∃ o y, l[i]? = some (some o) ∧ f o = some y ∧ x = renOb r y
  | [], i, x, h => by simp [objsS, hlOut] at h
  | none :: l, i, x, h => by
    cases i with
    | zero => simp [objsS, hlOut] at h
    | succ i => obtain ⟨o, y, h1, h2⟩ := objsS_get (l := l) (i := i) (x := x) (by simpa only [objsS, hlOut, List.getElem?_cons_succ] using h); exact ⟨o, y, by rw [List.getElem?_cons_succ]; exact h1, h2⟩
  | some o :: l, i, x, h => by
    cases i with
    | zero =>
      simp only [objsS, hlOut, List.getElem?_cons_zero] at h
      split at h
      · rename_i y hy
        simp only [Option.some.injEq] at h
        exact ⟨o, y, rfl, hy, h.symm⟩
      · cases h
    | succ i => obtain ⟨o, y, h1, h2⟩ := objsS_get (l := l) (i := i) (x := x) (by simpa only [objsS, hlOut, List.getElem?_cons_succ] using h); exact ⟨o, y, by rw [List.getElem?_cons_succ]; exact h1, h2⟩

theorem tmsOf_rel {φ : Phi} {A : Nat → Prop} {w : World} {tm : Nat → PV} {a : Nat → Value} (h : ∀ t, RelV φ A w (tm t) (a t)) : ∀ l : List Nat, RelVs φ A w (tmsOf tm l) (l.map a)
  | [] => by simp [tmsOf, RelVs]
  | t :: l => by simp only [tmsOf, RelVs, List.map_cons]; exact ⟨_, _, rfl, h t, tmsOf_rel h l⟩

theorem look_rel {φ : Phi} {A : Nat → Prop} {w : World} {a : Nat → Value} : ∀ {l : List Nat} {ps : List PV}, RelVs φ A w ps (l.map a) → ∀ i, RelV φ A w (look l ps i) (a i)
  | [], _, _, i => by unfold look; exact RelV_any ..
  | t :: l, [], h, i => by unfold look; exact RelV_any ..
  | t :: l, p :: ps, h, i => by
    simp only [RelVs, List.map_cons] at h
    obtain ⟨v, vs, e, h1, h2⟩ := h
    injection e with e1 e2
    subst e1; subst e2
    unfold look
    cases hb : Nat.beq i t with
    | true => rw [Nat.eq_of_beq_eq_true hb]; exact h1
    | false => exact look_rel h2 i

/-- What is packed says what was there, the objects renamed. -/
theorem packV_sound {os : List (Option OTy)} {tt : List PTy} {tn : List Nat} {ps : List PV} {σ : List (Option Nat)} {f : Nat → Option Ob} {nx : Nat} {x : dnPs tt (dnOs os)} {q : List (Nat × Nat)}
    (h : packV os tt ps σ (objsS f (fun o => idxS o σ) σ) = some (q, x)) (hq : Eqs q) (hnd : nodupS σ = true) (hlen : σ.length = os.length) {E : Env} {φ : Phi} {A : Nat → Prop} {w : World} (hR : ROb E φ A f nx w) {vals : List Value} (hv : RelVs φ A w ps vals) :
    ∃ φ2 : Phi, (∀ i o : Nat, σ[i]? = some (some o) → φ2 i = φ o) ∧ (∀ i : Nat, (∀ o : Nat, σ[i]? ≠ some (some o)) → φ2 i = none) ∧ RelVs φ2 A w (Sg.vals ⟨tn, tt, os⟩ x) vals ∧ ROb E φ2 A (hlOut (Sg.objs ⟨tn, tt, os⟩ x)) os.length w := by
  unfold packV at h
  split at h
  · rename_i xo hxo
    split at h
    case h_2 => cases h
    rename_i x' hx'
    simp only [Option.some.injEq, Prod.mk.injEq] at h
    obtain ⟨rfl, rfl⟩ := h
    obtain ⟨a1, a2⟩ := decPs_spec hx' hq.left
    obtain ⟨b0, b1, b2⟩ := decOs_spec hxo hq.right
    have hrest : Sg.rest ⟨tn, tt, os⟩ x' = xo := a1 _
    have hln : Sg.ln ⟨tn, tt, os⟩ x' = lnL (keepO os (objsS f (fun o => idxS o σ) σ)) := by
      funext i
      show lnL (encOs (fun _ => 0) os (Sg.rest ⟨tn, tt, os⟩ x')) i = _
      rw [hrest]; exact (b1 _).2 i
    let φ2 : Phi := fun i => match σ[i]? with | some (some o) => φ o | _ => none
    have hφ2 : ∀ i o : Nat, σ[i]? = some (some o) → φ2 i = φ o := fun i o hi => by
      show (match σ[i]? with | some (some o) => φ o | _ => none) = φ o
      rw [hi]
    have hgo : Goes φ φ2 (fun o => idxS o σ) := fun o i b hi hb => by rw [hφ2 i o (idxS_get hi)]; exact hb
    refine ⟨φ2, hφ2, fun i hi => ?_, ?_, ?_⟩
    · show (match σ[i]? with | some (some o) => φ o | _ => none) = none
      split
      · rename_i o ho; exact absurd ho (hi o)
      · rfl
    · unfold Sg.vals
      rw [hln]
      exact a2 _ _ _ _ (renVs_rel hgo hv)
    · unfold Sg.objs
      rw [hln, hrest]
      refine ⟨fun i x2 hx => ?_, fun i i' y y' b b' hy hy' hb hb' hO hO' he => ?_, fun i hi => ?_⟩
      · obtain ⟨z, hz, hw⟩ := b2 i x2 hx
        obtain ⟨o, u, ho, hu, rfl⟩ := objsS_get hz
        obtain ⟨b, hb, hrel, hreg⟩ := hR.ob o u hu
        refine ⟨b, by rw [hφ2 i o ho]; exact hb, hw.1 _ _ _ _ (renOb_rel hgo hrel), fun hO => hreg ?_⟩
        rw [← hw.2.1, renOb_owns] at hO; exact hO
      · obtain ⟨z, hz, hw⟩ := b2 i y hy
        obtain ⟨o, u, ho, hu, rfl⟩ := objsS_get hz
        obtain ⟨z', hz', hw'⟩ := b2 i' y' hy'
        obtain ⟨o', u', ho', hu', rfl⟩ := objsS_get hz'
        rw [hφ2 i o ho] at hb
        rw [hφ2 i' o' ho'] at hb'
        rw [← hw.2.1, renOb_owns] at hO
        rw [← hw'.2.1, renOb_owns] at hO'
        have hoo := hR.inj o o' u u' b b' hu hu' hb hb' hO hO' he
        subst hoo
        exact nodupS_inj hnd i i' o ho ho'
      · show (match σ[i]? with | some (some o) => φ o | _ => none) = none
        rw [List.getElem?_eq_none (by omega)]
  · cases h

theorem packW_sound {ex : Bool} {fx : List Bool} {g : Sg} {s : St} {l : List PV} {x : g.D} {q : List (Nat × Nat)} (h : packW ex fx g s l = some (q, x)) (hq : Eqs q) {E : Env} (hm : E.fx = fx) {φ : Phi} {A : Nat → Prop} {w : World} (hob : ROb E φ A s.ob s.nx w) (hfrm : Frm E A w) (hinc : E.inc φ) {vals : List Value} (hl : RelVs φ A w l vals) :
    ∃ φ' A', ROb E φ' A' (hlOut (g.objs x)) g.os.length w ∧ Frm E A' w ∧ (∀ k, k < w.heap.size → ¬ A k → ¬ A' k) ∧ E.inc φ' ∧ (ex = true → ∀ i : Nat, fx[i]? = some false → φ' i = none) ∧ RelVs φ' A' w (g.vals x) vals := by
  unfold packW at h
  simp only [fSig_eq, fPVs_eq, fObs_eq] at h
  split at h
  · rename_i ps v h1
    split at h
    · rename_i v2 h2
      cases hc : (preOk ex v2.σ fx 0 && nodupS v2.σ && Nat.beq v2.σ.length g.os.length) with
      | false => rw [hc] at h; cases h
      | true =>
        rw [hc] at h; simp only [cond] at h
        simp only [Bool.and_eq_true] at hc
        obtain ⟨φ1, A1, s1, r1⟩ := convPs_sound h1 hob hfrm hl
        obtain ⟨φ2, A2, s2⟩ := convOs_sound h2 s1.1.obs s1.1.frm
        obtain ⟨φ3, hφ3, hno, r3, o3⟩ := packV_sound (tn := g.tn) h hq hc.1.2 (Nat.eq_of_beq_eq_true hc.2) s2.obs (r1.ext s2.ext)
        refine ⟨φ3, A2, o3, s2.frm, fun k hk hA => s2.ext.out k hk (s1.1.ext.out k hk hA), ?_, fun he i hi => hno i (fun o => by have := (preOk_spec hc.1.1 i false hi).2 rfl he o; rwa [Nat.zero_add] at this), r3⟩
        refine E.loc φ2 φ3 (fun i hi => ?_) (E.mono φ φ2 (fun o b hb => s2.ext.phi o b (s1.1.ext.phi o b hb)) hinc)
        rw [hm] at hi
        exact hφ3 i i (by have := (preOk_spec hc.1.1 i true hi).1 rfl; rwa [Nat.zero_add] at this)
    · cases h
  · cases h

theorem packS_sound {ex : Bool} {fx : List Bool} {g : Sg} {s : St} {x : g.D} {q : List (Nat × Nat)} (h : packS ex fx g s = some (q, x)) (hq : Eqs q) {E : Env} (hm : E.fx = fx) {n : Nat} {φ : Phi} {A : Nat → Prop} {a : Act} {w : World} (hR : R E n φ A s a w) :
    ∃ φ' A', R E n φ' A' (g.st x) a w ∧ (ex = true → ∀ i : Nat, fx[i]? = some false → φ' i = none) ∧ RelVs φ' A' w (g.vals x) (g.tn.map fun t => a.tmps.getD t undef) := by
  obtain ⟨φ', A', h1, h2, h0, h3, h4, h5⟩ := packW_sound h hq hm hR.obs hR.frm hR.inc (tmsOf_rel hR.tm g.tn)
  exact ⟨φ', A', ⟨hR.defers.keep h0 (Nat.le_refl _) (fun _ _ _ => rfl), hR.size, fun t => look_rel (a := fun t => a.tmps.getD t undef) h5 t, h1, h2, h3⟩, h4, h5⟩

/-! # Ways out of a piece of code -/
abbrev Outs := List (Exit × Sg)
@[reducible] def outD : Outs → Type
  | [] => Empty
  | p :: l => p.2.D ⊕ outD l

def exB : Exit → Exit → Bool
  | .normal, .normal => true
  | .ret, .ret => true
  | .exit i, .exit j => Nat.beq i j
  | _, _ => false
theorem exB_spec : ∀ {a b : Exit}, exB a b = true → a = b
  | .normal, .normal, _ => rfl
  | .ret, .ret, _ => rfl
  | .exit i, .exit j, h => by rw [Nat.eq_of_beq_eq_true h]

def outK {Rt : Type} : (l : Outs) → (Exit → St → Option Rt) → outD l → Option Rt
  | [], _ => Empty.elim
  | p :: l, K => Sum.elim (fun x => p.2.fst x fun s => K p.1 s) (outK l K)

def injK {Rt : Type} (fx : List Bool) : (l : Outs) → (outD l → Option Rt) → Exit → St → Option Rt
  | [], _, _, _ => none
  | p :: l, K, e, s => cond (exB e p.1) (match packS false fx p.2 s with
    | some (q, x) => eqs q (K (.inl x))
    | none => injK fx l (fun x => K (.inr x)) e s) (injK fx l (fun x => K (.inr x)) e s)

/-- The machine stands at one of the ways out. -/
def atOut (E : Env) (n : Nat) : (l : Outs) → outD l → Exit → Act → World → Prop
  | [], x, _, _, _ => nomatch x
  | p :: _, .inl x, e, a, w => e = p.1 ∧ ∃ φ A, R E n φ A (p.2.st x) a w
  | _ :: l, .inr x, e, a, w => atOut E n l x e a w

theorem outK_sound {Rt : Type} {E : Env} {n : Nat} : ∀ {l : Outs} {K : Exit → St → Option Rt} {x : outD l} {r : Rt}, outK l K x = some r → ∀ {e : Exit} {a : Act} {w : World}, atOut E n l x e a w → ∃ s φ A, K e s = some r ∧ R E n φ A s a w
  | [], _, x, _, _, _, _, _, _ => nomatch x
  | p :: _, K, .inl x, r, h, e, a, w, ⟨he, φ, A, hR⟩ => ⟨_, φ, A, by rw [he]; exact (Sg.fst_eq p.2 x fun s => K p.1 s).symm.trans h, hR⟩
  | _ :: l, K, .inr x, r, h, e, a, w, ha => outK_sound (l := l) (K := K) (x := x) h ha

theorem injK_sound {Rt : Type} {fx : List Bool} {E : Env} (hm : E.fx = fx) {n : Nat} : ∀ {l : Outs} {K : outD l → Option Rt} {e : Exit} {s : St} {r : Rt}, injK fx l K e s = some r → ∀ {φ : Phi} {A : Nat → Prop} {a : Act} {w : World}, R E n φ A s a w → ∃ x, K x = some r ∧ atOut E n l x e a w
  | [], _, _, _, _, h, _, _, _, _, _ => by cases h
  | p :: l, K, e, s, r, h, φ, A, a, w, hR => by
    unfold injK at h
    cases hb : exB e p.1 with
    | true =>
      rw [hb] at h; simp only [cond] at h
      split at h
      · rename_i q y hy
        obtain ⟨hq, h⟩ := eqs_spec h
        obtain ⟨φ', A', h1, _, _⟩ := packS_sound hy hq hm hR
        exact ⟨_, h, exB_spec hb, φ', A', h1⟩
      · obtain ⟨x, h1, h2⟩ := injK_sound hm h hR
        exact ⟨_, h1, h2⟩
    | false =>
      rw [hb] at h; simp only [cond] at h
      obtain ⟨x, h1, h2⟩ := injK_sound hm h hR
      exact ⟨_, h1, h2⟩
end Go.Ev
