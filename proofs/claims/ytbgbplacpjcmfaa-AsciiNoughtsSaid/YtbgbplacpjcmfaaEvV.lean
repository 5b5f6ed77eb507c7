/- Part of a proof about the given program: EvV. -/
import Derived.Test.YtbgbplacpjcmfaaEvU
namespace Go.Ev

/-! # Made ready for a cut -/
structure Cv where
  f : Nat → Option Ob
  nx : Nat
  σ : List (Option Nat)

def bindσ : List (Option Nat) → Nat → Nat → Option (List (Option Nat))
  | [], _, _ => none
  | none :: l, 0, o => some (some o :: l)
  | some o' :: l, 0, o => cond (Nat.beq o' o) (some (some o' :: l)) none
  | x :: l, i + 1, o => match bindσ l i o with | some l' => some (x :: l') | none => none

def Cv.bind (v : Cv) (i o : Nat) : Option Cv := match bindσ v.σ i o with | some σ => some ⟨v.f, v.nx, σ⟩ | none => none

def isArr : Ob → Bool
  | .arr .. => true
  | _ => false

/-- A slice's leaf becomes what it shows. -/
def frzL (s : Shape) (l : Lf) (v : Cv) : Option (Lf × Cv) :=
  match l with
  | .slr s' o a b c d e => match viewL v.f (.slr s' o a b c d e), v.f o with
    | some ⟨s2, xs⟩, some x => cond (isArr x) (some (.sl s2 xs none, ⟨updO v.f o (some (frz x)), v.nx, v.σ⟩)) none
    | _, _ => none
  | .sl s' xs _ => some (.sl s' xs none, v)
  | l => cond (isNils l) (some (.sl s [] none, v)) none

def growL (s : Shape) (i : Nat) (l : Lf) (v : Cv) : Option (Lf × Cv) :=
  match l with
  | .slr s' o a b c d e => match v.bind i o with
    | some v' => some (.slr s' o a b c d e, v')
    | none => none
  | l => cond (isNils l) (match Cv.bind ⟨updO v.f v.nx (some (.arr true s [])), v.nx + 1, v.σ⟩ i v.nx with
    | some v' => some (.slr s v.nx 0 0 0 none none, v')
    | none => none) none

def lfObj : Lf → Option Nat
  | .ptr o .. => some o
  | .mp o => some o
  | .slr _ o .. => some o
  | _ => none

def refL (i : Nat) (l : Lf) (v : Cv) : Option (Lf × Cv) :=
  match lfObj l with
  | some o => match v.bind i o with | some v' => some (l, v') | none => none
  | none => none

mutual
def convL : Ty → Lf → Cv → Option (Lf × Cv)
  | .ptr i _, l, v => refL i l v
  | .mp i, l, v => refL i l v
  | .vw _ i, l, v => refL i l v
  | .gr s i, l, v => growL s i l v
  | .sl s, l, v => frzL s l v
  | .ifc _ t, l, v => match l with
    | .ifc u l' => match convL t l' v with | some (l2, v') => some (.ifc u l2, v') | none => none
    | l => some (l, v)
  | .fnc _ ts, l, v => match l with
    | .fnc g ls => match convLs ts ls v with | some (l2, v') => some (.fnc g l2, v') | none => none
    | l => some (l, v)
  | .any, l, v => some (l, v)
  | .int _, l, v => some (l, v)
  | .bool, l, v => some (l, v)
  | .str, l, v => some (l, v)
  | .nilp, l, v => some (l, v)
  | .nili, l, v => some (l, v)
  | .nilf, l, v => some (l, v)
  | .nils, l, v => some (l, v)
def convLs : List Ty → List Lf → Cv → Option (List Lf × Cv)
  | t :: ts, l :: ls, v => match convL t l v with
    | some (l', v') => match convLs ts ls v' with | some (ls', v2) => some (l' :: ls', v2) | none => none
    | none => none
  | [], ls, v => some (ls, v)
  | _ :: _, [], _ => none
end
def convG : List STy → List Seg → Cv → Option (List Seg × Cv)
  | .lf t :: ts, .lf l :: ls, v => match convL t l v with
    | some (l', v') => match convG ts ls v' with | some (ls', v2) => some (.lf l' :: ls', v2) | none => none
    | none => none
  | .many _ _ :: ts, .many s xs n :: ls, v => match convG ts ls v with | some (ls', v2) => some (.many s xs n :: ls', v2) | none => none
  | .many _ _ :: _, .lf _ :: _, _ => none
  | .lf _ :: _, .many .. :: _, _ => none
  | [], ls, v => some (ls, v)
  | _ :: _, [], _ => none
def convP : PTy → PV → Cv → Option (PV × Cv)
  | .lf t, .lf l, v => match convL t l v with | some (l', v') => some (.lf l', v') | none => none
  | .agg ts, .agg g, v => match convG ts g v with | some (g', v') => some (.agg g', v') | none => none
  | .lf .any, .agg _, v => some (anyV, v)
  | .lf .any, .tup _, v => some (anyV, v)
  | _, _, _ => none
def convPs : List PTy → List PV → Cv → Option (List PV × Cv)
  | [], ls, v => some (ls, v)
  | _ :: _, [], _ => none
  | t :: ts, l :: ls, v => match convP t l v with
    | some (l', v') => match convPs ts ls v' with | some (ls', v2) => some (l' :: ls', v2) | none => none
    | none => none
/-- The objects, number k first. -/
def convOs : List (Option OTy) → Nat → Cv → Option Cv
  | [], _, v => some v
  | some (.box _ ts) :: os, k, v => match v.σ[k]? with
    | some (some o) => match v.f o with
      | some (.box own' g) => match convG ts g v with
        | some (g', v') => convOs os (k + 1) ⟨updO v'.f o (some (.box own' g')), v'.nx, v'.σ⟩
        | none => none
      | _ => none
    | _ => none
  | _ :: os, k, v => convOs os (k + 1) v

/-- What a step of this kind keeps. -/
def CvTo (v v' : Cv) (E : Env) (w : World) (φ φ' : Phi) (A A' : Nat → Prop) : Prop :=
  Step E φ φ' A A' w w v'.f v'.nx ∧ ∀ o own g, v.f o = some (.box own g) → v'.f o = some (.box own g)

theorem CvTo.trans {v v' v2 : Cv} {E : Env} {w : World} {φ φ' φ2 : Phi} {A A' A2 : Nat → Prop} (h : CvTo v v' E w φ φ' A A') (h' : CvTo v' v2 E w φ' φ2 A' A2) : CvTo v v2 E w φ φ2 A A2 :=
  ⟨h.1.trans h'.1, fun o own g e => h'.2 o own g (h.2 o own g e)⟩
theorem CvTo.refl {v : Cv} {E : Env} {w : World} {φ : Phi} {A : Nat → Prop} (h : ROb E φ A v.f v.nx w) (hF : Frm E A w) : CvTo v v E w φ φ A A := ⟨Step.refl h hF, fun _ _ _ h => h⟩

theorem Cv.bind_eq {v v' : Cv} {i o : Nat} (h : v.bind i o = some v') : v'.f = v.f ∧ v'.nx = v.nx := by
  unfold Cv.bind at h
  split at h
  · simp only [Option.some.injEq] at h; subst h; exact ⟨rfl, rfl⟩
  · cases h

theorem CvTo.bind {v v' : Cv} {i o : Nat} (h : v.bind i o = some v') {E : Env} {w : World} {φ : Phi} {A : Nat → Prop} (hR : ROb E φ A v.f v.nx w) (hF : Frm E A w) : CvTo v v' E w φ φ A A := by
  obtain ⟨h1, h2⟩ := Cv.bind_eq h
  unfold CvTo
  rw [h1, h2]
  exact ⟨Step.refl hR hF, fun _ _ _ h => h⟩

theorem freeze_step {E : Env} {φ : Phi} {A : Nat → Prop} {f : Nat → Option Ob} {nx : Nat} {w : World} (hR : ROb E φ A f nx w) (hF : Frm E A w) {o : Nat} {x : Ob} (hx : f o = some x) (hrow : isRow x = true) :
    Step E φ φ A (fun k => A k ∧ ¬ Shown φ f [o] k) w w (updO f o (some (frz x))) nx := by
  have hA : ∀ k, (A k ∧ ¬ Shown φ f [o] k) → A k := fun k h => h.1
  have hext : Ext φ φ A (fun k => A k ∧ ¬ Shown φ f [o] k) w w := Ext.shrink hA
  obtain ⟨b, hb, hrel, hreg⟩ := hR.ob o x hx
  have hshown : ∀ k, Shown φ f [o] k → Owns b x ∧ b.blk = k := fun k ⟨o', x', b', ho', hx', hb', hO', hk⟩ => by
    rw [List.mem_singleton] at ho'
    subst ho'
    rw [hx] at hx'; simp only [Option.some.injEq] at hx'; subst hx'
    rw [hb] at hb'; simp only [Option.some.injEq] at hb'; subst hb'
    exact ⟨hO', hk⟩
  refine ⟨hext, ?_, ?_⟩
  · refine ⟨fun i y hy => ?_, fun i i' y y' c c' hy hy' hc hc' hO hO' he => ?_, hR.nx⟩
    · by_cases hi : i = o
      · subst hi
        rw [updO_same] at hy; simp only [Option.some.injEq] at hy; subst hy
        exact ⟨b, hb, frz_rel hA (fun hO hk => hk.2 ⟨i, x, b, by simp, hx, hb, hO, rfl⟩) hrow hrel, fun hO => absurd hO (frz_owns hrow)⟩
      · rw [updO_ne _ _ hi] at hy
        obtain ⟨c, hc, hrel', hreg'⟩ := hR.ob i y hy
        refine ⟨c, hc, RelOb.ext hext (fun hO => ⟨⟨(hR.lt hy hc hO).2, fun hs => ?_⟩, rfl⟩) hrel', hreg'⟩
        obtain ⟨h1, h2⟩ := hshown _ hs
        exact hi (hR.inj i o y x c b hy hx hc hb hO h1 h2.symm)
    · by_cases hi : i = o
      · subst hi
        rw [updO_same] at hy; simp only [Option.some.injEq] at hy; subst hy
        exact absurd hO (frz_owns hrow)
      · by_cases hi' : i' = o
        · subst hi'
          rw [updO_same] at hy'; simp only [Option.some.injEq] at hy'; subst hy'
          exact absurd hO' (frz_owns hrow)
        · rw [updO_ne _ _ hi] at hy
          rw [updO_ne _ _ hi'] at hy'
          exact hR.inj i i' y y' c c' hy hy' hc hc' hO hO' he
  · refine ⟨hF.size, hF.heap, fun k hk h0 h => hF.out k hk h0 h.1, fun k hk h0 hO => ⟨hF.keep k hk h0 hO, fun hs => ?_⟩, hF.os, hF.tape, hF.output, hF.gl⟩
    obtain ⟨h1, h2⟩ := hshown _ hs
    rcases hreg h1 with h3 | h3
    · exact hO (h2 ▸ h3)
    · omega

theorem isArr_row {x : Ob} (h : isArr x = true) : isRow x = true := by cases x <;> first | rfl | cases h

theorem frzL_sound {s : Shape} {l l' : Lf} {v v' : Cv} (h : frzL s l v = some (l', v')) {E : Env} {φ : Phi} {A : Nat → Prop} {w : World} (hR : ROb E φ A v.f v.nx w) (hF : Frm E A w) {u : Value} (hu : RelL φ A w l u) :
    ∃ φ' A', CvTo v v' E w φ φ' A A' ∧ RelL φ' A' w l' u := by
  unfold frzL at h
  split at h
  · rename_i s' o a b c d e
    split at h
    · rename_i s2 xs x hview hx
      cases ha : isArr x with
      | false => rw [ha] at h; cases h
      | true =>
        rw [ha] at h; simp only [cond, Option.some.injEq, Prod.mk.injEq] at h
        obtain ⟨rfl, rfl⟩ := h
        refine ⟨φ, _, ⟨freeze_step hR hF hx (isArr_row ha), fun i own g hi => ?_⟩, ?_⟩
        · exact (updO_ne _ _ (fun e => by
            subst e
            rw [hx] at hi; simp only [Option.some.injEq] at hi; subst hi
            cases ha)).trans hi
        · have hs : snapL v.f (.slr s' o a b c d e) = some (.sl s2 xs d, [o]) := by simp only [snapL, hview]
          have h1 := snapL_rel (A' := fun k => A k ∧ ¬ Shown φ v.f [o] k) hs hR.rel (fun k h => h.1) (fun i hi y c' hy hc hO hk => hk.2 ⟨i, y, c', hi, hy, hc, hO, rfl⟩) hu
          simp only [RelL] at h1 ⊢
          obtain ⟨ad, c', e1, _, h2⟩ := h1
          exact ⟨ad, c', e1, fun _ h => (by cases h), h2⟩
    · cases h
  · rename_i s' xs cap
    simp only [Option.some.injEq, Prod.mk.injEq] at h
    obtain ⟨rfl, rfl⟩ := h
    refine ⟨φ, A, CvTo.refl hR hF, ?_⟩
    simp only [RelL] at hu ⊢
    obtain ⟨ad, c', e1, _, h2⟩ := hu
    exact ⟨ad, c', e1, fun _ h => (by cases h), h2⟩
  · cases hn : isNils l with
    | false => rw [hn] at h; cases h
    | true =>
      rw [hn] at h; simp only [cond, Option.some.injEq, Prod.mk.injEq] at h
      obtain ⟨rfl, rfl⟩ := h
      refine ⟨φ, A, CvTo.refl hR hF, ?_⟩
      rw [isNils_spec hn] at hu
      simp only [RelL] at hu ⊢
      exact ⟨none, 0, hu, fun _ h => (by cases h), Nat.le_refl _, .inl rfl⟩

theorem grow_step {E : Env} {φ : Phi} {A : Nat → Prop} {f : Nat → Option Ob} {nx : Nat} {w : World} (hR : ROb E φ A f nx w) (hF : Frm E A w) (s : Shape) :
    Step E φ (updP φ nx ⟨0, 0, 0, 0⟩) A A w w (updO f nx (some (.arr true s []))) (nx + 1) := by
  have hext : Ext φ (updP φ nx ⟨0, 0, 0, 0⟩) A A w w := ⟨fun o c hc => by
    unfold updP
    by_cases e : o = nx
    · rw [e, hR.nx nx (Nat.le_refl _)] at hc; cases hc
    · rw [if_neg e]; exact hc, Nat.le_refl _, fun _ _ h => h, fun _ _ _ => rfl⟩
  have hno : ¬ Owns ⟨0, 0, 0, 0⟩ (.arr true s []) := fun h => h.2 rfl
  refine ⟨hext, ROb.special hR hext (fun o ho => ?_) nx (.arr true s []) ⟨0, 0, 0, 0⟩ (updO_same ..) (by simp [updP]) ⟨rfl, Nat.le_refl _, [], rfl, .inl rfl⟩ (fun h => absurd h hno) (fun o y ho hy => by rwa [updO_ne _ _ ho] at hy) (fun o y c ho hy hc hO => ?_), hF⟩
  · unfold updP; rw [if_neg (by omega)]; exact hR.nx o (by omega)
  · rw [updO_ne _ _ ho] at hy
    exact ⟨(hR.lt hy hc hO).2, rfl, fun h => absurd h hno⟩

theorem growL_sound {s : Shape} {i : Nat} {l l' : Lf} {v v' : Cv} (h : growL s i l v = some (l', v')) {E : Env} {φ : Phi} {A : Nat → Prop} {w : World} (hR : ROb E φ A v.f v.nx w) (hF : Frm E A w) {u : Value} (hu : RelL φ A w l u) :
    ∃ φ' A', CvTo v v' E w φ φ' A A' ∧ RelL φ' A' w l' u := by
  unfold growL at h
  split at h
  · split at h
    · rename_i hb
      simp only [Option.some.injEq, Prod.mk.injEq] at h
      obtain ⟨rfl, rfl⟩ := h
      exact ⟨φ, A, CvTo.bind hb hR hF, hu⟩
    · cases h
  · cases hn : isNils l with
    | false => rw [hn] at h; cases h
    | true =>
      rw [hn] at h; simp only [cond] at h
      split at h
      · rename_i hb
        simp only [Option.some.injEq, Prod.mk.injEq] at h
        obtain ⟨rfl, rfl⟩ := h
        have hs := grow_step hR hF s
        refine ⟨_, A, CvTo.trans (v' := ⟨updO v.f v.nx (some (.arr true s [])), v.nx + 1, v.σ⟩) ⟨hs, fun o own g ho => ?_⟩ (CvTo.bind hb hs.obs hF), ?_⟩
        · exact (updO_ne _ _ (by have := hR.dom ho; omega)).trans ho
        · rw [isNils_spec hn] at hu
          simp only [RelL] at hu ⊢
          exact ⟨⟨0, 0, 0, 0⟩, by simp [updP], none, 0, hu, Nat.le_refl _, rfl, Nat.le_refl _, by simp⟩
      · cases h

theorem refL_sound {i : Nat} {l l' : Lf} {v v' : Cv} (h : refL i l v = some (l', v')) {E : Env} {φ : Phi} {A : Nat → Prop} {w : World} (hR : ROb E φ A v.f v.nx w) (hF : Frm E A w) {u : Value} (hu : RelL φ A w l u) :
    ∃ φ' A', CvTo v v' E w φ φ' A A' ∧ RelL φ' A' w l' u := by
  unfold refL at h
  split at h
  · split at h
    · rename_i hb
      simp only [Option.some.injEq, Prod.mk.injEq] at h
      obtain ⟨rfl, rfl⟩ := h
      exact ⟨φ, A, CvTo.bind hb hR hF, hu⟩
    · cases h
  · cases h

mutual
theorem convL_sound : ∀ {t : Ty} {l l' : Lf} {v v' : Cv}, convL t l v = some (l', v') → ∀ {E : Env} {φ : Phi} {A : Nat → Prop} {w : World}, ROb E φ A v.f v.nx w → Frm E A w → ∀ {u : Value}, RelL φ A w l u →
    ∃ φ' A', CvTo v v' E w φ φ' A A' ∧ RelL φ' A' w l' u
  | .ptr .., _, _, _, _, h, _, _, _, _, hR, hF, _, hu => by simp only [convL] at h; exact refL_sound h hR hF hu
  | .mp .., _, _, _, _, h, _, _, _, _, hR, hF, _, hu => by simp only [convL] at h; exact refL_sound h hR hF hu
  | .vw .., _, _, _, _, h, _, _, _, _, hR, hF, _, hu => by simp only [convL] at h; exact refL_sound h hR hF hu
  | .gr .., _, _, _, _, h, _, _, _, _, hR, hF, _, hu => by simp only [convL] at h; exact growL_sound h hR hF hu
  | .sl .., _, _, _, _, h, _, _, _, _, hR, hF, _, hu => by simp only [convL] at h; exact frzL_sound h hR hF hu
  | .ifc _ t, l, _, _, _, h, _, φ, A, _, hR, hF, _, hu => by
    simp only [convL] at h
    split at h
    · split at h
      · rename_i h1
        simp only [Option.some.injEq, Prod.mk.injEq] at h
        obtain ⟨rfl, rfl⟩ := h
        simp only [RelL] at hu
        obtain ⟨u', e, hu⟩ := hu
        obtain ⟨φ', A', h2, h3⟩ := convL_sound h1 hR hF hu
        exact ⟨φ', A', h2, by simp only [RelL]; exact ⟨u', e, h3⟩⟩
      · cases h
    · simp only [Option.some.injEq, Prod.mk.injEq] at h
      obtain ⟨rfl, rfl⟩ := h
      exact ⟨φ, A, CvTo.refl hR hF, hu⟩
  | .fnc _ ts, l, _, _, _, h, _, φ, A, _, hR, hF, _, hu => by
    simp only [convL] at h
    split at h
    · split at h
      · rename_i h1
        simp only [Option.some.injEq, Prod.mk.injEq] at h
        obtain ⟨rfl, rfl⟩ := h
        simp only [RelL] at hu
        obtain ⟨u', e, hu⟩ := hu
        obtain ⟨φ', A', h2, h3⟩ := convLs_sound h1 hR hF hu
        exact ⟨φ', A', h2, by simp only [RelL]; exact ⟨u', e, h3⟩⟩
      · cases h
    · simp only [Option.some.injEq, Prod.mk.injEq] at h
      obtain ⟨rfl, rfl⟩ := h
      exact ⟨φ, A, CvTo.refl hR hF, hu⟩
  | .any, _, _, _, _, h, _, φ, A, _, hR, hF, _, hu => by simp only [convL, Option.some.injEq, Prod.mk.injEq] at h; obtain ⟨rfl, rfl⟩ := h; exact ⟨φ, A, CvTo.refl hR hF, hu⟩
  | .int _, _, _, _, _, h, _, φ, A, _, hR, hF, _, hu => by simp only [convL, Option.some.injEq, Prod.mk.injEq] at h; obtain ⟨rfl, rfl⟩ := h; exact ⟨φ, A, CvTo.refl hR hF, hu⟩
  | .bool, _, _, _, _, h, _, φ, A, _, hR, hF, _, hu => by simp only [convL, Option.some.injEq, Prod.mk.injEq] at h; obtain ⟨rfl, rfl⟩ := h; exact ⟨φ, A, CvTo.refl hR hF, hu⟩
  | .str, _, _, _, _, h, _, φ, A, _, hR, hF, _, hu => by simp only [convL, Option.some.injEq, Prod.mk.injEq] at h; obtain ⟨rfl, rfl⟩ := h; exact ⟨φ, A, CvTo.refl hR hF, hu⟩
  | .nilp, _, _, _, _, h, _, φ, A, _, hR, hF, _, hu => by simp only [convL, Option.some.injEq, Prod.mk.injEq] at h; obtain ⟨rfl, rfl⟩ := h; exact ⟨φ, A, CvTo.refl hR hF, hu⟩
  | .nili, _, _, _, _, h, _, φ, A, _, hR, hF, _, hu => by simp only [convL, Option.some.injEq, Prod.mk.injEq] at h; obtain ⟨rfl, rfl⟩ := h; exact ⟨φ, A, CvTo.refl hR hF, hu⟩
  | .nilf, _, _, _, _, h, _, φ, A, _, hR, hF, _, hu => by simp only [convL, Option.some.injEq, Prod.mk.injEq] at h; obtain ⟨rfl, rfl⟩ := h; exact ⟨φ, A, CvTo.refl hR hF, hu⟩
  | .nils, _, _, _, _, h, _, φ, A, _, hR, hF, _, hu => by simp only [convL, Option.some.injEq, Prod.mk.injEq] at h; obtain ⟨rfl, rfl⟩ := h; exact ⟨φ, A, CvTo.refl hR hF, hu⟩
theorem convLs_sound : ∀ {t : List Ty} {l l' : List Lf} {v v' : Cv}, convLs t l v = some (l', v') → ∀ {E : Env} {φ : Phi} {A : Nat → Prop} {w : World}, ROb E φ A v.f v.nx w → Frm E A w → ∀ {u : List Value}, RelLs φ A w l u →
    ∃ φ' A', CvTo v v' E w φ φ' A A' ∧ RelLs φ' A' w l' u
  | [], _, _, _, _, h, _, φ, A, _, hR, hF, _, hu => by simp only [convLs, Option.some.injEq, Prod.mk.injEq] at h; obtain ⟨rfl, rfl⟩ := h; exact ⟨φ, A, CvTo.refl hR hF, hu⟩
  | _ :: _, [], _, _, _, h, _, _, _, _, _, _, _, _ => by simp [convLs] at h
  | t :: ts, l :: ls, _, _, _, h, _, φ, A, _, hR, hF, _, hu => by
    simp only [convLs] at h
    split at h
    · rename_i h1
      split at h
      · rename_i h2
        simp only [Option.some.injEq, Prod.mk.injEq] at h
        obtain ⟨rfl, rfl⟩ := h
        simp only [RelLs] at hu
        obtain ⟨x, xs, e, hu, hus⟩ := hu
        obtain ⟨φ1, A1, a1, b1⟩ := convL_sound h1 hR hF hu
        obtain ⟨φ2, A2, a2, b2⟩ := convLs_sound h2 a1.1.obs a1.1.frm (hus.ext a1.1.ext)
        exact ⟨φ2, A2, a1.trans a2, by simp only [RelLs]; exact ⟨x, xs, e, b1.ext a2.1.ext, b2⟩⟩
      · cases h
    · cases h
end

theorem convG_sound : ∀ {t : List STy} {l l' : List Seg} {v v' : Cv}, convG t l v = some (l', v') → ∀ {E : Env} {φ : Phi} {A : Nat → Prop} {w : World}, ROb E φ A v.f v.nx w → Frm E A w → ∀ {u : List Value}, RelG φ A w l u →
    ∃ φ' A', CvTo v v' E w φ φ' A A' ∧ RelG φ' A' w l' u
  | [], _, _, _, _, h, _, φ, A, _, hR, hF, _, hu => by simp only [convG, Option.some.injEq, Prod.mk.injEq] at h; obtain ⟨rfl, rfl⟩ := h; exact ⟨φ, A, CvTo.refl hR hF, hu⟩
  | .lf _ :: _, [], _, _, _, h, _, _, _, _, _, _, _, _ => by simp [convG] at h
  | .many _ _ :: _, [], _, _, _, h, _, _, _, _, _, _, _, _ => by simp [convG] at h
  | .many _ _ :: _, .lf _ :: _, _, _, _, h, _, _, _, _, _, _, _, _ => by simp [convG] at h
  | .lf _ :: _, .many .. :: _, _, _, _, h, _, _, _, _, _, _, _, _ => by simp [convG] at h
  | .lf t :: ts, .lf l :: ls, _, _, _, h, _, φ, A, _, hR, hF, _, ⟨v1, v2, e, ⟨x, e1, hx⟩, hu⟩ => by
    simp only [convG] at h
    split at h
    · rename_i h1
      split at h
      · rename_i h2
        simp only [Option.some.injEq, Prod.mk.injEq] at h
        obtain ⟨rfl, rfl⟩ := h
        obtain ⟨φ1, A1, a1, b1⟩ := convL_sound h1 hR hF hx
        obtain ⟨φ2, A2, a2, b2⟩ := convG_sound h2 a1.1.obs a1.1.frm (RelG.ext a1.1.ext hu)
        exact ⟨φ2, A2, a1.trans a2, ⟨v1, v2, e, ⟨x, e1, b1.ext a2.1.ext⟩, b2⟩⟩
      · cases h
    · cases h
  | .many _ _ :: ts, .many s xs n :: ls, _, _, _, h, _, φ, A, _, hR, hF, _, ⟨v1, v2, e, hx, hu⟩ => by
    simp only [convG] at h
    split at h
    · rename_i h2
      simp only [Option.some.injEq, Prod.mk.injEq] at h
      obtain ⟨rfl, rfl⟩ := h
      obtain ⟨φ2, A2, a2, b2⟩ := convG_sound h2 hR hF hu
      exact ⟨φ2, A2, a2, ⟨v1, v2, e, RelS.ext a2.1.ext _ _ hx, b2⟩⟩
    · cases h

theorem convP_sound : ∀ {t : PTy} {l l' : PV} {v v' : Cv}, convP t l v = some (l', v') → ∀ {E : Env} {φ : Phi} {A : Nat → Prop} {w : World}, ROb E φ A v.f v.nx w → Frm E A w → ∀ {u : Value}, RelV φ A w l u →
    ∃ φ' A', CvTo v v' E w φ φ' A A' ∧ RelV φ' A' w l' u := by
  intro t l l' v v' h E φ A w hR hF u hu
  unfold convP at h
  split at h
  · split at h
    · rename_i h1
      simp only [Option.some.injEq, Prod.mk.injEq] at h
      obtain ⟨rfl, rfl⟩ := h
      simp only [RelV] at hu
      obtain ⟨φ', A', h2, h3⟩ := convL_sound h1 hR hF hu
      exact ⟨φ', A', h2, by simp only [RelV]; exact h3⟩
    · cases h
  · split at h
    · rename_i h1
      simp only [Option.some.injEq, Prod.mk.injEq] at h
      obtain ⟨rfl, rfl⟩ := h
      simp only [RelV] at hu
      obtain ⟨vs, e, hu⟩ := hu
      obtain ⟨φ', A', h2, h3⟩ := convG_sound h1 hR hF hu
      exact ⟨φ', A', h2, by simp only [RelV]; exact ⟨vs, e, h3⟩⟩
    · cases h
  · simp only [Option.some.injEq, Prod.mk.injEq] at h
    obtain ⟨rfl, rfl⟩ := h
    exact ⟨φ, A, CvTo.refl hR hF, RelV_any ..⟩
  · simp only [Option.some.injEq, Prod.mk.injEq] at h
    obtain ⟨rfl, rfl⟩ := h
    exact ⟨φ, A, CvTo.refl hR hF, RelV_any ..⟩
  · cases h

theorem convPs_sound : ∀ {t : List PTy} {l l' : List PV} {v v' : Cv}, convPs t l v = some (l', v') → ∀ {E : Env} {φ : Phi} {A : Nat → Prop} {w : World}, ROb E φ A v.f v.nx w → Frm E A w → ∀ {u : List Value}, RelVs φ A w l u →
    ∃ φ' A', CvTo v v' E w φ φ' A A' ∧ RelVs φ' A' w l' u
  | [], _, _, _, _, h, _, φ, A, _, hR, hF, _, hu => by simp only [convPs, Option.some.injEq, Prod.mk.injEq] at h; obtain ⟨rfl, rfl⟩ := h; exact ⟨φ, A, CvTo.refl hR hF, hu⟩
  | _ :: _, [], _, _, _, h, _, _, _, _, _, _, _, _ => by simp [convPs] at h
  | t :: ts, l :: ls, _, _, _, h, _, φ, A, _, hR, hF, _, hu => by
    simp only [convPs] at h
    split at h
    · rename_i h1
      split at h
      · rename_i h2
        simp only [Option.some.injEq, Prod.mk.injEq] at h
        obtain ⟨rfl, rfl⟩ := h
        simp only [RelVs] at hu
        obtain ⟨x, xs, e, hu, hus⟩ := hu
        obtain ⟨φ1, A1, a1, b1⟩ := convP_sound h1 hR hF hu
        obtain ⟨φ2, A2, a2, b2⟩ := convPs_sound h2 a1.1.obs a1.1.frm (hus.ext a1.1.ext)
        exact ⟨φ2, A2, a1.trans a2, by simp only [RelVs]; exact ⟨x, xs, e, b1.ext a2.1.ext, b2⟩⟩
      · cases h
    · cases h

/-- A variable's fields are told otherwise. -/
theorem retell_step {E : Env} {φ : Phi} {A : Nat → Prop} {f : Nat → Option Ob} {nx : Nat} {w : World} (hR : ROb E φ A f nx w) (hF : Frm E A w) {o : Nat} {own : Bool} {g g' : List Seg} {b : Bind} (hx : f o = some (.box own g)) (hb : φ o = some b)
    {vs : List Value} (hg : RelG φ A w g' vs) (hh : Held own A w b.blk b.base vs vs.length) : Step E φ φ A A w w (updO f o (some (.box own g'))) nx := by
  refine ⟨Ext.refl φ A w, ⟨fun i y hy => ?_, fun i i' y y' c c' hy hy' hc hc' hO hO' he => ?_, hR.nx⟩, hF⟩
  · by_cases hi : i = o
    · subst hi
      rw [updO_same] at hy; simp only [Option.some.injEq] at hy; subst hy
      obtain ⟨b', hb', _, hreg⟩ := hR.ob i _ hx
      rw [hb] at hb'; simp only [Option.some.injEq] at hb'; subst hb'
      exact ⟨b, hb, ⟨vs, hg, hh⟩, hreg⟩
    · rw [updO_ne _ _ hi] at hy; exact hR.ob i y hy
  · have key : ∀ i y c, updO f o (some (.box own g')) i = some y → φ i = some c → Owns c y → ∃ y', f i = some y' ∧ Owns c y' := fun i y c hy hc hO => by
      by_cases hi : i = o
      · subst hi
        rw [updO_same] at hy; simp only [Option.some.injEq] at hy; subst hy
        exact ⟨_, hx, hO⟩
      · rw [updO_ne _ _ hi] at hy; exact ⟨y, hy, hO⟩
    obtain ⟨z, hz, hz'⟩ := key i y c hy hc hO
    obtain ⟨z2, hz2, hz2'⟩ := key i' y' c' hy' hc' hO'
    exact hR.inj i i' z z2 c c' hz hz2 hc hc' hz' hz2' he

theorem convOs_sound : ∀ {t : List (Option OTy)} {k : Nat} {v v' : Cv}, convOs t k v = some v' → ∀ {E : Env} {φ : Phi} {A : Nat → Prop} {w : World}, ROb E φ A v.f v.nx w → Frm E A w →
    ∃ φ' A', Step E φ φ' A A' w w v'.f v'.nx := by
  intro t
  induction t with
  | nil =>
    intro k v v' h E φ A w hR hF
    simp only [convOs, Option.some.injEq] at h; subst h
    exact ⟨φ, A, Step.refl hR hF⟩
  | cons t os ih =>
    intro k v v' h E φ A w hR hF
    unfold convOs at h
    split at h
    · cases ‹_ :: _ = []›
    · rename_i own ts os' k' v0 he
      cases he
      split at h
      · rename_i o ho
        split at h
        · rename_i own' g hg
          split at h
          · rename_i g' v1 h1
            obtain ⟨b, hb, ⟨vs, hvs, hh⟩, hreg⟩ := hR.ob o _ hg
            obtain ⟨φ1, A1, a1, b1⟩ := convG_sound h1 hR hF hvs
            have hg1 := a1.2 o own' g hg
            have hb1 := a1.1.ext.phi o b hb
            obtain ⟨b', hb', ⟨vs', hvs', hh'⟩, _⟩ := a1.1.obs.ob o _ hg1
            rw [hb1] at hb'; simp only [Option.some.injEq] at hb'; subst hb'
            have hlen : True := trivial
            have hheld : Held own' A1 w b.blk b.base vs vs.length := by
              refine ⟨hh.1, ?_⟩
              cases own' with
              | true =>
                simp only [if_true]
                obtain ⟨_, c, e, fz, r1, r2, r3, r4⟩ := hh.2
                exact ⟨hh'.2.1, c, e, fz, r1, r2, r3, r4⟩
              | false =>
                simp only [Bool.false_eq_true, if_false]
                exact ⟨hh'.2.1, hh.2.2⟩
            have hs := retell_step a1.1.obs a1.1.frm hg1 hb1 b1 hheld
            obtain ⟨φ2, A2, a2⟩ := ih h hs.obs hs.frm
            exact ⟨φ2, A2, a1.1.trans (hs.trans a2)⟩
          · cases h
        · cases h
      · cases h
    · rename_i he
      cases he
      exact ih h hR hF
end Go.Ev
