/- Part of a proof about the given program: EvN2. -/
import Derived.Test.YtbgbplacpjcmfaaEvN
import Derived.Test.YtbgbplacpjcmfaaEvL2
namespace Go.Ev
variable {Rt : Type}
/-! ### rows that become data when they are put into rows -/
def snapPV (f : Nat → Option Ob) (p : PV) : PV := match snapV f p with | some (p', _) => p' | none => p
def snapS (f : Nat → Option Ob) (p : PV) : List Nat := match snapV f p with | some (_, S) => S | none => []
def frzO (f : Nat → Option Ob) (o : Nat) : Nat → Option Ob := match f o with | some x => updO f o (some (frz x)) | none => f
def frzAll : (Nat → Option Ob) → List Nat → Nat → Option Ob
  | f, [] => f
  | f, o :: S => frzAll (frzO f o) S

theorem freeze_step0 {E : Env} {φ : Phi} {A : Nat → Prop} {f : Nat → Option Ob} {nx : Nat} {w : World} (hR : ROb E φ A f nx w) (hF : Frm E A w) {o : Nat} {x : Ob} (hx : f o = some x) (hrow : isRow x = true) :
    Step E φ φ A (fun k => A k ∧ ¬ Shown φ f [o] k) w w (updO f o (some (frz x))) nx := by
  have hA : ∀ k, (A k ∧ ¬ Shown φ f [o] k) → A k := fun k h => h.1
  have hext : Ext φ φ A (fun k => A k ∧ ¬ Shown φ f [o] k) w w := Ext.shrink hA
  obtain ⟨b, hb, hrel, hreg⟩ := hR.ob o x hx
  have hshown : ∀ k, Shown φ f [o] k → Owns b x ∧ b.blk = k := fun k ⟨o', x', b', ho', hx', hb', hO', hk⟩ => by
    rw [List.mem_singleton] at ho'
    subst ho'
    rw [hx] at hx'; simp only [Option.some.injEq] at hx'; subst hx'
    rw [hb] at hb'; simp only [Option.some.injEq] at hb'; subst hb'
    exact ⟨hO', hk⟩
  refine ⟨hext, ?_, ?_⟩
  · refine ⟨fun i y hy => ?_, fun i i' y y' c c' hy hy' hc hc' hO hO' he => ?_, hR.nx⟩
    · by_cases hi : i = o
      · subst hi
        rw [updO_same] at hy; simp only [Option.some.injEq] at hy; subst hy
        exact ⟨b, hb, frz_rel hA (fun hO hk => hk.2 ⟨i, x, b, by simp, hx, hb, hO, rfl⟩) hrow hrel, fun hO => absurd hO (frz_owns hrow)⟩
      · rw [updO_ne _ _ hi] at hy
        obtain ⟨c, hc, hrel', hreg'⟩ := hR.ob i y hy
        refine ⟨c, hc, RelOb.ext hext (fun hO => ⟨⟨(hR.lt hy hc hO).2, fun hs => ?_⟩, rfl⟩) hrel', hreg'⟩
        obtain ⟨h1, h2⟩ := hshown _ hs
        exact hi (hR.inj i o y x c b hy hx hc hb hO h1 h2.symm)
    · by_cases hi : i = o
      · subst hi
        rw [updO_same] at hy; simp only [Option.some.injEq] at hy; subst hy
        exact absurd hO (frz_owns hrow)
      · by_cases hi' : i' = o
        · subst hi'
          rw [updO_same] at hy'; simp only [Option.some.injEq] at hy'; subst hy'
          exact absurd hO' (frz_owns hrow)
        · rw [updO_ne _ _ hi] at hy
          rw [updO_ne _ _ hi'] at hy'
          exact hR.inj i i' y y' c c' hy hy' hc hc' hO hO' he
  · refine ⟨hF.size, hF.heap, fun k hk h0 h => hF.out k hk h0 h.1, fun k hk h0 hO => ⟨hF.keep k hk h0 hO, fun hs => ?_⟩, hF.os, hF.tape, hF.output, hF.gl⟩
    obtain ⟨h1, h2⟩ := hshown _ hs
    rcases hreg h1 with h3 | h3
    · exact hO (h2 ▸ h3)
    · omega

theorem frz_row {x : Ob} (h : isRow x = true) : isRow (frz x) = true := by cases x <;> first | rfl | exact h
theorem rowsB_frz {f : Nat → Option Ob} {o : Nat} {x : Ob} (hx : f o = some x) (hr : isRow x = true) : ∀ {S : List Nat}, rowsB f S = true → rowsB (updO f o (some (frz x))) S = true
  | [], _ => rfl
  | i :: S, h => by
    simp only [rowsB, Bool.and_eq_true] at h ⊢
    refine ⟨?_, rowsB_frz hx hr h.2⟩
    by_cases hi : i = o
    · rw [hi, updO_same]; exact frz_row hr
    · rw [updO_ne _ _ hi]; exact h.1

theorem frzAll_step {E : Env} {φ : Phi} {nx : Nat} {w : World} : ∀ (S : List Nat) {A : Nat → Prop} {f : Nat → Option Ob}, ROb E φ A f nx w → Frm E A w → rowsB f S = true →
    ∃ A', Step E φ φ A A' w w (frzAll f S) nx ∧ (∀ k, A' k → A k) ∧ ∀ o ∈ S, ∀ x b, f o = some x → φ o = some b → Owns b x → ¬ A' b.blk
  | [], A, f, hR, hF, _ => ⟨A, ⟨Ext.refl φ A w, hR, hF⟩, fun _ h => h, fun o ho => by cases ho⟩
  | o :: S, A, f, hR, hF, h => by
    obtain ⟨x, hx, hrow⟩ := rowsB_spec h o (List.mem_cons_self ..)
    have h2 : rowsB f S = true := by simp only [rowsB, Bool.and_eq_true] at h; exact h.2
    have hs := freeze_step0 hR hF hx hrow
    obtain ⟨A', s', hsub, hno⟩ := frzAll_step S hs.obs hs.frm (rowsB_frz hx hrow h2)
    have e : frzO f o = updO f o (some (frz x)) := by unfold frzO; rw [hx]
    refine ⟨A', ?_, fun k hk => (hsub k hk).1, fun i hi y b hy hb hO => ?_⟩
    · show Step E φ φ A A' w w (frzAll (frzO f o) S) nx
      rw [e]
      exact hs.trans s'
    · by_cases hio : i = o
      · subst hio
        exact fun hk => (hsub _ hk).2 ⟨i, y, b, by simp, hy, hb, hO, rfl⟩
      · rcases List.mem_cons.1 hi with h3 | h3
        · exact absurd h3 hio
        · exact hno i h3 y b (by rw [updO_ne _ _ hio]; exact hy) hb hO

theorem snapPV_rel {f : Nat → Option Ob} {φ : Phi} {A A' : Nat → Prop} {w : World} (hf : RelObs φ A w f) (hA : ∀ k, A' k → A k) {p : PV} {v : Value} (hS : ∀ o ∈ snapS f p, ∀ x b, f o = some x → φ o = some b → Owns b x → ¬ A' b.blk) (hv : RelV φ A w p v) : RelV φ A' w (snapPV f p) v := by
  unfold snapPV
  unfold snapS at hS
  cases h : snapV f p with
  | none => exact hv.ext (Ext.shrink hA)
  | some q =>
    rw [h] at hS
    exact snapV_rel hf hA h hS hv

theorem Memd.frozen {P : Program} {o : Oper} {ρ : Operand → PV} {f : Nat → Option Ob} {nx : Nat} {K : PV → (Nat → Option Ob) → Nat → Option Rt} {r : Rt} {S : List Nat} (hrow : rowsB f S = true)
    (hS : ∀ x ∈ o.op.operands, ∀ i ∈ snapS f (ρ x), i ∈ S) (h : Memd P o (fun x => snapPV f (ρ x)) (frzAll f S) nx K r) : Memd P o ρ f nx K r := by
  obtain ⟨v, f', nx', hK, hm⟩ := h
  refine ⟨v, f', nx', hK, fun E φ A w ρm hR hF hr => ?_⟩
  obtain ⟨A1, s1, hsub, hno⟩ := frzAll_step S hR hF hrow
  have hobs : RelObs φ A w f := fun o x hx => by obtain ⟨b, h1, h2, _⟩ := hR.ob o x hx; exact ⟨b, h1, h2⟩
  obtain ⟨φ', A', w', nxt, h1, h2, h3⟩ := hm E φ A1 w ρm s1.obs s1.frm (fun x hx => snapPV_rel hobs hsub (fun i hi => hno i (hS x hx i hi)) (hr x hx))
  exact ⟨φ', A', w', nxt, h1, s1.trans h2, h3⟩

def snapSs (f : Nat → Option Ob) (ρ : Operand → PV) : List Operand → List Nat
  | [] => []
  | x :: l => snapS f (ρ x) ++ snapSs f ρ l
theorem snapSs_mem {f : Nat → Option Ob} {ρ : Operand → PV} : ∀ {l : List Operand} {x : Operand}, x ∈ l → ∀ i ∈ snapS f (ρ x), i ∈ snapSs f ρ l
  | y :: l, x, h, i, hi => by
    simp only [snapSs, List.mem_append]
    rcases List.mem_cons.1 h with rfl | h
    · exact .inl hi
    · exact .inr (snapSs_mem h i hi)

def evBuildSliceF (P : Program) (t : TypeId) (len : Nat) (parts : Array (Nat × Operand)) (ρ : Operand → PV) (f : Nat → Option Ob) (nx : Nat) (K : PV → (Nat → Option Ob) → Nat → Option Rt) : Option Rt :=
  fNats (snapSs f ρ (Op.buildSlice t len parts).operands.toList) fun S => match S with
    | [] => evBuildSlice P t len (buildParts parts ρ) f nx K
    | S => cond (rowsB f S) (evBuildSlice P t len (buildParts parts fun x => snapPV f (ρ x)) (frzAll f S) nx K) none

theorem evBuildSliceF_sound {P : Program} {o : Oper} {t : TypeId} {len : Nat} {parts : Array (Nat × Operand)} (ho : o.op = .buildSlice t len parts) {ρ : Operand → PV} {f : Nat → Option Ob} {nx : Nat} {K : PV → (Nat → Option Ob) → Nat → Option Rt} {r : Rt}
    (h : evBuildSliceF P t len parts ρ f nx K = some r) : Memd P o ρ f nx K r := by
  unfold evBuildSliceF at h
  rw [fNats_eq] at h
  split at h
  · exact evBuildSlice_sound ho h
  · rename_i S _
    cases hb : rowsB f (snapSs f ρ (Op.buildSlice t len parts).operands.toList) with
    | false => rw [hb] at h; cases h
    | true =>
      rw [hb] at h; simp only [cond] at h
      refine Memd.frozen hb (fun x hx i hi => snapSs_mem (by rw [← ho]; simpa using hx) i hi) ?_
      exact evBuildSlice_sound (ρ := fun x => snapPV f (ρ x)) ho h

def toArrB (f : Nat → Option Ob) (p : PV) : Bool := match p with | .lf (.ptr o ..) => (match f o with | some (.arr ..) => true | _ => false) | _ => false
def evStoreF (P : Program) (t : TypeId) (a x : Operand) (ρ : Operand → PV) (f : Nat → Option Ob) (nx : Nat) (K : PV → (Nat → Option Ob) → Nat → Option Rt) : Option Rt :=
  cond (toArrB f (ρ a))
    (fNats (snapSs f ρ (Op.store t a x).operands.toList) fun S => match S with
      | [] => evStore P t (ρ a) (ρ x) f nx K
      | S => cond (rowsB f S) (evStore P t (snapPV f (ρ a)) (snapPV f (ρ x)) (frzAll f S) nx K) none)
    (evStore P t (ρ a) (ρ x) f nx K)

theorem evStoreF_sound {P : Program} {o : Oper} {t : TypeId} {a x : Operand} (ho : o.op = .store t a x) {ρ : Operand → PV} {f : Nat → Option Ob} {nx : Nat} {K : PV → (Nat → Option Ob) → Nat → Option Rt} {r : Rt}
    (h : evStoreF P t a x ρ f nx K = some r) : Memd P o ρ f nx K r := by
  unfold evStoreF at h
  cases hc : toArrB f (ρ a) with
  | false => rw [hc] at h; exact evStore_sound ho h
  | true =>
    rw [hc] at h
    simp only [cond] at h
    rw [fNats_eq] at h
    split at h
    · exact evStore_sound ho h
    · cases hb : rowsB f (snapSs f ρ (Op.store t a x).operands.toList) with
      | false => rw [hb] at h; cases h
      | true =>
        rw [hb] at h; simp only [] at h
        refine Memd.frozen hb (fun y hy i hi => snapSs_mem (by rw [← ho]; simpa using hy) i hi) ?_
        exact evStore_sound (ρ := fun x => snapPV f (ρ x)) ho h

theorem frzAll_ne {i : Nat} : ∀ {S : List Nat} {f : Nat → Option Ob}, i ∉ S → frzAll f S i = f i
  | [], _, _ => rfl
  | o :: S, f, h => by
    simp only [List.mem_cons, not_or] at h
    show frzAll (frzO f o) S i = f i
    rw [frzAll_ne h.2]
    unfold frzO
    cases hf : f o with
    | none => rfl
    | some x => exact updO_ne _ _ h.1
end Go.Ev
