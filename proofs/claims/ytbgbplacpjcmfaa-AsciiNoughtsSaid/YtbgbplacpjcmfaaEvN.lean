/- Part of a proof about the given program: EvN. -/
import Derived.Test.YtbgbplacpjcmfaaEvM
namespace Go.Ev
variable {Rt : Type}

theorem Ext.shrink {φ : Phi} {A A' : Nat → Prop} {w : World} (h : ∀ k, A' k → A k) : Ext φ φ A A' w w := ⟨fun _ _ h => h, Nat.le_refl _, fun k _ hA hA' => hA (h k hA'), fun _ _ _ => rfl⟩

theorem CellsAt.lt {w : World} {b off : Nat} {vs : List Value} (h : CellsAt w b off vs) (hne : vs ≠ []) : b < w.heap.size := by
  cases vs with
  | nil => exact absurd rfl hne
  | cons v vs =>
    have := h 0 v rfl
    unfold World.cell? at this
    cases hb : w.heap[b]? with
    | none => simp only [hb] at this; cases this
    | some o => exact (Array.getElem?_eq_some_iff.1 hb).1

theorem snapL_rel {f : Nat → Option Ob} {l l' : Lf} {S : List Nat} (h : snapL f l = some (l', S)) {φ : Phi} {A A' : Nat → Prop} {w : World} (hf : RelObs φ A w f) (hA : ∀ k, A' k → A k) (hS : ∀ o ∈ S, ∀ x b, f o = some x → φ o = some b → Owns b x → ¬ A' b.blk)
    {v : Value} (hv : RelL φ A w l v) : RelL φ A' w l' v := by
  unfold snapL at h
  split at h
  · rename_i s o a st len cap lim
    split at h
    · rename_i s' xs hview
      simp only [Option.some.injEq, Prod.mk.injEq] at h
      obtain ⟨rfl, rfl⟩ := h
      obtain ⟨ad, c, vs, e, hle, hl, hc⟩ := viewL_sound hview hf hv
      simp only [RelL] at hv
      obtain ⟨b, hb, ad', c', e', hlc, hcap, hlim, had⟩ := hv
      rw [e] at e'
      injection e' with e1 e2 e3
      subst e1; subst e3
      simp only [RelL]
      refine ⟨ad, c, e, fun c' hc' => ?_, hle, ?_⟩
      · rw [hc'] at hcap; exact hcap
      · have hplace : len ≠ 0 → ¬ A' b.blk := fun hne => by
          cases hfo : f o with
          | none => unfold viewL at hview; simp only [hfo] at hview; cases hview
          | some x =>
            obtain ⟨b', hb', hrel⟩ := hf o x hfo
            rw [hb] at hb'; simp only [Option.some.injEq] at hb'; subst hb'
            by_cases hO : Owns b x
            · exact hS o (by simp) x b hfo hb hO
            · cases x with
              | box own gg =>
                obtain ⟨vs2, _, hh⟩ := hrel
                cases own with
                | true => exact absurd rfl hO
                | false => exact fun hk => hh.2.1 (hA _ hk)
              | arr own s2 ys =>
                obtain ⟨h1, h2, vs2, _, hh⟩ := hrel
                rcases hh with hh | hh
                · unfold viewL at hview
                  simp only [hfo] at hview
                  cases lim with
                  | some n => cases hview
                  | none => simp only [] at hlim; omega
                · cases own with
                  | true => exact absurd ⟨rfl, fun h0 => by
                      unfold viewL at hview
                      simp only [hfo] at hview
                      cases lim with
                      | some n => cases hview
                      | none => simp only [] at hlim; omega⟩ hO
                  | false => exact fun hk => hh.2.1 (hA _ hk)
              | map => unfold viewL at hview; simp only [hfo] at hview; cases hview
              | iter => unfold viewL at hview; simp only [hfo] at hview; cases hview
        rcases hc with h0 | ⟨bk, off, h1, hc⟩
        · exact .inl h0
        · by_cases hx : xs = []
          · exact .inl hx
          · refine .inr ⟨bk, off, vs, h1, ?_, ?_, hl.mono (fun y u hy => RelD.ext (Ext.shrink (φ := φ) hA) _ y u hy), hc⟩
            · rcases had with ⟨_, h0⟩ | had
              · exact absurd (List.eq_nil_of_length_eq_zero (by omega)) hx
              · rw [h1] at had
                injection had with had
                injection had with had
                rw [had]
                have hne : len ≠ 0 := fun h0 => hx (List.eq_nil_of_length_eq_zero (by omega))
                exact hplace hne
            · refine hc.lt (fun h0 => hx ?_)
              have := Lift.length (RelD.length A w _) hl
              rw [h0] at this
              have hp := Shape.size_pos s'
              have h2 : xs.length * s'.size = 0 := by simpa using this.symm
              exact List.eq_nil_of_length_eq_zero (by rcases Nat.mul_eq_zero.1 h2 with h | h <;> omega)
    · cases h
  · simp only [Option.some.injEq, Prod.mk.injEq] at h
    obtain ⟨rfl, _⟩ := h
    exact hv.ext (Ext.shrink hA)

theorem snapG_rel {f : Nat → Option Ob} {φ : Phi} {A A' : Nat → Prop} {w : World} (hf : RelObs φ A w f) (hA : ∀ k, A' k → A k) : ∀ {g g' : List Seg} {S : List Nat} {v : List Value}, snapG f g = some (g', S) → (∀ o ∈ S, ∀ x b, f o = some x → φ o = some b → Owns b x → ¬ A' b.blk) → RelG φ A w g v → RelG φ A' w g' v
  | [], _, _, _, h, _, hv => by simp only [snapG, Option.some.injEq, Prod.mk.injEq] at h; obtain ⟨rfl, _⟩ := h; exact hv
  | .lf l :: r, _, _, _, h, hS, ⟨v1, v2, e, ⟨v, e1, hv⟩, hr⟩ => by
    simp only [snapG] at h
    split at h
    · rename_i l' a r' b h1 h2
      simp only [Option.some.injEq, Prod.mk.injEq] at h
      obtain ⟨rfl, rfl⟩ := h
      exact ⟨v1, v2, e, ⟨v, e1, snapL_rel h1 hf hA (fun o ho => hS o (List.mem_append_left _ ho)) hv⟩, snapG_rel hf hA h2 (fun o ho => hS o (List.mem_append_right _ ho)) hr⟩
    · cases h
  | .many s xs n :: r, _, _, _, h, hS, ⟨v1, v2, e, ⟨hn, hl⟩, hr⟩ => by
    simp only [snapG] at h
    split at h
    · rename_i r' b h2
      simp only [Option.some.injEq, Prod.mk.injEq] at h
      obtain ⟨rfl, rfl⟩ := h
      exact ⟨v1, v2, e, ⟨hn, hl.mono (fun y u hy => RelD.ext (Ext.shrink (φ := φ) hA) _ y u hy)⟩, snapG_rel hf hA h2 hS hr⟩
    · cases h

theorem snapV_rel {f : Nat → Option Ob} {φ : Phi} {A A' : Nat → Prop} {w : World} (hf : RelObs φ A w f) (hA : ∀ k, A' k → A k) {p p' : PV} {S : List Nat} {v : Value} (h : snapV f p = some (p', S)) (hS : ∀ o ∈ S, ∀ x b, f o = some x → φ o = some b → Owns b x → ¬ A' b.blk) (hv : RelV φ A w p v) : RelV φ A' w p' v := by
  cases p with
  | lf l =>
    simp only [snapV] at h
    split at h
    · rename_i l' a h1
      simp only [Option.some.injEq, Prod.mk.injEq] at h
      obtain ⟨rfl, rfl⟩ := h
      simp only [RelV] at hv ⊢
      exact snapL_rel h1 hf hA hS hv
    · cases h
  | agg g =>
    simp only [snapV] at h
    split at h
    · rename_i l' a h1
      simp only [Option.some.injEq, Prod.mk.injEq] at h
      obtain ⟨rfl, rfl⟩ := h
      simp only [RelV] at hv ⊢
      obtain ⟨vs, e, hv⟩ := hv
      exact ⟨vs, e, snapG_rel hf hA h1 hS hv⟩
    · cases h
  | tup ps =>
    simp only [snapV, Option.some.injEq, Prod.mk.injEq] at h
    obtain ⟨rfl, _⟩ := h
    exact hv.ext (Ext.shrink hA)

theorem snapVs_rel {f : Nat → Option Ob} {φ : Phi} {A A' : Nat → Prop} {w : World} (hf : RelObs φ A w f) (hA : ∀ k, A' k → A k) : ∀ {ps ps' : List PV} {m : List Bool} {S : List Nat} {vs : List Value}, snapVs f m ps = some (ps', S) → (∀ o ∈ S, ∀ x b, f o = some x → φ o = some b → Owns b x → ¬ A' b.blk) → RelVs φ A w ps vs → RelVs φ A' w ps' vs
  | [], _, _, _, _, h, _, hv => by simp only [snapVs, Option.some.injEq, Prod.mk.injEq] at h; obtain ⟨rfl, _⟩ := h; simpa only [RelVs] using hv
  | p :: ps, _, m, _, _, h, hS, hv => by
    simp only [snapVs] at h
    split at h
    · rename_i p' a ps' b h1 h2
      simp only [Option.some.injEq, Prod.mk.injEq] at h
      obtain ⟨rfl, rfl⟩ := h
      simp only [RelVs] at hv ⊢
      obtain ⟨v, vs', e, hp, hps⟩ := hv
      refine ⟨v, vs', e, ?_, snapVs_rel hf hA h2 (fun o ho => hS o (List.mem_append_right _ ho)) hps⟩
      cases hm : m.headD false with
      | true =>
        rw [hm] at h1; simp only [cond, Option.some.injEq, Prod.mk.injEq] at h1
        obtain ⟨rfl, _⟩ := h1
        exact hp.ext (Ext.shrink hA)
      | false =>
        rw [hm] at h1; simp only [cond] at h1
        exact snapV_rel hf hA h1 (fun o ho => hS o (List.mem_append_left _ ho)) hp
    · cases h

/-! ## A call -/
def disjB : List Nat → List Nat → Bool
  | [], _ => true
  | x :: l, m => !elemB x m && disjB l m

theorem disjB_spec : ∀ {l m : List Nat}, disjB l m = true → ∀ x ∈ l, x ∉ m
  | [], _, _, _, hx => by cases hx
  | y :: l, m, h, x, hx => by
    simp only [disjB, Bool.and_eq_true, Bool.not_eq_true'] at h
    rcases List.mem_cons.1 hx with rfl | hx
    · intro hm; rw [elemB_mem.2 hm] at h; cases h.1
    · exact disjB_spec h.2 x hx

def frz : Ob → Ob
  | .box _ g => .box false g
  | .arr _ s xs => .arr false s xs
  | x => x

def isRow : Ob → Bool
  | .box .. => true
  | .arr .. => true
  | _ => false
def rowsB (f : Nat → Option Ob) : List Nat → Bool
  | [] => true
  | o :: l => (match f o with | some x => isRow x | none => false) && rowsB f l

theorem rowsB_spec {f : Nat → Option Ob} : ∀ {l : List Nat}, rowsB f l = true → ∀ o ∈ l, ∃ x, f o = some x ∧ isRow x = true
  | [], _, _, h => by cases h
  | o :: l, h, o', ho => by
    simp only [rowsB, Bool.and_eq_true] at h
    rcases List.mem_cons.1 ho with rfl | ho
    · cases hf : f o' with
      | none => rw [hf] at h; cases h.1
      | some x => rw [hf] at h; exact ⟨x, rfl, h.1⟩
    · exact rowsB_spec h.2 o' ho

def backId (L : List Nat) (nx i : Nat) : Option Nat := match L[i]? with | some o => some o | none => some (nx + (i - L.length))

def afterOb (f : Nat → Option Ob) (nx : Nat) (L S : List Nat) (fr : Bool) (out : List (Option Ob)) : Nat → Option Ob := fun o =>
  match idxOf o L with
  | some i => match hlOut out i with | some x => some (renOb (backId L nx) x) | none => none
  | none => cond (Nat.blt o nx) (match f o with | some x => some (cond (fr && elemB o S) (frz x) x) | none => none)
      (match hlOut out (L.length + (o - nx)) with | some x => some (renOb (backId L nx) x) | none => none)

def evCall (O : Orc Rt) (g : FuncId) (args : List PV) (f : Nat → Option Ob) (nx : Nat) (K : PV → (Nat → Option Ob) → Nat → Option Rt) : Option Rt :=
  match snapVs f (O.byRef g) args with
  | some (as, S) =>
    fNats S fun S => fNats (reach f 1000 (refsVs as) []) fun L => match obsOf f L with
      | some xs => cond (nodupB L && disjB S L && rowsB f S)
          (fPVs (renVs (fun o => idxOf o L) as) fun as => fObl (xs.map (renOb (fun o => idxOf o L))) fun hl => O.fn g as hl (fun out =>
            K (renV (backId L nx) out.1) (afterOb f nx L S (dataV out.1 || dataObs out.2) out.2) (nx + (out.2.length - L.length)))) none
      | none => none
  | none => none

theorem frz_rel {φ : Phi} {A A' : Nat → Prop} {w : World} (hA : ∀ k, A' k → A k) {b : Bind} : ∀ {x : Ob}, (Owns b x → ¬ A' b.blk) → isRow x = true → RelOb φ A w b x → RelOb φ A' w b (frz x)
  | .box own g, hb, _, ⟨vs, hg, hh⟩ => by
    refine ⟨vs, hg.ext (Ext.shrink hA), hh.1, ?_, hh.cells⟩
    cases own with
    | true => exact hb rfl
    | false => exact fun hk => hh.2.1 (hA _ hk)
  | .arr own s xs, hb, _, ⟨h1, h2, vs, hl, hh⟩ => by
    refine ⟨h1, h2, vs, hl.mono (fun y v hy => RelD.ext (Ext.shrink (φ := φ) hA) s y v hy), ?_⟩
    by_cases hc : b.cap = 0
    · exact .inl hc
    · rcases hh with hh | hh
      · exact .inl hh
      · refine .inr ⟨hh.1, ?_, hh.cells⟩
        cases own with
        | true => exact hb ⟨rfl, hc⟩
        | false => exact fun hk => hh.2.1 (hA _ hk)
  | .map .., _, h, _ => by cases h
  | .iter .., _, h, _ => by cases h

theorem frz_owns {b : Bind} : ∀ {x : Ob}, isRow x = true → ¬ Owns b (frz x)
  | .box .., _, h => by cases h
  | .arr .., _, h => by cases h.1
  | .map .., h, _ => by cases h
  | .iter .., h, _ => by cases h

/-- What a call comes to. -/
def CallSem (P : Program) (g : FuncId) (args : List PV) (f : Nat → Option Ob) (nx : Nat) (v : PV) (f' : Nat → Option Ob) (nx' : Nat) : Prop :=
  ∀ (E : Env) (φ : Phi) (A : Nat → Prop) (w : World) (vals : List Value), ROb E φ A f nx w → Frm E A w → RelVs φ A w args vals →
    Calls P g ⟨vals⟩ w fun e w' => ∃ φ' A' u, e = .returned u ∧ Step E φ φ' A A' w w' f' nx' ∧ RelV φ' A' w' v u

theorem dataObs_get : ∀ {l : List (Option Ob)} {i : Nat} {x : Ob}, dataObs l = false → hlOut l i = some x → dataOb x = false
  | [], _, _, _, h => by simp [hlOut] at h
  | some y :: l, 0, x, hd, h => by
    simp only [dataObs, Bool.or_eq_false_iff] at hd
    simp only [hlOut, List.getElem?_cons_zero, Option.some.injEq] at h
    exact h ▸ hd.1
  | none :: l, 0, x, hd, h => by simp [hlOut] at h
  | some y :: l, i + 1, x, hd, h => by
    simp only [dataObs, Bool.or_eq_false_iff] at hd
    exact dataObs_get (i := i) hd.2 (by simpa only [hlOut, List.getElem?_cons_succ] using h)
  | none :: l, i + 1, x, hd, h => by
    simp only [dataObs] at hd
    exact dataObs_get (i := i) hd (by simpa only [hlOut, List.getElem?_cons_succ] using h)

theorem hlOut_lt {l : List (Option Ob)} {i : Nat} {x : Ob} (h : hlOut l i = some x) : i < l.length := by
  unfold hlOut at h
  rcases Nat.lt_or_ge i l.length with h1 | h1
  · exact h1
  · rw [List.getElem?_eq_none h1] at h; cases h

theorem evCall_sound {P : Program} {O : Orc Rt} (hO : OrcOk P O) {g : FuncId} {args : List PV} {f : Nat → Option Ob} {nx : Nat} {K : PV → (Nat → Option Ob) → Nat → Option Rt} {r : Rt} (h : evCall O g args f nx K = some r) :
    ∃ v f' nx', K v f' nx' = some r ∧ CallSem P g args f nx v f' nx' := by
  unfold evCall at h
  simp only [fNats_eq, fPVs_eq, fObl_eq] at h
  split at h
  · rename_i as S hsnap
    generalize hL : reach f 1000 (refsVs as) [] = L at h
    split at h
    · rename_i xs hxs
      cases hc : (nodupB L && disjB S L && rowsB f S) with
      | false => rw [hc] at h; cases h
      | true =>
        rw [hc] at h; simp only [cond] at h
        simp only [Bool.and_eq_true] at hc
        have hnd := nodupB_spec hc.1.1
        have hdj := disjB_spec hc.1.2
        have hrw := rowsB_spec hc.2
        obtain ⟨hxl, hxg⟩ := obsOf_get hxs
        obtain ⟨out, hK, hok⟩ := hO.1 _ _ _ _ _ h
        refine ⟨_, _, _, hK, fun E φ A w vals hR hF hv => ?_⟩
        have hobs : RelObs φ A w f := fun o x hx => by obtain ⟨b, h1, h2, _⟩ := hR.ob o x hx; exact ⟨b, h1, h2⟩
        -- the callee's own view
        let Ac : Nat → Prop := fun k => A k ∧ ¬ Shown φ f S k
        let φc : Phi := fun i => match L[i]? with | some o => φ o | none => none
        have hφc : ∀ i o, L[i]? = some o → φc i = φ o := fun i o hi => by
          show (match L[i]? with | some o => φ o | none => none) = φ o
          rw [hi]
        have hφn : ∀ i, L.length ≤ i → φc i = none := fun i hi => by
          show (match L[i]? with | some o => φ o | none => none) = none
          rw [List.getElem?_eq_none hi]
        have hAc : ∀ k, Ac k → A k := fun k hk => hk.1
        have hgo : Goes φ φc (fun o => idxOf o L) := fun o i b hi hb => by rw [hφc i o (idxOf_get hi)]; exact hb
        have hvals := renVs_rel hgo (snapVs_rel hobs hAc hsnap (fun o ho x b hx hb hOw hk => hk.2 ⟨o, x, b, ho, hx, hb, hOw, rfl⟩) hv)
        have hl_get : ∀ i x, hlOf (xs.map (renOb fun o => idxOf o L)) i = some x → ∃ o y, L[i]? = some o ∧ f o = some y ∧ x = renOb (fun o => idxOf o L) y := fun i x hi => by
          unfold hlOf at hi
          rw [List.getElem?_map] at hi
          cases hx : xs[i]? with
          | none => rw [hx] at hi; cases hi
          | some y =>
            rw [hx] at hi
            simp only [Option.map_some, Option.some.injEq] at hi
            have hlt : i < L.length := by rw [← hxl]; exact (List.getElem?_eq_some_iff.1 hx).1
            obtain ⟨z, hz, hfz⟩ := hxg i L[i] (List.getElem?_eq_getElem hlt)
            rw [hx] at hz; simp only [Option.some.injEq] at hz; subst hz
            exact ⟨L[i], y, List.getElem?_eq_getElem hlt, hfz, hi.symm⟩
        have notShown : ∀ o y b, o ∉ S → f o = some y → φ o = some b → Owns b y → ¬ Shown φ f S b.blk := fun o y b hoS hy hb hOw ⟨o2, y2, b2, ho2, hy2, hb2, hOw2, he⟩ =>
          hoS ((hR.inj o2 o y2 y b2 b hy2 hy hb2 hb hOw2 hOw he) ▸ ho2)
        have hLS : ∀ o ∈ L, o ∉ S := fun o ho hoS => hdj o hoS ho
        have hlen : (xs.map (renOb fun o => idxOf o L)).length = L.length := by rw [List.length_map, hxl]
        have hRc : ROb (envOf φc Ac w (hlOf (xs.map (renOb fun o => idxOf o L)))) φc Ac (hlOf (xs.map (renOb fun o => idxOf o L))) (xs.map (renOb fun o => idxOf o L)).length w := by
          refine ⟨fun i x hx => ?_, fun i i' x x' b b' hx hx' hb hb' hOw hOw' he => ?_, fun i hi => hφn i (by omega)⟩
          · obtain ⟨o, y, ho, hy, rfl⟩ := hl_get i x hx
            obtain ⟨b, hb, hrel, hreg⟩ := hR.ob o y hy
            have hbc : φc i = some b := by rw [hφc i o ho]; exact hb
            refine ⟨b, hbc, ?_, fun hOw => .inl ⟨i, _, b, hx, hbc, hOw, rfl⟩⟩
            refine renOb_rel hgo (RelOb.ext (Ext.shrink hAc) (fun hOw => ⟨⟨(hR.lt hy hb hOw).2, ?_⟩, rfl⟩) hrel)
            exact notShown o y b (hLS o (List.mem_of_getElem? ho)) hy hb hOw
          · obtain ⟨o, y, ho, hy, rfl⟩ := hl_get i x hx
            obtain ⟨o', y', ho', hy', rfl⟩ := hl_get i' x' hx'
            rw [hφc i o ho] at hb
            rw [hφc i' o' ho'] at hb'
            rw [renOb_owns] at hOw hOw'
            have hoo := hR.inj o o' y y' b b' hy hy' hb hb' hOw hOw' he
            subst hoo
            have h1 := (List.getElem?_eq_some_iff.1 ho)
            have h2 := (List.getElem?_eq_some_iff.1 ho')
            obtain ⟨h1, e1⟩ := h1
            obtain ⟨h2, e2⟩ := h2
            exact (List.getElem_inj hnd).1 (e1.trans e2.symm)
        have hgl : GlobAt Ac (Owned φc (hlOf (xs.map (renOb fun o => idxOf o L)))) w := fun k hk => by
          obtain ⟨g1, _, g3, g4⟩ := hF.glob hR k hk
          exact ⟨fun h => g1 (hAc k h), fun ⟨i, x, b, hx, hb, hO, e⟩ => g1 (e ▸ hAc _ (hRc.lt hx hb hO).2), g3, g4⟩
        refine (hok φc Ac w vals hvals hRc hgl).mono fun e w' ⟨φ1, A1, u, he, hu, hR1, hF1, hkeep⟩ => ?_
        rw [hlen] at hkeep
        have hsz : w.heap.size ≤ w'.heap.size := hF1.size
        -- what the callee owned
        have hOwned : ∀ k, Owned φc (hlOf (xs.map (renOb fun o => idxOf o L))) k → ∃ o y b, o ∈ L ∧ f o = some y ∧ φ o = some b ∧ Owns b y ∧ b.blk = k := fun k ⟨i, x, b, hx, hb, hOw, hk⟩ => by
          obtain ⟨o, y, ho, hy, rfl⟩ := hl_get i x hx
          rw [hφc i o ho] at hb
          rw [renOb_owns] at hOw
          exact ⟨o, y, b, List.mem_of_getElem? ho, hy, hb, hOw, hk⟩
        have hOwnA : ∀ k, Owned φc (hlOf (xs.map (renOb fun o => idxOf o L))) k → A k ∧ k < w.heap.size := fun k hk => by
          obtain ⟨o, y, b, _, hy, hb, hOw, rfl⟩ := hOwned k hk
          exact ⟨(hR.lt hy hb hOw).2, (hR.lt hy hb hOw).1⟩
        have hA1 : ∀ k, k < w.heap.size → A1 k → Ac k := fun k hk h1 => Classical.byContradiction fun hn => hF1.out k hk hn h1
        generalize hfr : (dataV out.1 || dataObs out.2) = fr
        -- the caller's view behind the call
        let A2 : Nat → Prop := fun k => A1 k ∨ (fr = false ∧ A k ∧ k < w.heap.size ∧ Shown φ f S k)
        let φ2 : Phi := fun o => if o < nx then φ o else φ1 (L.length + (o - nx))
        have hA2old : ∀ k, k < w.heap.size → A2 k → A k := fun k hk h2 => by
          rcases h2 with h2 | h2
          · exact (hA1 k hk h2).1
          · exact h2.2.1
        have hφ2 : ∀ o, o < nx → φ2 o = φ o := fun o ho => by show (if o < nx then φ o else _) = _; rw [if_pos ho]
        have hφ2n : ∀ o, nx ≤ o → φ2 o = φ1 (L.length + (o - nx)) := fun o ho => by show (if o < nx then φ o else _) = _; rw [if_neg (by omega)]
        have hext : Ext φ φ2 A A2 w w' := by
          refine ⟨fun o b hb => ?_, hsz, fun k hk hA hA2 => hA (hA2old k hk hA2), fun k hk hA => hF1.heap k hk (fun hO => hA (hOwnA k hO).1)⟩
          rcases Nat.lt_or_ge o nx with h1 | h1
          · rw [hφ2 o h1]; exact hb
          · rw [hR.nx o h1] at hb; cases hb
        have hback : Goes φ1 φ2 (backId L nx) := fun i o b hi hb => by
          unfold backId at hi
          cases hLi : L[i]? with
          | some o' =>
            rw [hLi] at hi
            simp only [Option.some.injEq] at hi
            subst hi
            have hlt := (List.getElem?_eq_some_iff.1 hLi).1
            rw [hkeep i hlt, hφc i o' hLi] at hb
            rw [hφ2 o' ?_]
            · exact hb
            · rcases Nat.lt_or_ge o' nx with h1 | h1
              · exact h1
              · rw [hR.nx o' h1] at hb; cases hb
          | none =>
            rw [hLi] at hi
            simp only [Option.some.injEq] at hi
            subst hi
            have hge : L.length ≤ i := by
              rcases Nat.lt_or_ge i L.length with h1 | h1
              · rw [List.getElem?_eq_getElem h1] at hLi; cases hLi
              · exact h1
            rw [hφ2n _ (by omega), show L.length + (nx + (i - L.length) - nx) = i by omega]; exact hb
        have ownA1 : ∀ {b : Bind} {x : Ob}, RelOb φ1 A1 w' b x → Owns b x → A1 b.blk := fun {b x} hrel hOw => by
          cases x with
          | box own gg => obtain ⟨vs, _, hh⟩ := hrel; have : own = true := hOw; subst this; exact hh.2.1
          | arr own s ys =>
            obtain ⟨_, _, vs, _, hh⟩ := hrel
            have h0 := hOw.1
            subst h0
            rcases hh with hh | hh
            · exact absurd hh hOw.2
            · exact hh.2.1
          | map => exact hrel.1
          | iter => exact hrel.2.1
        have hA21 : fr = true → ∀ k, A2 k → A1 k := fun hfr2 k h2 => by
          rcases h2 with h2 | h2
          · exact h2
          · rw [hfr2] at h2; cases h2.1
        have toA2 : ∀ {b : Bind} {x : Ob}, (fr = false → dataOb x = false) → RelOb φ1 A1 w' b x → RelOb φ1 A2 w' b x := fun {b x} hd hrel => by
          cases hfr2 : fr with
          | true => exact RelOb.ext (Ext.shrink (hA21 hfr2)) (fun hOw => ⟨.inl (ownA1 hrel hOw), rfl⟩) hrel
          | false => exact dataOb_rel (fun k hk => .inl hk) (hd hfr2) hrel
        -- the objects behind the call
        have hcase : ∀ o x, afterOb f nx L S fr out.2 o = some x →
            (∃ i y, hlOut out.2 i = some y ∧ x = renOb (backId L nx) y ∧ (∀ b, φ1 i = some b → φ2 o = some b) ∧ (∀ b, φ2 o = some b → φ1 i = some b) ∧ (i < L.length ∧ L[i]? = some o ∨ L.length ≤ i ∧ o = nx + (i - L.length))) ∨
            (o ∉ L ∧ o < nx ∧ ∃ y, f o = some y ∧ x = cond (fr && elemB o S) (frz y) y) := fun o x hx => by
          unfold afterOb at hx
          split at hx
          · rename_i i hi
            split at hx
            · rename_i y hy
              simp only [Option.some.injEq] at hx
              have hLi := idxOf_get hi
              have hlt := (List.getElem?_eq_some_iff.1 hLi).1
              have hon : o < nx := by
                obtain ⟨z, _, hfz⟩ := hxg i o hLi
                exact hR.dom hfz
              refine .inl ⟨i, y, hy, hx.symm, fun b hb => ?_, fun b hb => ?_, .inl ⟨hlt, hLi⟩⟩
              · rw [hφ2 o hon, ← hφc i o hLi, ← hkeep i hlt]; exact hb
              · rw [hkeep i hlt, hφc i o hLi, ← hφ2 o hon]; exact hb
            · cases hx
          · rename_i hi
            cases hb : Nat.blt o nx with
            | true =>
              rw [hb] at hx; simp only [cond] at hx
              split at hx
              · rename_i y hy
                simp only [Option.some.injEq] at hx
                exact .inr ⟨idxOf_none hi, Nat.le_of_ble_eq_true hb, y, hy, hx.symm⟩
              · cases hx
            | false =>
              rw [hb] at hx; simp only [cond] at hx
              have hge : nx ≤ o := by
                rcases Nat.lt_or_ge o nx with h1 | h1
                · rw [show Nat.blt o nx = true from Nat.ble_eq_true_of_le h1] at hb; cases hb
                · exact h1
              split at hx
              · rename_i y hy
                simp only [Option.some.injEq] at hx
                refine .inl ⟨_, y, hy, hx.symm, fun b hb => ?_, fun b hb => ?_, .inr ⟨by omega, by omega⟩⟩
                · rw [hφ2n o hge]; exact hb
                · rw [hφ2n o hge] at hb; exact hb
              · cases hx
        -- an owned object of the callee's: in a row that was handed over, or in a new one
        have hplace : ∀ i y b, hlOut out.2 i = some y → φ1 i = some b → Owns b y → (∃ o2 y2 b2, o2 ∈ L ∧ f o2 = some y2 ∧ φ o2 = some b2 ∧ Owns b2 y2 ∧ b2.blk = b.blk) ∨ w.heap.size ≤ b.blk := fun i y b hy hb hOw => by
          obtain ⟨b', hb', _, hreg⟩ := hR1.ob i y hy
          rw [hb] at hb'; simp only [Option.some.injEq] at hb'; subst hb'
          rcases hreg hOw with h1 | h1
          · exact .inl (hOwned _ h1)
          · exact .inr h1
        have notOwned : ∀ o y b, o ∉ L → f o = some y → φ o = some b → Owns b y → ¬ Owned φc (hlOf (xs.map (renOb fun o => idxOf o L))) b.blk := fun o y b hoL hy hb hOw hk => by
          obtain ⟨o2, y2, b2, ho2, hy2, hb2, hOw2, he2⟩ := hOwned _ hk
          exact hoL ((hR.inj o2 o y2 y b2 b hy2 hy hb2 hb hOw2 hOw he2) ▸ ho2)
        have regShown : ∀ k, Shown φ f S k → E.O0 k ∨ E.w0.heap.size ≤ k := fun k ⟨o, x, b, _, hx, hb, hOw, hk⟩ => by
          obtain ⟨b', hb', _, hreg⟩ := hR.ob o x hx
          rw [hb] at hb'; simp only [Option.some.injEq] at hb'; subst hb'
          rw [← hk]; exact hreg hOw
        have regOwned : ∀ k, Owned φc (hlOf (xs.map (renOb fun o => idxOf o L))) k → E.O0 k ∨ E.w0.heap.size ≤ k := fun k hk => by
          obtain ⟨o, x, b, _, hx, hb, hOw, rfl⟩ := hOwned k hk
          obtain ⟨b', hb', _, hreg⟩ := hR.ob o x hx
          rw [hb] at hb'; simp only [Option.some.injEq] at hb'; subst hb'
          exact hreg hOw
        have keepA1 : ∀ k, k < w.heap.size → A k → ¬ Shown φ f S k → ¬ Owned φc (hlOf (xs.map (renOb fun o => idxOf o L))) k → A1 k := fun k hk hA hS hOwn => hF1.keep k hk ⟨hA, hS⟩ hOwn
        refine ⟨φ2, A2, u, he, ⟨hext, ⟨fun o x hx => ?_, fun o o' x x' b b' hx hx' hb hb' hOw hOw' heq => ?_, fun o ho => ?_⟩, ⟨?_, fun k hk hO => ?_, fun k hk hA0 hA2 => ?_, fun k hk hA0 hO => ?_, ?_, ?_, ?_, hF.gl⟩⟩, ?_⟩
        · -- the objects
          rcases hcase o x hx with ⟨i, y, hy, rfl, h12, _, _⟩ | ⟨hoL, hon, y, hy, rfl⟩
          · obtain ⟨b, hb, hrel, _⟩ := hR1.ob i y hy
            refine ⟨b, h12 b hb, renOb_rel hback (toA2 (fun hf => dataObs_get (by
              rw [← hfr, Bool.or_eq_false_iff] at hf; exact hf.2) hy) hrel), fun hOw => ?_⟩
            rw [renOb_owns] at hOw
            rcases hplace i y b hy hb hOw with ⟨o2, y2, b2, _, hy2, hb2, hOw2, he2⟩ | h2
            · obtain ⟨b3, hb3, _, hreg⟩ := hR.ob o2 y2 hy2
              rw [hb2] at hb3; simp only [Option.some.injEq] at hb3; subst hb3
              rw [← he2]; exact hreg hOw2
            · exact .inr (Nat.le_trans hF.size h2)
          · obtain ⟨b, hb, hrel, hreg⟩ := hR.ob o y hy
            refine ⟨b, by rw [hφ2 o hon]; exact hb, ?_⟩
            cases hz : (fr && elemB o S) with
            | true =>
              simp only [cond]
              simp only [Bool.and_eq_true] at hz
              have hoS := elemB_mem.1 hz.2
              obtain ⟨y2, hy2, hrow⟩ := hrw o hoS
              rw [hy] at hy2; simp only [Option.some.injEq] at hy2; subst hy2
              have h1 := frz_rel hAc (fun hOw hk => hk.2 ⟨o, y, b, hoS, hy, hb, hOw, rfl⟩) hrow hrel
              refine ⟨RelOb.ext ⟨hext.phi, hsz, fun k hk hn h2 => hn (hA1 k hk (hA21 hz.1 k h2)), fun k hk hn => hF1.heap k hk (fun hO => ?_)⟩ (fun hOw => absurd hOw (frz_owns hrow)) h1, fun hOw => absurd hOw (frz_owns hrow)⟩
              obtain ⟨o2, y2, b2, ho2, hy2, hb2, hOw2, he2⟩ := hOwned k hO
              exact hn ⟨(hOwnA k hO).1, he2 ▸ notShown o2 y2 b2 (hLS o2 ho2) hy2 hb2 hOw2⟩
            | false =>
              simp only [cond]
              refine ⟨RelOb.ext hext (fun hOw => ?_) hrel, hreg⟩
              obtain ⟨hlt, hAb⟩ := hR.lt hy hb hOw
              have hno := notOwned o y b hoL hy hb hOw
              refine ⟨?_, hF1.heap _ hlt hno⟩
              by_cases hoS : o ∈ S
              · have hfr2 : fr = false := by
                  rw [elemB_mem.2 hoS, Bool.and_true] at hz; exact hz
                exact .inr ⟨hfr2, hAb, hlt, o, y, b, hoS, hy, hb, hOw, rfl⟩
              · exact .inl (keepA1 _ hlt hAb (notShown o y b hoS hy hb hOw) hno)
        · -- two objects do not share a row
          have case2 : ∀ o x b, o ∉ L → (∃ y, f o = some y ∧ x = cond (fr && elemB o S) (frz y) y) → o < nx → φ2 o = some b → Owns b x → f o = some x ∧ φ o = some b := fun o x b hoL ⟨y, hy, hxy⟩ hon hb hOw => by
            cases hz : (fr && elemB o S) with
            | true =>
              rw [hz] at hxy; simp only [cond] at hxy
              simp only [Bool.and_eq_true] at hz
              obtain ⟨y2, hy2, hrow⟩ := hrw o (elemB_mem.1 hz.2)
              rw [hy] at hy2; simp only [Option.some.injEq] at hy2; subst hy2
              rw [hxy] at hOw
              exact absurd hOw (frz_owns hrow)
            | false =>
              rw [hz] at hxy; simp only [cond] at hxy
              exact ⟨hxy ▸ hy, by rw [← hφ2 o hon]; exact hb⟩
          have mixed : ∀ o' x x' b b' i y, hlOut out.2 i = some y → x = renOb (backId L nx) y → φ1 i = some b → o' ∉ L → f o' = some x' → φ o' = some b' → Owns b x → Owns b' x' → b.blk = b'.blk → False   := fun o' x x' b b' i y hy hxy hb hoL hx' hb' hOw hOw' heq => by
            rw [hxy, renOb_owns] at hOw
            rcases hplace i y b hy hb hOw with ⟨o2, y2, b2, ho2, hy2, hb2, hOw2, he2⟩ | h2
            · exact hoL ((hR.inj o2 o' y2 x' b2 b' hy2 hx' hb2 hb' hOw2 hOw' (he2.trans heq)) ▸ ho2)
            · have := (hR.lt hx' hb' hOw').1; omega
          rcases hcase o x hx with ⟨i, y, hy, hxy, _, h21, hpos⟩ | ⟨hoL, hon, hyx⟩
          · rcases hcase o' x' hx' with ⟨i', y', hy', hxy', _, h21', hpos'⟩ | ⟨hoL', hon', hyx'⟩
            · have hii : i = i' := by
                rw [hxy, renOb_owns] at hOw
                rw [hxy', renOb_owns] at hOw'
                exact hR1.inj i i' y y' b b' hy hy' (h21 b hb) (h21' b' hb') hOw hOw' heq
              subst hii
              rcases hpos with ⟨h1, h2⟩ | ⟨h1, h2⟩
              · rcases hpos' with ⟨h3, h4⟩ | ⟨h3, h4⟩
                · rw [h2] at h4; exact Option.some.inj h4
                · omega
              · rcases hpos' with ⟨h3, h4⟩ | ⟨h3, h4⟩
                · omega
                · rw [h2, h4]
            · obtain ⟨h1, h2⟩ := case2 o' x' b' hoL' hyx' hon' hb' hOw'
              exact (mixed o' x x' b b' i y hy hxy (h21 b hb) hoL' h1 h2 hOw hOw' heq).elim
          · obtain ⟨h1, h2⟩ := case2 o x b hoL hyx hon hb hOw
            rcases hcase o' x' hx' with ⟨i', y', hy', hxy', _, h21', hpos'⟩ | ⟨hoL', hon', hyx'⟩
            · exact (mixed o x' x b' b i' y' hy' hxy' (h21' b' hb') hoL h1 h2 hOw' hOw heq.symm).elim
            · obtain ⟨h3, h4⟩ := case2 o' x' b' hoL' hyx' hon' hb' hOw'
              exact hR.inj o o' x x' b b' h1 h3 h2 h4 hOw hOw' heq
        · rw [hφ2n o (by omega)]
          exact hR1.nx _ (by omega)
        · exact Nat.le_trans hF.size hsz
        · refine (hF1.heap k (Nat.lt_of_lt_of_le hk hF.size) (fun hk2 => ?_)).trans (hF.heap k hk hO)
          rcases regOwned k hk2 with h1 | h1
          · exact hO h1
          · omega
        · exact hF.out k hk hA0 (hA2old k (Nat.lt_of_lt_of_le hk hF.size) hA2)
        · have hklt := Nat.lt_of_lt_of_le hk hF.size
          refine .inl (keepA1 k hklt (hF.keep k hk hA0 hO) (fun hS => ?_) (fun hOwn => ?_))
          · rcases regShown k hS with h1 | h1
            · exact hO h1
            · omega
          · rcases regOwned k hOwn with h1 | h1
            · exact hO h1
            · omega
        · exact hF1.os.trans hF.os
        · exact hF1.tape.trans hF.tape
        · exact hF1.output.trans hF.output
        · cases hfr2 : fr with
          | true => exact renV_rel hback (hu.ext (Ext.shrink (hA21 hfr2)))
          | false =>
            have hd : dataV out.1 = false := by
              rw [← hfr, Bool.or_eq_false_iff] at hfr2; exact hfr2.1
            exact renV_rel hback (dataV_rel hd hu)
    · cases h
  · cases h
end Go.Ev
