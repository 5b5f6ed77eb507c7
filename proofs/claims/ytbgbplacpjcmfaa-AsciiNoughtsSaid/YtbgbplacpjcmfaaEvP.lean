/- Part of a proof about the given program: EvP. -/
import Derived.Test.YtbgbplacpjcmfaaEvO
namespace Go.Ev
variable {Rt : Type}

/-! ## What a writing operation leaves alone -/
def Agree (f f' : Nat → Option Ob) (nx : Nat) (T : List Nat) : Prop := ∀ i, i < nx → i ∉ T → f' i = f i

def touchOf (P : Program) (O : Orc Rt) (o : Oper) (ρ : Operand → PV) (f : Nat → Option Ob) : List Nat :=
  match o.op with
  | .alloc _ => []
  | .box _ _ => []
  | .store t a x => refsV (ρ a) ++ cond (toArrB f (ρ a)) (snapSs f ρ (Op.store t a x).operands.toList) []
  | .buildSlice t len parts => snapSs f ρ (Op.buildSlice t len parts).operands.toList
  | .makeSlice _ _ _ => []
  | .convert _ _ _ => []
  | .makeMap _ _ => []
  | .mapUpdate _ x _ _ => refsV (ρ x)
  | .range _ _ => []
  | .next x true => refsV (ρ x)
  | .call { callee := .builtin .append, args := ⟨[x, _]⟩, argTypes := ⟨[_, _]⟩ } => refsV (ρ x)
  | .call { callee := .builtin .copy, args := ⟨[x, _]⟩, argTypes := ⟨[_, _]⟩ } => refsV (ρ x)
  | _ => match calleeOf P o ρ with
    | some (g, args) => match snapVs f (O.byRef g) args with
      | some (as, S) => reach f 1000 (refsVs as) [] ++ S
      | none => []
    | none => []

theorem agree_new (f : Nat → Option Ob) (nx : Nat) (x : Option Ob) (T : List Nat) : Agree f (updO f nx x) nx T := fun i hi _ => updO_ne _ _ (by omega)

theorem dstL_refs {f : Nat → Option Ob} {s : Shape} {p : PV} {a : List (den s)} {o : Nat} {c : Option Nat} (h : dstL f s p = some (a, some o, c)) : o ∈ refsV p := by
  unfold dstL at h
  split at h
  · simp at h
  · split at h
    · split at h
      · rename_i s' o' off start len _ _ _ _ _
        cases hq : (Nat.beq off 0 && s'.beq s) with
        | false => rw [hq] at h; cases h
        | true =>
          rw [hq] at h
          simp only [cond, Option.some.injEq, Prod.mk.injEq] at h
          simp [refsV, refsL, h.2.1]
      · cases h
    · cases h
  · split at h
    · split at h
      · simp at h
      · cases h
    · cases h
  · split at h
    · simp at h
    · cases h
  · cases h

theorem evWrite_congr {P : Program} {O : Orc Rt} {o : Oper} {ρ : Operand → PV} {f : Nat → Option Ob} {nx : Nat} {K K2 : PV → (Nat → Option Ob) → Nat → Option Rt}
    (h : ∀ v f' nx', Agree f f' nx (touchOf P O o ρ f) → K v f' nx' = K2 v f' nx') : evWrite P O o ρ f nx K = evWrite P O o ρ f nx K2 := by
  unfold evWrite
  unfold touchOf at h
  split
  · unfold evAlloc evNewVar
    split
    · split
      · exact h _ _ _ (agree_new _ _ _ _)
      · rfl
    · rfl
  · unfold evBox evNewVar
    split
    · exact h _ _ _ (agree_new _ _ _ _)
    · rfl
  · rename_i t a x ho
    simp only [ho] at h
    have st : ∀ (p q : PV) (g : Nat → Option Ob), refsV p = refsV (ρ a) → (∀ i, i < nx → i ∉ (cond (toArrB f (ρ a)) (snapSs f ρ (Op.store t a x).operands.toList) [] : List Nat) → g i = f i) → evStore P t p q g nx K = evStore P t p q g nx K2 := fun p q g hp hg => by
      unfold evStore
      split
      · rename_i o' off sz idx inner lim gs i _ _
        cases (okG gs && Nat.beq (cellsG gs) i.size) with
        | false => rfl
        | true =>
          simp only [cond]
          split
          · split
            · refine h _ _ _ (fun i hi hT => ?_)
              simp only [List.mem_append, not_or] at hT
              rw [updO_ne _ _ (fun e => hT.1 (by rw [← hp, e]; simp [refsV, refsL])), hg i hi hT.2]
            · rfl
          · rfl
      · rfl
    unfold evStoreF
    cases hb : toArrB f (ρ a) with
    | false => exact st _ _ _ rfl (fun _ _ _ => rfl)
    | true =>
      simp only [cond]
      rw [fNats_eq, fNats_eq]
      split
      · exact st _ _ _ rfl (fun _ _ _ => rfl)
      · cases rowsB f (snapSs f ρ (Op.store t a x).operands.toList) with
        | false => rfl
        | true =>
          simp only []
          refine st _ _ _ ?_ (fun i hi hT => ?_)
          · unfold toArrB at hb
            split at hb
            · rename_i hp
              rw [hp]; rfl
            · cases hb
          · rw [hb] at hT
            exact frzAll_ne hT
  · rename_i t len parts ho
    simp only [ho] at h
    have st : ∀ (l : List (Nat × PV)) (g : Nat → Option Ob), (∀ i, i < nx → i ∉ snapSs f ρ (Op.buildSlice t len parts).operands.toList → g i = f i) → evBuildSlice P t len l g nx K = evBuildSlice P t len l g nx K2 := fun l g hg => by
      unfold evBuildSlice
      split
      · split
        · split
          · rename_i ie s _ _ _ z _
            cases (Nat.beq ie.size s.size && _ && _) with
            | false => rfl
            | true =>
              simp only [cond]
              split
              · refine h _ _ _ (fun i hi hT => ?_)
                rw [updO_ne _ _ (by omega), hg i hi hT]
              · rfl
          · rfl
        · rfl
      · rfl
    unfold evBuildSliceF
    rw [fNats_eq, fNats_eq]
    split
    · exact st _ _ (fun _ _ _ => rfl)
    · cases rowsB f (snapSs f ρ (Op.buildSlice t len parts).operands.toList) with
      | false => rfl
      | true => exact st _ _ (fun i hi hT => frzAll_ne hT)
  · unfold evMakeSlice
    split
    · split
      · split
        · split
          · rename_i ie s _ _ _ z _
            cases (Nat.beq ie.size s.size && _ && _) with
            | false => rfl
            | true =>
              simp only [cond]
              split
              · split
                · split
                  · exact h _ _ _ (agree_new _ _ _ _)
                  · rfl
                · rfl
              · rfl
          · rfl
        · rfl
      · rfl
    · rfl
  · split
    · unfold evBytes
      split
      · split
        · exact h _ _ _ (agree_new _ _ _ _)
        · rfl
      · rfl
    · unfold evCvtOwn
      split
      · split
        · cases Nat.beq _ _ with
          | false => rfl
          | true =>
            simp only [cond]
            split
            · rfl
            · exact h _ _ _ (fun i _ _ => rfl)
        · rfl
      · rfl
  · unfold evMakeMap
    split
    · split
      · exact h _ _ _ (agree_new _ _ _ _)
      · rfl
    · rfl
  · rename_i t x y z ho
    simp only [ho] at h
    unfold evMapUpdate
    split
    · rename_i o' kt et hp _
      split
      · rename_i ks vs m d _ _
        split
        · cases keyOk d ks with
          | false => rfl
          | true =>
            simp only [cond]
            refine h _ _ _ (fun i _ hi => updO_ne _ _ (fun e => hi ?_))
            rw [hp, e]; simp [refsV, refsL]
        · rfl
      · rfl
    · rfl
  · unfold evRange
    split
    · exact h _ _ _ (agree_new _ _ _ _)
    · rfl
  · rename_i x ho
    simp only [ho] at h
    unfold evNext
    split
    · rename_i o' hp
      split
      · split
        · refine h _ _ _ (fun i _ hi => updO_ne _ _ (fun e => hi ?_))
          rw [hp, e]; simp [refsV, refsL]
        · exact h _ _ _ (fun i _ _ => rfl)
      · rfl
    · rfl
  · rename_i x y t tx ho
    simp only [ho] at h
    unfold evAppend
    split
    · split
      · split
        · rename_i ie s _ _ _ z _
          cases (Nat.beq ie.size s.size && _ && _ && _) with
          | false => rfl
          | true =>
            simp only [cond]
            split
            · rename_i olds gone ex news hd hs
              split
              · split
                · rename_i o' _ _
                  refine h _ _ _ (fun i hi hT => ?_)
                  rw [updO_ne _ _ (by omega), updO_ne _ _ (fun e => hT (by subst e; exact dstL_refs hd))]
                · split
                  · exact h _ _ _ (agree_new _ _ _ _)
                  · rfl
                · rfl
              · rfl
            · rfl
        · rfl
      · rfl
    · rfl
  · rename_i x y t tx ho
    simp only [ho] at h
    unfold evCopy
    split
    · rename_i s o' start len cp l hp hq
      split
      · split
        · split
          · cases (Nat.beq _ _ && Shape.beq _ _) with
            | false => rfl
            | true =>
              simp only [cond]
              split
              · exact h _ _ _ (fun i _ _ => rfl)
              · refine h _ _ _ (fun i _ hi => updO_ne _ _ (fun e => hi ?_))
                rw [hp, e]; simp [refsV, refsL]
          · rfl
        · rfl
      · rfl
    · rfl
  · rename_i h1 h2 h3 h4 h5 h6 g1 g2 g3 g4 h7 h8
    have ht : ∀ g args as S, calleeOf P o ρ = some (g, args) → snapVs f (O.byRef g) args = some (as, S) → ∀ v f' nx', Agree f f' nx (reach f 1000 (refsVs as) [] ++ S) → K v f' nx' = K2 v f' nx' := fun g args as S hc hs v f' nx' hA => by
      refine h v f' nx' ?_
      split
      · rename_i e; exact absurd e (h1 _)
      · rename_i e; exact absurd e (h2 _ _)
      · rename_i e; exact absurd e (h3 _ _ _)
      · rename_i e; exact absurd e (h4 _ _ _)
      · rename_i e; exact absurd e (h5 _ _ _)
      · rename_i e; exact absurd e (h6 _ _ _)
      · rename_i e; exact absurd e (g1 _ _)
      · rename_i e; exact absurd e (g2 _ _ _ _)
      · rename_i e; exact absurd e (g3 _ _)
      · rename_i e; exact absurd e (g4 _)
      · rename_i e; exact absurd e (h7 _ _ _ _)
      · rename_i e; exact absurd e (h8 _ _ _ _)
      · simp only [hc, hs]; exact hA
    split
    · rename_i g args hc
      unfold evCall
      simp only [fNats_eq, fPVs_eq, fObl_eq]
      split
      · rename_i as S hs
        generalize hL : reach f 1000 (refsVs as) [] = L
        split
        · rename_i xs _
          cases (nodupB L && disjB S L && rowsB f S) with
          | false => rfl
          | true =>
            simp only [cond]
            congr 1
            funext out
            refine ht g args as S hc hs _ _ _ (fun i hi hT => ?_)
            rw [hL] at hT
            simp only [List.mem_append, not_or] at hT
            unfold afterOb
            cases hx : idxOf i L with
            | some j => exact absurd (List.mem_of_getElem? (idxOf_get hx)) hT.1
            | none =>
              simp only [show Nat.blt i nx = true from Nat.ble_eq_true_of_le hi, cond]
              cases hf : f i with
              | none => rfl
              | some y =>
                simp only []
                cases hz : ((dataV out.1 || dataObs out.2) && elemB i S) with
                | false => rfl
                | true =>
                  simp only [Bool.and_eq_true] at hz
                  exact absurd (elemB_mem.1 hz.2) hT.2
        · rfl
      · rfl
    · rename_i hc
      split
      · rename_i hx
        have hv : ∀ v, K v f nx = K2 v f nx := fun v => by
          refine h v f nx ?_
          exact fun i _ _ => rfl
        congr 1
        funext v
        exact hv v
      · rfl


open Classical in
theorem evOp_sound2 {P : Program} {O : Orc Rt} (hO : OrcOk P O) {o : Oper} {ρ : Operand → PV} {f : Nat → Option Ob} {nx : Nat} {K : PV → (Nat → Option Ob) → Nat → Option Rt} {r : Rt} (h : evOp P O o ρ f nx K = some r) :
    ∃ v f' nx', K v f' nx' = some r ∧ OpDid P o ρ f nx v f' nx' ∧ Agree f f' nx (touchOf P O o ρ f) := by
  have same : Agree f f nx (touchOf P O o ρ f) := fun _ _ _ => rfl
  unfold evOp at h
  simp only [fPV_eq, fNat_eq, fF_eq] at h
  split at h
  · rename_i hk
    obtain ⟨v, h1, h2⟩ := evPure_sound h
    exact ⟨v, f, nx, h1, by unfold OpDid; rw [hk]; exact ⟨rfl, rfl, h2.opW⟩, same⟩
  · rename_i hk
    split at h
    · rename_i v hv
      exact ⟨v, f, nx, h, by unfold OpDid; rw [hk]; exact ⟨rfl, rfl, hv⟩, same⟩
    · cases h
  · rename_i hk
    rw [evWrite_congr (K2 := fun v f' nx' => if Agree f f' nx (touchOf P O o ρ f) then K v f' nx' else none) (fun v f' nx' hA => by rw [if_pos hA])] at h
    obtain ⟨v, f', nx', h1, h2⟩ := evWrite_sound hO h
    split at h1
    · rename_i hA
      exact ⟨v, f', nx', h1, by unfold OpDid; rw [hk]; exact h2, hA⟩
    · cases h1
end Go.Ev
