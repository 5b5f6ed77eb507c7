/- Part of a proof about the given program: EvE. -/
import Derived.Test.YtbgbplacpjcmfaaEvD
namespace Go.Ev
variable {Rt : Type}

/-! ### slicing -/
def bnd (x : Option PV) (d top : Nat) (K : Nat → Option Rt) : Option Rt :=
  match x with
  | none => K d
  | some (.lf (.sc (.int _ i))) => if 0 ≤ i then (if i ≤ (top : Int) then K i.toNat else none) else none
  | _ => none

/-- What a bound that came through is. -/
def BndAt (x : Option Value) (d top r : Nat) : Prop := (x = none ∧ r = d) ∨ ∃ k i, x = some (.int k i) ∧ 0 ≤ i ∧ i ≤ (top : Int) ∧ r = i.toNat

theorem bnd_out {x : Option Operand} {d top : Nat} {K : Nat → Option Rt} {r : Rt} {ρ : Operand → PV} (h : bnd (x.map ρ) d top K = some r) :
    ∃ n, K n = some r ∧ (x = none → n = d) ∧ (x ≠ none → n ≤ top) ∧ ∀ (φ : Phi) (A : Nat → Prop) (w : World) (ρm : Operand → Value), (∀ y, x = some y → RelV φ A w (ρ y) (ρm y)) → BndAt (x.map ρm) d top n := by
  cases x with
  | none => exact ⟨d, h, fun _ => rfl, fun h => absurd rfl h, fun _ _ _ _ _ => .inl ⟨rfl, rfl⟩⟩
  | some y =>
    simp only [Option.map_some] at h
    unfold bnd at h
    generalize hp : ρ y = p at h
    split at h
    · rename_i e; cases e
    · rename_i k i e
      simp only [Option.some.injEq] at e
      split at h
      · rename_i h0
        split at h
        · rename_i h1
          refine ⟨i.toNat, h, (fun e => by cases e), (fun _ => by omega), fun φ A w ρm hr => .inr ⟨k, i, ?_, h0, h1, rfl⟩⟩
          have := hr y rfl
          rw [hp, e] at this
          simp only [RelV, RelL] at this
          simp [this]
        · cases h
      · cases h
    · cases h

theorem run_sliceBound {P : Program} {k : IntKind} {i : Int} {y : Nat} {code : BoundsCode} (h0 : 0 ≤ i) (h1 : i ≤ (y : Int)) (w : World) : (Instr.sliceBound (.int k i) y code).run P w = .ok i.toNat w := by
  unfold Instr.sliceBound
  simp only [run_bind', asIntOf, run_pure, h0, h1, and_self, if_true]

theorem run_sliceBounds {P : Program} {isS : Bool} {len cap : Nat} {lo hi mx : Option Value} {l h m : Nat} (hm : BndAt mx cap cap m) (hh : BndAt hi len m h) (hl : BndAt lo 0 h l) (hmx : mx ≠ none → hi ≠ none) (w : World) :
    (Instr.sliceBounds isS len cap lo hi mx).run P w = .ok (l, h, m) w := by
  unfold Instr.sliceBounds
  rcases hm with ⟨rfl, rfl⟩ | ⟨km, im, rfl, m0, m1, rfl⟩
  · rcases hh with ⟨rfl, rfl⟩ | ⟨kh, ih, rfl, h0, h1, rfl⟩
    · rcases hl with ⟨rfl, rfl⟩ | ⟨kl, il, rfl, l0, l1, rfl⟩ <;> simp only [run_bind', run_pure, run_sliceBound, *]
    · rcases hl with ⟨rfl, rfl⟩ | ⟨kl, il, rfl, l0, l1, rfl⟩ <;> simp only [run_bind', run_pure, run_sliceBound, *]
  · rcases hh with ⟨rfl, rfl⟩ | ⟨kh, ih, rfl, h0, h1, rfl⟩
    · exact absurd rfl (hmx (by simp))
    · rcases hl with ⟨rfl, rfl⟩ | ⟨kl, il, rfl, l0, l1, rfl⟩ <;> simp only [run_bind', run_pure, run_sliceBound, *]

theorem CellsAt.sub {w : World} {b off : Nat} {v1 v2 v3 : List Value} (h : CellsAt w b off (v1 ++ v2 ++ v3)) : CellsAt w b (off + v1.length) v2 := by
  intro j v hj
  have := h (v1.length + j) v (by
    rw [List.append_assoc, List.getElem?_append_right (by omega), Nat.add_sub_cancel_left, List.getElem?_append_left (by have := List.getElem?_eq_some_iff.1 hj; exact this.1)]
    exact hj)
  rwa [← Nat.add_assoc] at this

theorem Lift.sub {α : Type} {R : α → List Value → Prop} {n : Nat} (hR : ∀ x v, R x v → v.length = n) {xs : List α} {vs : List Value} (h : Lift R xs vs) {l k : Nat} (hlk : l ≤ k) (hk : k ≤ xs.length) :
    ∃ v1 v2 v3, vs = v1 ++ v2 ++ v3 ∧ v1.length = l * n ∧ Lift R ((xs.take k).drop l) v2 := by
  have e : xs = (xs.take l ++ (xs.take k).drop l) ++ xs.drop k := by
    conv => lhs; rw [← List.take_append_drop k xs]
    congr 1
    conv => lhs; rw [← List.take_append_drop l (xs.take k)]
    rw [List.take_take, Nat.min_eq_left hlk]
  rw [e] at h
  obtain ⟨u, v3, e1, h1, _⟩ := Lift.split h
  obtain ⟨v1, v2, e2, h2, h3⟩ := Lift.split h1
  refine ⟨v1, v2, v3, by rw [e1, e2], ?_, h3⟩
  rw [Lift.length hR h2, List.length_take, Nat.min_eq_left (by omega)]

theorem Row.sub {α : Type} {R : α → List Value → Prop} {A : Nat → Prop} {w : World} {n : Nat} (hR : ∀ x v, R x v → v.length = n) {xs : List α} {b off : Nat} (h : Row R A w xs (some ⟨b, off, none⟩)) {l k : Nat} (hlk : l ≤ k) (hk : k ≤ xs.length) :
    Row R A w ((xs.take k).drop l) (some ⟨b, off + l * n, none⟩) := by
  rcases h with h | ⟨b', off', vs, e, hA, hb, hl, hc⟩
  · exact .inl (by rw [h]; simp)
  · simp only [Option.some.injEq, Addr.mk.injEq, and_true] at e
    obtain ⟨rfl, rfl⟩ := e
    obtain ⟨v1, v2, v3, e, hlen, hl2⟩ := Lift.sub hR hl hlk hk
    exact .inr ⟨b, off + l * n, v2, rfl, hA, hb, hl2, by rw [e] at hc; rw [← hlen]; exact hc.sub⟩

def cutL {α : Type} (xs : List α) (lo hi : Option Operand) (l h : Nat) : List α :=
  match lo, hi with
  | none, none => xs
  | some _, none => xs.drop l
  | none, some _ => xs.take h
  | some _, some _ => (xs.take h).drop l

theorem cutL_eq {α : Type} {xs : List α} {lo hi : Option Operand} {l h : Nat} (hl : lo = none → l = 0) (hh : hi = none → h = xs.length) : cutL xs lo hi l h = (xs.take h).drop l := by
  unfold cutL
  split
  · rw [hl rfl, hh rfl]; simp
  · rw [hh rfl]; simp
  · rw [hl rfl]; simp
  · rfl

def capAt (cap : Option Nat) (mx : Option Operand) (l m : Nat) : Option Nat :=
  match mx with
  | some _ => some (m - l)
  | none => match cap with
    | some c => some (c - l)
    | none => none

def shapeAll (f : TypeId → Option Shape) : List Field → Option Shape
  | [] => none
  | [a] => f a.type
  | a :: b => match f a.type, shapeAll f b with
    | some x, some y => some (.pair x y)
    | _, _ => none

def shapeOf (P : Program) : Nat → TypeId → Option Shape
  | 0, _ => none
  | n + 1, t => match P.underlying t with
    | some (.int k) => some (.int k)
    | some .bool => some .bool
    | some .string => some .str
    | some (.slice e) => (shapeOf P n e).map .slice
    | some (.struct fs) => shapeAll (shapeOf P n) fs.toList
    | _ => none

def evSlice (P : Program) (o : Oper) (ρ : Operand → PV) (t : TypeId) (p : PV) (lo hi mx : Option Operand) (K : PV → Option Rt) : Option Rt :=
  match P.underlying t with
  | some .string => match p with
    | .lf (.sc (.string s)) => match mx with
      | none => bnd (hi.map ρ) s.size s.size fun h => bnd (lo.map ρ) 0 h fun l => K (sc (.string (s.extract l h)))
      | some _ => none
    | _ => none
  | some (.slice e) => match P.info? e with
    | some ei => match p with
      | .lf (.sl s xs cap) => cond (Nat.beq ei.size s.size && (mx.isNone || hi.isSome))
          (bnd (mx.map ρ) xs.length xs.length fun m => bnd (hi.map ρ) xs.length m fun h => bnd (lo.map ρ) 0 h fun l => K (.lf (.sl s (cutL xs lo hi l h) (capAt cap mx l m)))) none
      | .lf (.slr s a off start len cap lim) => cond (Nat.beq ei.size s.size && (mx.isNone || hi.isSome))
          (bnd (mx.map ρ) len len fun m => bnd (hi.map ρ) len m fun h => bnd (lo.map ρ) 0 h fun l => K (.lf (.slr s a off (start + l) (h - l) (capAt cap mx l m) lim))) none
      | _ => match scalarOp P o ρ with | some v => K v | none => none
    | none => none
  | some (.array n e) => match P.info? e, shapeOf P 9 e with
    | some ei, some s => match p with
      | .lf (.ptr a off sz _ inner _) => cond (Nat.beq ei.size s.size && Nat.beq sz 0 && (mx.isNone || hi.isSome))
          (bnd (mx.map ρ) n n fun m => bnd (hi.map ρ) n m fun h => bnd (lo.map ρ) 0 h fun l => K (.lf (.slr s a (off + inner) l (h - l) (some (m - l)) (some n)))) none
      | _ => none
    | _, _ => none
  | _ => none

theorem BndAt.none_eq {d top r : Nat} (h : BndAt none d top r) : r = d := by
  rcases h with ⟨_, h⟩ | ⟨k, i, h, _⟩
  · exact h
  · cases h

theorem evSlice_sound {P : Program} {o : Oper} {t : TypeId} {x : Operand} {lo hi mx : Option Operand} (ho : o.op = .slice t x lo hi mx) {ρ : Operand → PV} {K : PV → Option Rt} {r : Rt}
    (h : evSlice P o ρ t (ρ x) lo hi mx K = some r) : Pured P o ρ K r := by
  have hx : x ∈ o.op.operands := by rw [ho]; simp [Op.operands]
  have hlo : ∀ y, lo = some y → y ∈ o.op.operands := fun y e => by rw [ho, e]; simp [Op.operands]
  have hhi : ∀ y, hi = some y → y ∈ o.op.operands := fun y e => by rw [ho, e]; simp [Op.operands]
  have hmx : ∀ y, mx = some y → y ∈ o.op.operands := fun y e => by rw [ho, e]; simp [Op.operands]
  have ex : ∀ {ρm : Operand → Value} {w : World} {v : Value}, (Instr.sliceAt t (ρm x) (lo.map ρm) (hi.map ρm) (mx.map ρm)).run P w = .ok v w → (execOp ρm o).run P w = .ok (.value v) w := fun {ρm w v} hv => by
    unfold execOp; rw [ho]; simp only []; rw [run_bind', hv]; rfl
  have hmn : mx.isNone = true ∨ hi.isSome = true → ∀ ρm : Operand → Value, mx.map ρm ≠ none → hi.map ρm ≠ none := fun h ρm hn => by
    rcases h with h | h
    · rw [Option.isNone_iff_eq_none] at h; rw [h] at hn; exact absurd rfl hn
    · obtain ⟨z, hz⟩ := Option.isSome_iff_exists.1 h; rw [hz]; simp
  generalize hp : ρ x = p at h
  unfold evSlice at h
  split at h
  · rename_i hu
    split at h
    · rename_i s
      split at h
      · obtain ⟨hh, h, eh, bh, Hh⟩ := bnd_out h
        obtain ⟨ll, h, el, bl, Hl⟩ := bnd_out h
        refine ⟨_, h, fun φ A w ρm hr => ?_⟩
        have e1 := hr x hx; rw [hp] at e1; simp only [RelV, RelL] at e1
        refine ⟨_, ex (v := .string (s.extract ll hh)) ?_, RelV_sc ..⟩
        have B1 := Hh φ A w ρm (fun y e => hr y (hhi y e))
        have B2 := Hl φ A w ρm (fun y e => hr y (hlo y e))
        unfold Instr.sliceAt
        rw [run_bind', run_und hu]
        simp only []
        unfold Instr.slice
        rw [run_bind', run_und hu, e1]
        simp only [Option.map_none, Option.isSome_none, Bool.false_eq_true, if_false]
        simp only [run_bind', run_sliceBounds (P := P) (isS := false) (.inl ⟨rfl, rfl⟩) B1 B2 (fun h => absurd rfl h) w, run_pure]
      · cases h
    · cases h
  · rename_i e hu
    split at h
    · rename_i ei hei
      split at h
      · rename_i s xs cap
        cases hb : (Nat.beq ei.size s.size && (mx.isNone || hi.isSome)) with
        | false => rw [hb] at h; cases h
        | true =>
          rw [hb] at h; simp only [cond] at h
          simp only [Bool.and_eq_true, Bool.or_eq_true] at hb
          have hsz := Nat.eq_of_beq_eq_true hb.1
          obtain ⟨mm, h, em, bm, Hm⟩ := bnd_out h
          obtain ⟨hh, h, eh, bh, Hh⟩ := bnd_out h
          obtain ⟨ll, h, el, bl, Hl⟩ := bnd_out h
          refine ⟨_, h, fun φ A w ρm hr => ?_⟩
          have e1 := hr x hx; rw [hp] at e1; simp only [RelV, RelL] at e1
          obtain ⟨ad, c, ev, hc, hlc, hrow⟩ := e1
          have hmx0 : mm ≤ xs.length := by cases mx with | none => rw [em rfl]; exact Nat.le_refl _ | some _ => exact bm (by simp)
          have hh0 : hh ≤ mm ∧ hh ≤ xs.length := by
            cases hi with
            | none => cases mx with
              | none => rw [eh rfl, em rfl]; exact ⟨Nat.le_refl _, Nat.le_refl _⟩
              | some _ => rcases hb.2 with h | h <;> simp at h
            | some _ => have := bh (by simp); omega
          have hl0 : ll ≤ hh := by cases lo with | none => rw [el rfl]; exact Nat.zero_le _ | some _ => exact bl (by simp)
          -- the machine's own end of the capacity
          obtain ⟨M, hM, hMm⟩ : ∃ M, BndAt (mx.map ρm) c c M ∧ (mx = none → M = c) ∧ (mx ≠ none → M = mm) ∧ mm ≤ M := by
            have B := Hm φ A w ρm (fun y e => hr y (hmx y e))
            cases mx with
            | none => exact ⟨c, .inl ⟨rfl, rfl⟩, fun _ => rfl, fun h => absurd rfl h, by have := em rfl; omega⟩
            | some y =>
              rcases B with ⟨h, _⟩ | ⟨k, i, e, i0, i1, i2⟩
              · cases h
              · exact ⟨mm, .inr ⟨k, i, e, i0, by omega, i2⟩, (fun h => by cases h), (fun _ => rfl), Nat.le_refl _⟩
          have Bh : BndAt (hi.map ρm) xs.length M hh := by
            rcases Hh φ A w ρm (fun y e => hr y (hhi y e)) with B | ⟨k, i, e, i0, i1, i2⟩
            · exact .inl B
            · exact .inr ⟨k, i, e, i0, by omega, i2⟩
          have Bl := Hl φ A w ρm (fun y e => hr y (hlo y e))
          have hcut := cutL_eq (xs := xs) (l := ll) (h := hh) el (fun e => by rw [eh e])
          refine ⟨.slice (if M = ll then ad else ad.map (·.add (ll * ei.size))) (hh - ll) (M - ll), ex ?_, ?_⟩
          · unfold Instr.sliceAt
            rw [run_bind', run_und hu]
            simp only []
            unfold Instr.slice
            rw [run_bind', run_und hu, ev]
            simp only [run_bind', run_sliceBounds (P := P) (isS := true) hM Bh Bl (hmn hb.2 ρm) w, run_size hei, run_pure]
          · simp only [RelV, RelL]
            rw [hcut]
            have hlen : ((xs.take hh).drop ll).length = hh - ll := by simp [List.length_drop, List.length_take, Nat.min_eq_left hh0.2]
            rw [hlen]
            refine ⟨_, _, rfl, fun c' hc' => ?_, by omega, ?_⟩
            · unfold capAt at hc'
              cases mx with
              | some y => simp only [Option.some.injEq] at hc'; rw [← hc', hMm.2.1 (by simp)]
              | none =>
                cases cap with
                | none => cases hc'
                | some c1 => simp only [Option.some.injEq] at hc'; rw [← hc', hMm.1 rfl, hc c1 rfl]
            · by_cases hML : M = ll
              · refine .inl ?_
                have : hh - ll = 0 := by omega
                exact List.eq_nil_of_length_eq_zero (by rw [hlen, this])
              · rw [if_neg hML]
                rcases hrow with hn | ⟨b, off, vs, ea, hA, hbk, hlf, hcl⟩
                · exact .inl (by rw [hn]; simp)
                · rw [ea, Option.map_some, addr_add, hsz]
                  exact Row.sub (RelD.length A w s) (.inr ⟨b, off, vs, rfl, hA, hbk, hlf, hcl⟩) hl0 hh0.2
      · rename_i s a off start len cap lim
        cases hb : (Nat.beq ei.size s.size && (mx.isNone || hi.isSome)) with
        | false => rw [hb] at h; cases h
        | true =>
          rw [hb] at h; simp only [cond] at h
          simp only [Bool.and_eq_true, Bool.or_eq_true] at hb
          have hsz := Nat.eq_of_beq_eq_true hb.1
          obtain ⟨mm, h, em, bm, Hm⟩ := bnd_out h
          obtain ⟨hh, h, eh, bh, Hh⟩ := bnd_out h
          obtain ⟨ll, h, el, bl, Hl⟩ := bnd_out h
          refine ⟨_, h, fun φ A w ρm hr => ?_⟩
          have e1 := hr x hx; rw [hp] at e1; simp only [RelV, RelL] at e1
          obtain ⟨b, hbd, ad, c, ev, hlc, hcap, hlim, had⟩ := e1
          have hmx0 : mm ≤ len := by cases mx with | none => rw [em rfl]; exact Nat.le_refl _ | some _ => exact bm (by simp)
          have hh0 : hh ≤ mm ∧ hh ≤ len := by
            cases hi with
            | none => cases mx with
              | none => rw [eh rfl, em rfl]; exact ⟨Nat.le_refl _, Nat.le_refl _⟩
              | some _ => rcases hb.2 with h | h <;> simp at h
            | some _ => have := bh (by simp); omega
          have hl0 : ll ≤ hh := by cases lo with | none => rw [el rfl]; exact Nat.zero_le _ | some _ => exact bl (by simp)
          obtain ⟨M, hM, hMm⟩ : ∃ M, BndAt (mx.map ρm) c c M ∧ (mx = none → M = c) ∧ (mx ≠ none → M = mm) ∧ mm ≤ M := by
            have B := Hm φ A w ρm (fun y e => hr y (hmx y e))
            cases mx with
            | none => exact ⟨c, .inl ⟨rfl, rfl⟩, fun _ => rfl, fun h => absurd rfl h, by have := em rfl; omega⟩
            | some y =>
              rcases B with ⟨h, _⟩ | ⟨k, i, e, i0, i1, i2⟩
              · cases h
              · exact ⟨mm, .inr ⟨k, i, e, i0, by omega, i2⟩, (fun h => by cases h), (fun _ => rfl), Nat.le_refl _⟩
          have Bh : BndAt (hi.map ρm) len M hh := by
            rcases Hh φ A w ρm (fun y e => hr y (hhi y e)) with B | ⟨k, i, e, i0, i1, i2⟩
            · exact .inl B
            · exact .inr ⟨k, i, e, i0, by omega, i2⟩
          have Bl := Hl φ A w ρm (fun y e => hr y (hlo y e))
          have hMc : M ≤ c := by
            cases mx with
            | none => rw [hMm.1 rfl]; exact Nat.le_refl _
            | some _ => rw [hMm.2.1 (by simp)]; omega
          refine ⟨.slice (if M = ll then ad else ad.map (·.add (ll * ei.size))) (hh - ll) (M - ll), ex ?_, ?_⟩
          · unfold Instr.sliceAt
            rw [run_bind', run_und hu]
            simp only []
            unfold Instr.slice
            rw [run_bind', run_und hu, ev]
            simp only [run_bind', run_sliceBounds (P := P) (isS := true) hM Bh Bl (hmn hb.2 ρm) w, run_size hei, run_pure]
          · simp only [RelV, RelL]
            refine ⟨b, hbd, _, _, rfl, by omega, ?_, ?_, ?_⟩
            · unfold capAt
              cases mx with
              | some y => simp only []; rw [hMm.2.1 (by simp)]
              | none =>
                have := hMm.1 rfl
                cases cap with
                | none => simp only [] at hcap ⊢; omega
                | some c1 => simp only [] at hcap ⊢; omega
            · cases lim <;> simp only [] at hlim ⊢ <;> omega
            · by_cases hML : M = ll
              · exact .inl (by omega)
              · rw [if_neg hML]
                rcases had with ⟨h1, h2⟩ | had
                · omega
                · refine .inr ?_
                  rw [had, Option.map_some, addr_add, hsz, Nat.add_mul, ← Nat.add_assoc]
      · exact scal h
    · cases h
  · rename_i n e hu
    split at h
    · rename_i ei s hei hsh
      split at h
      · rename_i a off sz idx inner lim
        cases hb : (Nat.beq ei.size s.size && Nat.beq sz 0 && (mx.isNone || hi.isSome)) with
        | false => rw [hb] at h; cases h
        | true =>
          rw [hb] at h; simp only [cond] at h
          simp only [Bool.and_eq_true, Bool.or_eq_true] at hb
          have hsz := Nat.eq_of_beq_eq_true hb.1.1
          have hz := Nat.eq_of_beq_eq_true hb.1.2
          subst hz
          obtain ⟨mm, h, em, bm, Hm⟩ := bnd_out h
          obtain ⟨hh, h, eh, bh, Hh⟩ := bnd_out h
          obtain ⟨ll, h, el, bl, Hl⟩ := bnd_out h
          refine ⟨_, h, fun φ A w ρm hr => ?_⟩
          have e1 := hr x hx; rw [hp] at e1; simp only [RelV, RelL] at e1
          obtain ⟨b, hbd, ev, _⟩ := e1
          have hmx0 : mm ≤ n := by cases mx with | none => rw [em rfl]; exact Nat.le_refl _ | some _ => exact bm (by simp)
          have hh0 : hh ≤ mm := by
            cases hi with
            | none => cases mx with
              | none => rw [eh rfl, em rfl]; exact Nat.le_refl _
              | some _ => rcases hb.2 with h | h <;> simp at h
            | some _ => exact bh (by simp)
          have hl0 : ll ≤ hh := by cases lo with | none => rw [el rfl]; exact Nat.zero_le _ | some _ => exact bl (by simp)
          have B1 := Hm φ A w ρm (fun y e => hr y (hmx y e))
          have B2 := Hh φ A w ρm (fun y e => hr y (hhi y e))
          have B3 := Hl φ A w ρm (fun y e => hr y (hlo y e))
          refine ⟨.slice (some (if mm = ll then ⟨b.blk, b.base + off + (idx * 0 + inner), none⟩ else ⟨b.blk, b.base + off + (idx * 0 + inner) + ll * ei.size, none⟩)) (hh - ll) (mm - ll), ex ?_, ?_⟩
          · unfold Instr.sliceAt
            rw [run_bind', run_und hu]
            simp only [ev, Instr.sureAddr, run_bind', run_pure, run_sliceBounds (P := P) (isS := false) B1 B2 B3 (hmn hb.2 ρm) w, run_size hei, addr_add]
          · simp only [RelV, RelL]
            refine ⟨b, hbd, _, _, rfl, by omega, rfl, by omega, ?_⟩
            by_cases hML : mm = ll
            · exact .inl (by omega)
            · rw [if_neg hML, hsz]
              exact .inr (by simp only [Nat.mul_zero, Nat.zero_add, Nat.add_assoc])
      · cases h
    · cases h
  · cases h
end Go.Ev
