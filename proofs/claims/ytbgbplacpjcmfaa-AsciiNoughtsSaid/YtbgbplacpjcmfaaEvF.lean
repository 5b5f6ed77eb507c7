/- Part of a proof about the given program: EvF. -/
import Derived.Test.YtbgbplacpjcmfaaEvE
namespace Go.Ev
variable {Rt : Type}

/-! ### zeros -/
def zeroD : (s : Shape) → List Value → Bool
  | .int k, [.int k' n] => Nat.beq (kindNo k) (kindNo k') && decide (n = 0)
  | .bool, [.bool b] => !b
  | .str, [.string s] => Nat.beq s.data.size 0
  | .pair a b, vs => zeroD a (vs.take a.size) && zeroD b (vs.drop a.size)
  | .slice _, [.slice none 0 0] => true
  | _, _ => false

theorem zeroD_rel (A : Nat → Prop) (w : World) : ∀ {s : Shape} {vs : List Value}, zeroD s vs = true → RelD A w s (zero s) vs
  | .int k, vs, h => by
    unfold zeroD at h
    split at h <;> try cases h
    all_goals (rename_i e1; try cases e1)
    rename_i k' n
    simp only [Bool.and_eq_true, decide_eq_true_eq] at h
    rw [kindNo_inj (Nat.eq_of_beq_eq_true h.1), h.2]; rfl
  | .bool, vs, h => by
    unfold zeroD at h
    split at h <;> try cases h
    all_goals (rename_i e1; try cases e1)
    rename_i b
    simp only [Bool.not_eq_true'] at h
    rw [h]; rfl
  | .str, vs, h => by
    unfold zeroD at h
    split at h <;> try cases h
    all_goals (rename_i e1; try cases e1)
    rename_i s
    have h0 := Nat.eq_of_beq_eq_true h
    have : s = ⟨#[]⟩ := by
      cases s with | mk d => simp only [] at h0; rw [Array.eq_empty_of_size_eq_zero h0]
    rw [this]; rfl
  | .pair a b, vs, h => by
    simp only [zeroD, Bool.and_eq_true] at h
    exact ⟨_, _, (List.take_append_drop a.size vs).symm, zeroD_rel A w h.1, zeroD_rel A w h.2⟩
  | .slice a, vs, h => by
    unfold zeroD at h
    split at h <;> try cases h
    all_goals (rename_i e1; try cases e1)
    exact ⟨none, 0, rfl, Nat.le_refl _, .inl rfl⟩

def zeroMany (s : Shape) : Nat → List Value → Bool
  | 0, vs => vs.isEmpty
  | n + 1, vs => zeroD s (vs.take s.size) && zeroMany s n (vs.drop s.size)

theorem zeroMany_rel (A : Nat → Prop) (w : World) {s : Shape} : ∀ {n : Nat} {vs : List Value}, zeroMany s n vs = true → Lift (RelD A w s) (List.replicate n (zero s)) vs
  | 0, vs, h => by
    simp only [zeroMany, List.isEmpty_iff] at h; rw [h]; rfl
  | n + 1, vs, h => by
    simp only [zeroMany, Bool.and_eq_true] at h
    rw [List.replicate_succ]
    exact ⟨_, _, (List.take_append_drop s.size vs).symm, zeroD_rel A w h.1, zeroMany_rel A w h.2⟩

def noAgg : Value → Bool
  | .agg _ => false
  | .tuple _ => false
  | _ => true
def scSegs : List Value → List Seg
  | [] => []
  | v :: l => .lf (.sc v) :: scSegs l

theorem scSegs_rel (φ : Phi) (A : Nat → Prop) (w : World) : ∀ l : List Value, RelG φ A w (scSegs l) l
  | [] => rfl
  | v :: l => ⟨[v], l, rfl, ⟨v, rfl, by simp [RelL]⟩, scSegs_rel φ A w l⟩

def carveFs (P : Program) (f : TypeId → List Value → Option (List Seg)) : List Field → List Value → Option (List Seg)
  | [], vs => cond vs.isEmpty (some []) none
  | fd :: fs, vs => match P.info? fd.type with
    | some i => match f fd.type (vs.take i.size), carveFs P f fs (vs.drop i.size) with
      | some a, some b => some (a ++ b)
      | _, _ => none
    | none => none

def carve (P : Program) : Nat → TypeId → List Value → Option (List Seg)
  | 0, _, _ => none
  | n + 1, t, vs => match P.underlying t with
    | some (.struct fs) => carveFs P (carve P n) fs.toList vs
    | some (.array k e) => match shapeOf P 9 e with
      | some s => cond (zeroMany s k vs) (some [.many s (List.replicate k (zero s)) k]) none
      | none => some (scSegs vs)
    | _ => some (scSegs vs)

theorem RelG.append {φ : Phi} {A : Nat → Prop} {w : World} {a b : List Seg} {u v : List Value} (h : RelG φ A w a u) (h' : RelG φ A w b v) : RelG φ A w (a ++ b) (u ++ v) := Lift.append h h'

theorem carveFs_rel {P : Program} {φ : Phi} {A : Nat → Prop} {w : World} {f : TypeId → List Value → Option (List Seg)} (hf : ∀ t vs g, f t vs = some g → RelG φ A w g vs) : ∀ {fs : List Field} {vs : List Value} {g : List Seg}, carveFs P f fs vs = some g → RelG φ A w g vs
  | [], vs, g, h => by
    unfold carveFs at h
    cases he : vs.isEmpty with
    | false => rw [he] at h; cases h
    | true =>
      rw [he] at h; simp only [cond, Option.some.injEq] at h
      rw [List.isEmpty_iff] at he
      rw [← h, he]; rfl
  | fd :: fs, vs, g, h => by
    unfold carveFs at h
    split at h
    · rename_i i hi
      split at h
      · rename_i a b ha hb
        simp only [Option.some.injEq] at h
        rw [← h]
        have := RelG.append (hf _ _ _ ha) (carveFs_rel hf hb)
        rwa [List.take_append_drop] at this
      · cases h
    · cases h

theorem carve_rel {P : Program} {φ : Phi} {A : Nat → Prop} {w : World} : ∀ {n : Nat} {t : TypeId} {vs : List Value} {g : List Seg}, carve P n t vs = some g → RelG φ A w g vs
  | 0, _, _, _, h => by cases h
  | n + 1, t, vs, g, h => by
    unfold carve at h
    split at h
    · exact carveFs_rel (fun _ _ _ h => carve_rel h) h
    · rename_i k e _
      split at h
      · rename_i s _
        cases hz : zeroMany s k vs with
        | false => rw [hz] at h; cases h
        | true =>
          rw [hz] at h; simp only [cond, Option.some.injEq] at h
          rw [← h]
          exact ⟨vs, [], (List.append_nil _).symm, ⟨List.length_replicate, zeroMany_rel A w hz⟩, rfl⟩
      · simp only [Option.some.injEq] at h; rw [← h]; exact scSegs_rel φ A w vs
    · simp only [Option.some.injEq] at h; rw [← h]; exact scSegs_rel φ A w vs

/-- A type's zero value, as a value; as segments. -/
def zeroPV (P : Program) (t : TypeId) : Option PV :=
  match P.underlying t, P.info? t with
  | some d, some i => match i.zero with
    | some z => cond (aggD d) (match z with | .agg cs => (match carve P 9 t cs.toList with | some g => some (.agg g) | none => none) | _ => none) (cond (noAgg z) (some (sc z)) none)
    | none => none
  | _, _ => none

theorem run_zero {P : Program} {t : TypeId} {i : TypeInfo} {z : Value} (h : P.info? t = some i) (hz : i.zero = some z) (w : World) : (zeroValue t).run P w = .ok z w := by
  unfold zeroValue; rw [run_bind', run_info h]; simp only [hz]; rfl

theorem zeroPV_rel {P : Program} {t : TypeId} {p : PV} (h : zeroPV P t = some p) : ∃ i z, P.info? t = some i ∧ i.zero = some z ∧ ∀ φ A w, RelV φ A w p z := by
  unfold zeroPV at h
  split at h
  · rename_i d i hd hi
    split at h
    · rename_i z hz
      refine ⟨i, z, hi, hz, fun φ A w => ?_⟩
      cases ha : aggD d with
      | true =>
        rw [ha] at h; simp only [cond] at h
        split at h
        · rename_i cs
          split at h
          · rename_i g hg
            simp only [Option.some.injEq] at h
            rw [← h]; simp only [RelV]
            exact ⟨cs.toList, rfl, carve_rel hg⟩
          · cases h
        · cases h
      | false =>
        rw [ha] at h; simp only [cond] at h
        split at h
        · simp only [Option.some.injEq] at h
          rw [← h]; exact RelV_sc ..
        · cases h
    · cases h
  · cases h

/-! ### a value's segments -/
def leafOk : Lf → Bool
  | .any => false
  | .sc v => noAgg v
  | _ => true

def segsOf : PV → Option (List Seg)
  | .lf l => cond (leafOk l) (some [.lf l]) none
  | .agg g => some g
  | _ => none

theorem cells_leaf {φ : Phi} {A : Nat → Prop} {w : World} {l : Lf} {v : Value} (h : leafOk l = true) (hr : RelL φ A w l v) : v.cells = #[v] := by
  cases l <;> simp only [leafOk] at h <;> simp only [RelL] at hr
  case any => cases h
  case anyb => obtain ⟨b, e⟩ := hr; rw [e]; rfl
  case sc u => subst hr; cases v <;> first | rfl | cases h
  case ptr => obtain ⟨b, _, e, _⟩ := hr; rw [e]; rfl
  case sl => obtain ⟨a, c, e, _⟩ := hr; rw [e]; rfl
  case dp => obtain ⟨b, o, vs, e, _⟩ := hr; rw [e]; rfl
  case slr => obtain ⟨b, _, a, c, e, _⟩ := hr; rw [e]; rfl
  case fnc => obtain ⟨vs, e, _⟩ := hr; rw [e]; rfl
  case ifc => obtain ⟨u, e, _⟩ := hr; rw [e]; rfl
  case mp => obtain ⟨b, _, e⟩ := hr; rw [e]; rfl

theorem segsOf_rel {φ : Phi} {A : Nat → Prop} {w : World} {p : PV} {g : List Seg} {v : Value} (h : segsOf p = some g) (hr : RelV φ A w p v) : RelG φ A w g v.cells.toList := by
  unfold segsOf at h
  split at h
  · rename_i l
    cases hl : leafOk l with
    | false => rw [hl] at h; cases h
    | true =>
      rw [hl] at h; simp only [cond, Option.some.injEq] at h
      simp only [RelV] at hr
      rw [cells_leaf hl hr, ← h]
      exact ⟨[v], [], rfl, ⟨v, rfl, hr⟩, rfl⟩
  · simp only [Option.some.injEq] at h
    simp only [RelV] at hr
    obtain ⟨vs, e, hg⟩ := hr
    rw [e, ← h]; exact hg
  · cases h

def cellsG : List Seg → Nat
  | [] => 0
  | x :: g => x.cells + cellsG g

theorem cellsG_rel {φ : Phi} {A : Nat → Prop} {w : World} : ∀ {g : List Seg} {vs : List Value}, RelG φ A w g vs → vs.length = cellsG g
  | [], _, h => by rw [show _ = _ from h]; rfl
  | x :: g, _, ⟨v1, v2, e, h1, h2⟩ => by
    rw [e, List.length_append, h1.length, cellsG_rel h2]; rfl

/-- Segments put in the place of others. -/
def putG (g : List Seg) (off : Nat) (new : List Seg) : Option (List Seg) :=
  match takeG g off, dropG g (off + cellsG new) with
  | some a, some b => some (a ++ (new ++ b))
  | _, _ => none

theorem putG_rel {φ : Phi} {A : Nat → Prop} {w : World} {g new g' : List Seg} {off : Nat} {vs ns : List Value} (h : putG g off new = some g') (hr : RelG φ A w g vs) (hn : RelG φ A w new ns) :
    RelG φ A w g' (vs.take off ++ (ns ++ vs.drop (off + ns.length))) := by
  unfold putG at h
  split at h
  · rename_i a b ha hb
    simp only [Option.some.injEq] at h
    rw [← h, cellsG_rel hn]
    exact RelG.append (takeG_rel ha hr) (RelG.append hn (dropG_rel hb hr))
  · cases h

/-- Data out of segments. -/
def castD {a b : Shape} (h : a.beq b = true) (x : List (den a)) : List (den b) := (Shape.eq_of_beq h) ▸ x

def leaf1 : List Seg → Option Lf
  | [.lf l] => some l
  | _ => none
def ofInt (k : IntKind) : Lf → Option Int
  | .sc (.int k' n) => cond (Nat.beq (kindNo k) (kindNo k')) (some n) none
  | _ => none
def ofBool : Lf → Option Bool
  | .sc (.bool b) => some b
  | _ => none
def ofStr : Lf → Option ByteArray
  | .sc (.string b) => some b
  | _ => none
def ofSl (a : Shape) : Lf → Option (List (den a))
  | .sl s xs _ => if h : s.beq a = true then some (castD h xs) else none
  | .sc (.slice none 0 0) => some []
  | _ => none

def ofSegs : (s : Shape) → List Seg → Option (den s)
  | .int k, g => match leaf1 g with | some l => ofInt k l | none => none
  | .bool, g => match leaf1 g with | some l => ofBool l | none => none
  | .str, g => match leaf1 g with | some l => ofStr l | none => none
  | .pair a b, g => match takeG g a.size, dropG g a.size with
    | some g1, some g2 => match ofSegs a g1, ofSegs b g2 with
      | some x, some y => some (x, y)
      | _, _ => none
    | _, _ => none
  | .slice a, g => match leaf1 g with | some l => ofSl a l | none => none

theorem RelG_one {φ : Phi} {A : Nat → Prop} {w : World} {l : Lf} {vs : List Value} (h : RelG φ A w [.lf l] vs) : ∃ v, vs = [v] ∧ RelL φ A w l v := by
  obtain ⟨v1, v2, e, ⟨v, e1, hv⟩, h2⟩ := h
  exact ⟨v, by rw [e, e1, show _ = _ from h2]; rfl, hv⟩

theorem castD_rel {A : Nat → Prop} {w : World} {a b : Shape} (h : a.beq b = true) {xs : List (den a)} {ad : Option Addr} (hr : Row (RelD A w a) A w xs ad) : (castD h xs).length = xs.length ∧ Row (RelD A w b) A w (castD h xs) ad := by
  have e := Shape.eq_of_beq h
  subst e
  exact ⟨rfl, hr⟩

theorem leaf1_eq {g : List Seg} {l : Lf} (h : leaf1 g = some l) : g = [.lf l] := by
  unfold leaf1 at h
  split at h
  · simp only [Option.some.injEq] at h; rw [h]
  · cases h

theorem ofSegs_rel {φ : Phi} {A : Nat → Prop} {w : World} : ∀ {s : Shape} {g : List Seg} {d : den s} {vs : List Value}, ofSegs s g = some d → RelG φ A w g vs → RelD A w s d vs
  | .int k, g, d, vs, h, hr => by
    simp only [ofSegs] at h
    split at h
    · rename_i l hl
      rw [leaf1_eq hl] at hr
      obtain ⟨v, e, hv⟩ := RelG_one hr
      unfold ofInt at h
      split at h
      · rename_i k' n
        cases hk : Nat.beq (kindNo k) (kindNo k') with
        | false => rw [hk] at h; cases h
        | true =>
          rw [hk] at h; simp only [cond, Option.some.injEq] at h
          simp only [RelL] at hv
          rw [e, hv, ← kindNo_inj (Nat.eq_of_beq_eq_true hk), ← h]; rfl
      · cases h
    · cases h
  | .bool, g, d, vs, h, hr => by
    simp only [ofSegs] at h
    split at h
    · rename_i l hl
      rw [leaf1_eq hl] at hr
      obtain ⟨v, e, hv⟩ := RelG_one hr
      unfold ofBool at h
      split at h
      · simp only [Option.some.injEq] at h
        simp only [RelL] at hv
        rw [e, hv, h]; rfl
      · cases h
    · cases h
  | .str, g, d, vs, h, hr => by
    simp only [ofSegs] at h
    split at h
    · rename_i l hl
      rw [leaf1_eq hl] at hr
      obtain ⟨v, e, hv⟩ := RelG_one hr
      unfold ofStr at h
      split at h
      · simp only [Option.some.injEq] at h
        simp only [RelL] at hv
        rw [e, hv, h]; rfl
      · cases h
    · cases h
  | .pair a b, g, d, vs, h, hr => by
    simp only [ofSegs] at h
    split at h
    · rename_i g1 g2 h1 h2
      split at h
      · rename_i x y hx hy
        simp only [Option.some.injEq] at h
        rw [← h]
        exact ⟨_, _, (List.take_append_drop a.size vs).symm, ofSegs_rel hx (takeG_rel h1 hr), ofSegs_rel hy (dropG_rel h2 hr)⟩
      · cases h
    · cases h
  | .slice a, g, d, vs, h, hr => by
    simp only [ofSegs] at h
    split at h
    · rename_i l hl
      rw [leaf1_eq hl] at hr
      obtain ⟨v, e, hv⟩ := RelG_one hr
      unfold ofSl at h
      split at h
      · rename_i s xs cap
        split at h
        · rename_i hb
          simp only [Option.some.injEq] at h
          simp only [RelL] at hv
          obtain ⟨ad, c, ev, _, hle, hrow⟩ := hv
          obtain ⟨hl, hrow'⟩ := castD_rel hb hrow
          rw [← h]
          exact ⟨ad, c, by rw [e, ev, hl], by rw [hl]; exact hle, hrow'⟩
        · cases h
      · simp only [Option.some.injEq] at h
        simp only [RelL] at hv
        rw [e, hv, ← h]
        exact ⟨none, 0, rfl, Nat.le_refl _, .inl rfl⟩
      · cases h
    · cases h
end Go.Ev
