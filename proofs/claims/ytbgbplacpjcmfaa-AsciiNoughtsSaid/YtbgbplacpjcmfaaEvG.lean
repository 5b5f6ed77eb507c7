/- Part of a proof about the given program: EvG. -/
import Derived.Test.YtbgbplacpjcmfaaEvF
import Derived.Test.YtbgbplacpjcmfaaEvD2
import Derived.Test.YtbgbplacpjcmfaaEvD3
import Derived.Laws.AppendOwn
import Derived.Laws.Tables
namespace Go.Ev
variable {Rt : Type}

/-! ### building -/
theorem foldl_set (off : Nat) : ∀ (vs : List Value) (k : Nat) (cs : Array Value), off + k + vs.length ≤ cs.size →
    ((vs.zipIdx k).foldl (fun (cs : Array Value) (x : Value × Nat) => cs.setIfInBounds (off + x.2) x.1) cs).toList = cs.toList.take (off + k) ++ (vs ++ cs.toList.drop (off + k + vs.length))
  | [], k, cs, _ => by simp
  | v :: vs, k, cs, h => by
    simp only [List.length_cons] at h
    rw [List.zipIdx_cons, List.foldl_cons, foldl_set off vs (k + 1) _ (by simp only [Array.size_setIfInBounds]; omega)]
    simp only [Array.toList_setIfInBounds]
    have hlt : off + k < cs.toList.length := by simp only [Array.length_toList]; omega
    rw [List.take_set, List.drop_set_of_lt (by omega)]
    rw [show off + (k + 1) = off + k + 1 from by omega, List.take_add_one, List.getElem?_eq_getElem hlt]
    rw [List.set_append_right _ _ (by simp; omega)]
    simp only [List.length_take, Option.toList, Nat.min_eq_left (Nat.le_of_lt hlt), Nat.sub_self, List.set_cons_zero, List.append_assoc, List.cons_append, List.nil_append, List.length_cons]
    congr 4
    omega

def fillG (places : List (Nat × Nat)) : List Seg → List (Nat × PV) → Option (List Seg)
  | g, [] => some g
  | g, (i, p) :: rest => match places[i]?, segsOf p with
    | some (off, size), some gs => cond (Nat.beq (cellsG gs) size) (match putG g off gs with | some g' => fillG places g' rest | none => none) none
    | _, _ => none

theorem dropG_cells {φ : Phi} {A : Nat → Prop} {w : World} : ∀ {g : List Seg} {n : Nat} {g' : List Seg} {vs : List Value}, dropG g n = some g' → RelG φ A w g vs → n ≤ vs.length
  | [], n, g', vs, h, _ => by
    unfold dropG at h
    cases hb : Nat.beq n 0 with
    | false => rw [hb] at h; cases h
    | true => rw [Nat.eq_of_beq_eq_true hb]; omega
  | x :: g, n, g', vs, h, hr => by
    unfold dropG at h
    cases hb : Nat.beq n 0 with
    | true => rw [Nat.eq_of_beq_eq_true hb]; omega
    | false =>
      rw [hb] at h; simp only [cond] at h
      cases hc : Nat.ble x.cells n with
      | false => rw [hc] at h; cases h
      | true =>
        rw [hc] at h; simp only [] at h
        obtain ⟨v1, v2, e, h1, h2⟩ := hr
        have := dropG_cells h h2
        have hl := h1.length
        have hle := Nat.le_of_ble_eq_true hc
        rw [e, List.length_append]; omega

theorem fillG_rel {φ : Phi} {A : Nat → Prop} {w : World} {places : List (Nat × Nat)} {ρ : Operand → PV} {ρm : Operand → Value} : ∀ (parts : List (Nat × Operand)) {g g' : List Seg} {cs : Array Value},
    fillG places g (parts.map fun x => (x.1, ρ x.2)) = some g' → (∀ x ∈ parts, RelV φ A w (ρ x.2) (ρm x.2)) → RelG φ A w g cs.toList →
    ∃ cs', Instr.fill (fun i => places[i]?) cs (parts.map fun x => (x.1, ρm x.2)) = some cs' ∧ RelG φ A w g' cs'.toList
  | [], g, g', cs, h, _, hg => by
    simp only [List.map_nil, fillG, Option.some.injEq] at h
    exact ⟨cs, rfl, h ▸ hg⟩
  | (i, x) :: parts, g, g', cs, h, hr, hg => by
    simp only [List.map_cons, fillG] at h
    split at h
    · rename_i off size gs hp hs
      cases hb : Nat.beq (cellsG gs) size with
      | false => rw [hb] at h; cases h
      | true =>
        rw [hb] at h; simp only [cond] at h
        have hsz := Nat.eq_of_beq_eq_true hb
        split at h
        · rename_i g1 hput
          have hv := segsOf_rel hs (hr (i, x) (List.mem_cons_self ..))
          have hlen : (ρm x).cells.size = size := by rw [← hsz, ← cellsG_rel hv, Array.length_toList]
          have hin : off + (ρm x).cells.size ≤ cs.size := by
            have h0 := hput
            unfold putG at h0
            split at h0
            · rename_i a b ha hb'
              have := dropG_cells hb' hg
              rw [hlen, ← hsz]; simpa using this
            · cases h0
          have hset := foldl_set off (ρm x).cells.toList 0 cs (by simpa using hin)
          have hfold : (ρm x).cells.zipIdx.foldl (fun (cs : Array Value) (y : Value × Nat) => cs.setIfInBounds (off + y.2) y.1) cs =
              ((ρm x).cells.toList.zipIdx 0).foldl (fun (cs : Array Value) (y : Value × Nat) => cs.setIfInBounds (off + y.2) y.1) cs := by
            rw [← Array.foldl_toList, Array.toList_zipIdx]
          have hg1 : RelG φ A w g1 ((ρm x).cells.zipIdx.foldl (fun (cs : Array Value) (y : Value × Nat) => cs.setIfInBounds (off + y.2) y.1) cs).toList := by
            rw [hfold, hset]
            have := putG_rel hput hg hv
            simpa using this
          obtain ⟨cs', hc, hg'⟩ := fillG_rel parts h (fun y hy => hr y (List.mem_cons_of_mem _ hy)) hg1
          refine ⟨cs', ?_, hg'⟩
          simp only [List.map_cons, Instr.fill, hp]
          rw [if_neg (by simp only [hlen]; simp; omega)]
          exact hc
        · cases h
    · cases h

def buildParts (parts : Array (Nat × Operand)) (ρ : Operand → PV) : List (Nat × PV) := parts.toList.map fun x => (x.1, ρ x.2)

/-- Elements put into a row. -/
def fillD (s : Shape) : List (den s) → List (Nat × PV) → Option (List (den s))
  | xs, [] => some xs
  | xs, (i, p) :: rest => match segsOf p with
    | some gs => cond (Nat.beq (cellsG gs) s.size && Nat.blt i xs.length) (match ofSegs s gs with | some d => fillD s (xs.set i d) rest | none => none) none
    | none => none

theorem Lift.set {α : Type} {R : α → List Value → Prop} {n : Nat} (hR : ∀ x v, R x v → v.length = n) : ∀ {xs : List α} {vs : List Value} {i : Nat} {d : α} {dv : List Value}, Lift R xs vs → i < xs.length → R d dv →
    Lift R (xs.set i d) (vs.take (i * n) ++ (dv ++ vs.drop (i * n + n)))
  | [], _, _, _, _, _, hi, _ => by simp at hi
  | x :: xs, vs, 0, d, dv, ⟨v1, v2, e, h1, h2⟩, _, hd => by
    have := hR _ _ h1
    simp only [List.set_cons_zero, Nat.zero_mul, List.take_zero, List.nil_append, Nat.zero_add]
    refine ⟨dv, v2, ?_, hd, h2⟩
    rw [e, List.drop_append, List.drop_of_length_le (by omega), this, Nat.sub_self]; rfl
  | x :: xs, vs, i + 1, d, dv, ⟨v1, v2, e, h1, h2⟩, hi, hd => by
    have hl := hR _ _ h1
    have ih := Lift.set hR h2 (by simpa using hi) hd
    simp only [List.set_cons_succ]
    refine ⟨v1, _, ?_, h1, ih⟩
    have e1 : (i + 1) * n = n + i * n := by rw [Nat.succ_mul, Nat.add_comm]
    rw [e, e1, List.take_append, List.take_of_length_le (by omega), List.append_assoc, hl, List.drop_append, List.drop_of_length_le (by omega), hl, List.nil_append]
    congr 3
    · congr 1; omega
    · congr 1; omega

theorem fillD_rel {φ : Phi} {A : Nat → Prop} {w : World} {s : Shape} {ρ : Operand → PV} {ρm : Operand → Value} : ∀ (parts : List (Nat × Operand)) {xs ys : List (den s)} {cs : Array Value},
    fillD s xs (parts.map fun x => (x.1, ρ x.2)) = some ys → (∀ x ∈ parts, RelV φ A w (ρ x.2) (ρm x.2)) → Lift (RelD A w s) xs cs.toList →
    ∃ cs', Instr.fill (fun i => some (i * s.size, s.size)) cs (parts.map fun x => (x.1, ρm x.2)) = some cs' ∧ Lift (RelD A w s) ys cs'.toList ∧ ys.length = xs.length
  | [], xs, ys, cs, h, _, hg => by
    simp only [List.map_nil, fillD, Option.some.injEq] at h
    exact ⟨cs, rfl, h ▸ hg, by rw [h]⟩
  | (i, x) :: parts, xs, ys, cs, h, hr, hg => by
    simp only [List.map_cons, fillD] at h
    split at h
    · rename_i gs hs
      cases hb : (Nat.beq (cellsG gs) s.size && Nat.blt i xs.length) with
      | false => rw [hb] at h; cases h
      | true =>
        rw [hb] at h; simp only [cond] at h
        simp only [Bool.and_eq_true] at hb
        have hsz := Nat.eq_of_beq_eq_true hb.1
        have hi : i < xs.length := Nat.le_of_ble_eq_true hb.2
        split at h
        · rename_i d hd
          have hv := segsOf_rel hs (hr (i, x) (List.mem_cons_self ..))
          have hD := ofSegs_rel hd hv
          have hlen : (ρm x).cells.size = s.size := by rw [← hsz, ← cellsG_rel hv, Array.length_toList]
          have hcs := Lift.length (RelD.length A w s) hg
          have hin : i * s.size + (ρm x).cells.size ≤ cs.size := by
            rw [hlen, ← Nat.succ_mul, ← Array.length_toList, hcs]
            exact Nat.mul_le_mul_right _ hi
          have hset := foldl_set (i * s.size) (ρm x).cells.toList 0 cs (by simpa using hin)
          have hfold : (ρm x).cells.zipIdx.foldl (fun (cs : Array Value) (y : Value × Nat) => cs.setIfInBounds (i * s.size + y.2) y.1) cs =
              ((ρm x).cells.toList.zipIdx 0).foldl (fun (cs : Array Value) (y : Value × Nat) => cs.setIfInBounds (i * s.size + y.2) y.1) cs := by
            rw [← Array.foldl_toList, Array.toList_zipIdx]
          have hg1 : Lift (RelD A w s) (xs.set i d) ((ρm x).cells.zipIdx.foldl (fun (cs : Array Value) (y : Value × Nat) => cs.setIfInBounds (i * s.size + y.2) y.1) cs).toList := by
            rw [hfold, hset]
            have := Lift.set (RelD.length A w s) hg hi hD
            simpa [hlen] using this
          obtain ⟨cs', hc, hg', hl'⟩ := fillD_rel parts h (fun y hy => hr y (List.mem_cons_of_mem _ hy)) hg1
          refine ⟨cs', ?_, hg', by rw [hl', List.length_set]⟩
          simp only [List.map_cons, Instr.fill]
          rw [if_neg (by simp only [hlen]; simp; omega)]
          exact hc
        · cases h
    · cases h

def evBuild (P : Program) (t : TypeId) (parts : List (Nat × PV)) (K : PV → Option Rt) : Option Rt :=
  match P.info? t, P.underlying t with
  | some it, some (.struct fields) => match it.zero, fields.toList.mapM (fun f => (P.info? f.type).map fun i => (f.offset, i.size)) with
    | some z, some places => match carve P 9 t z.cells.toList with
      | some g0 => match fillG places g0 parts with
        | some g => K (.agg g)
        | none => none
      | none => none
    | _, _ => none
  | some it, some (.array _ e) => match it.zero, P.info? e with
    | some z, some ie => match carve P 9 t z.cells.toList with
      | some [.many s xs k] => cond (Nat.beq ie.size s.size) (match fillD s xs parts with
        | some ys => K (.agg [.many s ys k])
        | none => none) none
      | _ => none
    | _, _ => none
  | _, _ => none

theorem evBuild_sound {P : Program} {o : Oper} {t : TypeId} {parts : Array (Nat × Operand)} (ho : o.op = .build t parts) {ρ : Operand → PV} {K : PV → Option Rt} {r : Rt}
    (h : evBuild P t (buildParts parts ρ) K = some r) : Pured P o ρ K r := by
  have hmem : ∀ x ∈ parts.toList, x.2 ∈ o.op.operands := fun x hx => by
    rw [ho]; simp only [Op.operands, List.mem_toArray, List.mem_map]; exact ⟨x, hx, rfl⟩
  unfold evBuild at h
  split at h
  · rename_i it fields hit hu
    split at h
    · rename_i z places hz hp
      split at h
      · rename_i g0 hg0
        split at h
        · rename_i g hg
          refine ⟨_, h, fun φ A w ρm hr => ?_⟩
          obtain ⟨cs', hc, hrel⟩ := fillG_rel (φ := φ) (A := A) (w := w) (ρm := ρm) parts.toList hg (fun x hx => hr x.2 (hmem x hx)) (cs := z.cells) (carve_rel hg0)
          refine ⟨.agg cs', ?_, by simp only [RelV]; exact ⟨cs'.toList, rfl, hrel⟩⟩
          unfold execOp; rw [ho]; simp only []
          rw [run_bind', run_build w t _ cs' ?_]
          · rfl
          · unfold Program.built
            simp only [hit, hu, hz, hp, Array.toList_map]
            simpa using hc
        · cases h
      · cases h
    · cases h
  · rename_i it n e hit hu
    split at h
    · rename_i z ie hz hie
      split at h
      · rename_i s xs k hg0
        cases hb : Nat.beq ie.size s.size with
        | false => rw [hb] at h; cases h
        | true =>
          rw [hb] at h; simp only [cond] at h
          have hsz := Nat.eq_of_beq_eq_true hb
          split at h
          · rename_i ys hys
            refine ⟨_, h, fun φ A w ρm hr => ?_⟩
            obtain ⟨v1, v2, e1, ⟨hk, hl⟩, e2⟩ := carve_rel (φ := φ) (A := A) (w := w) hg0
            have hv : z.cells.toList = v1 := by rw [e1, show _ = _ from e2, List.append_nil]
            obtain ⟨cs', hc, hrel, hlen⟩ := fillD_rel (φ := φ) (A := A) (w := w) (ρm := ρm) parts.toList hys (fun x hx => hr x.2 (hmem x hx)) (cs := z.cells) (by rw [hv]; exact hl)
            refine ⟨.agg cs', ?_, by simp only [RelV]; exact ⟨cs'.toList, rfl, cs'.toList, [], (List.append_nil _).symm, ⟨by rw [hlen, hk], hrel⟩, rfl⟩⟩
            unfold execOp; rw [ho]; simp only []
            rw [run_bind', run_build w t _ cs' ?_]
            · rfl
            · unfold Program.built
              simp only [hit, hu, hz, hie, Array.toList_map, hsz]
              simpa using hc
          · cases h
      · cases h
    · cases h
  · cases h

/-! ### interfaces, functions, lengths -/
def evMakeIface (P : Program) (o : Oper) (ρ : Operand → PV) (t : TypeId) (p : PV) (K : PV → Option Rt) : Option Rt :=
  match toVal p with
  | some _ => match scalarOp P o ρ with | some v => K v | none => none
  | none => match p with
    | .lf l => match P.underlying t with
      | some (.interface _) => none
      | some _ => K (.lf (.ifc t l))
      | none => none
    | _ => none

theorem evMakeIface_sound {P : Program} {o : Oper} {t : TypeId} {x : Operand} (ho : o.op = .makeInterface t x) {ρ : Operand → PV} {K : PV → Option Rt} {r : Rt}
    (h : evMakeIface P o ρ t (ρ x) K = some r) : Pured P o ρ K r := by
  have hx : x ∈ o.op.operands := by rw [ho]; simp [Op.operands]
  generalize hp : ρ x = p at h
  unfold evMakeIface at h
  split at h
  · exact scal h
  · split at h
    · split at h
      · cases h
      · rename_i l _ d hd hu
        refine ⟨_, h, fun φ A w ρm hr => ⟨.iface t (ρm x), ?_, ?_⟩⟩
        · unfold execOp; rw [ho]; simp only []
          unfold Instr.makeInterface
          simp only [run_bind', run_und hu]
          cases d <;> first | rfl | exact absurd hu (hd _)
        · have := hr x hx; rw [hp] at this; simp only [RelV] at this
          simp only [RelV, RelL]; exact ⟨_, rfl, this⟩
      · cases h
    · cases h

def lfsOf (ρ : Operand → PV) : List Operand → Option (List Lf)
  | [] => some []
  | x :: l => match ρ x, lfsOf ρ l with
    | .lf y, some ys => some (y :: ys)
    | _, _ => none

theorem lfsOf_rel {φ : Phi} {A : Nat → Prop} {w : World} {ρ : Operand → PV} {ρm : Operand → Value} : ∀ {l : List Operand} {ls : List Lf}, lfsOf ρ l = some ls → (∀ x ∈ l, RelV φ A w (ρ x) (ρm x)) → RelLs φ A w ls (l.map ρm)
  | [], ls, h, _ => by simp only [lfsOf, Option.some.injEq] at h; rw [← h]; simp [RelLs]
  | x :: l, ls, h, hr => by
    simp only [lfsOf] at h
    split at h
    · rename_i y ys hy hys
      simp only [Option.some.injEq] at h
      have := hr x (List.mem_cons_self ..)
      rw [hy] at this; simp only [RelV] at this
      rw [← h]; simp only [RelLs, List.map_cons]
      exact ⟨_, _, rfl, this, lfsOf_rel hys (fun z hz => hr z (List.mem_cons_of_mem _ hz))⟩
    · cases h

def evMakeFunc (ρ : Operand → PV) (fn : Fn) (first captured : Array Operand) (K : PV → Option Rt) : Option Rt :=
  match fn, first.toList, lfsOf ρ captured.toList with
  | .func f, [], some ls => K (.lf (.fnc f ls))
  | _, _, _ => none

theorem evMakeFunc_sound {P : Program} {o : Oper} {fn : Fn} {first captured : Array Operand} (ho : o.op = .makeFunc fn first captured) {ρ : Operand → PV} {K : PV → Option Rt} {r : Rt}
    (h : evMakeFunc ρ fn first captured K = some r) : Pured P o ρ K r := by
  unfold evMakeFunc at h
  split at h
  · rename_i f ls hf hl
    refine ⟨_, h, fun φ A w ρm hr => ?_⟩
    have hrel := lfsOf_rel (φ := φ) (A := A) (w := w) (ρm := ρm) hl (fun x hx => hr x (by rw [ho]; simp only [Op.operands, Array.mem_append]; exact .inr (by simpa using hx)))
    refine ⟨.func (.func f) #[] ⟨captured.toList.map ρm⟩, ?_, by simp only [RelV, RelL]; exact ⟨_, rfl, hrel⟩⟩
    unfold execOp; rw [ho]; simp only []
    have hf0 : first = #[] := by simpa using hf
    rw [hf0]
    unfold Instr.makeFunc
    simp only [run_bind', run_pure, Array.map_empty]
    congr 4
    apply Array.ext'; simp
  · cases h

def evLen (P : Program) (o : Oper) (ρ : Operand → PV) (t : TypeId) (p : PV) (K : PV → Option Rt) : Option Rt :=
  match p with
  | .lf (.sl _ xs _) => match P.underlying t with
    | some (.slice _) => K (sc (.int .i64 (xs.length : Int)))
    | _ => none
  | .lf (.slr _ _ _ _ len _ _) => match P.underlying t with
    | some (.slice _) => K (sc (.int .i64 (len : Int)))
    | _ => none
  | _ => match scalarOp P o ρ with | some v => K v | none => none

theorem evLen_sound {P : Program} {o : Oper} {x : Operand} {t : TypeId} {ats : Array TypeId} (ho : o.op = .call { callee := .builtin .len, args := #[x], argTypes := ats }) (hat : ats[0]? = some t) {ρ : Operand → PV} {K : PV → Option Rt} {r : Rt}
    (h : evLen P o ρ t (ρ x) K = some r) : Pured P o ρ K r := by
  have hx : x ∈ o.op.operands := by rw [ho]; simp [Op.operands, Call.operands]
  generalize hp : ρ x = p at h
  have ex : ∀ {ρm : Operand → Value} {w : World} {a : Option Addr} {n c : Nat} {e : TypeId}, P.underlying t = some (.slice e) → ρm x = .slice a n c → (execOp ρm o).run P w = .ok (.value (.int .i64 (n : Int))) w := fun {ρm w a n c e} hu hv => by
    unfold execOp; rw [ho]
    simp only [resolve, invoke, builtin, run_bind', run_pure, List.map_toArray, List.map_cons, List.map_nil]
    unfold Builtin.len_
    rw [hat]
    simp only [List.getElem?_toArray, List.getElem?_cons_zero, run_bind', run_und hu, hv]
    rfl
  unfold evLen at h
  split at h
  · rename_i s xs cap
    split at h
    · rename_i e hu
      refine ⟨_, h, fun φ A w ρm hr => ⟨_, ?_, RelV_sc ..⟩⟩
      have := hr x hx; rw [hp] at this; simp only [RelV, RelL] at this
      obtain ⟨ad, c, ev, _⟩ := this
      exact ex hu ev
    · cases h
  · rename_i s a b c len d f
    split at h
    · rename_i e hu
      refine ⟨_, h, fun φ A w ρm hr => ⟨_, ?_, RelV_sc ..⟩⟩
      have := hr x hx; rw [hp] at this; simp only [RelV, RelL] at this
      obtain ⟨b', _, ad, c, ev, _⟩ := this
      exact ex hu ev
    · cases h
  · exact scal h

/-- The lesser one, the greater one of two whole numbers. -/
def evTwo (P : Program) (o : Oper) (ρ : Operand → PV) (mx : Bool) (p q : PV) (K : PV → Option Rt) : Option Rt :=
  match p, q with
  | .lf (.sc (.int k a)), .lf (.sc (.int _ b)) => K (sc (.int k (cond mx (max a b) (min a b))))
  | _, _ => match scalarOp P o ρ with | some v => K v | none => none

theorem evMax_sound {P : Program} {o : Oper} {x y : Operand} {ats : Array TypeId} (ho : o.op = .call { callee := .builtin .max, args := #[x, y], argTypes := ats }) {ρ : Operand → PV} {K : PV → Option Rt} {r : Rt}
    (h : evTwo P o ρ true (ρ x) (ρ y) K = some r) : Pured P o ρ K r := by
  have hx : x ∈ o.op.operands := by rw [ho]; simp [Op.operands, Call.operands]
  have hy : y ∈ o.op.operands := by rw [ho]; simp [Op.operands, Call.operands]
  generalize hp : ρ x = p at h
  generalize hq : ρ y = q at h
  unfold evTwo at h
  split at h
  · rename_i k a k' b
    refine ⟨_, h, fun φ A w ρm hr => ⟨_, ?_, RelV_sc ..⟩⟩
    have h1 := hr x hx; have h2 := hr y hy
    rw [hp] at h1; rw [hq] at h2
    simp only [RelV, RelL] at h1 h2
    unfold execOp; rw [ho]
    simp only [resolve, invoke, builtin, run_bind', run_pure, List.map_toArray, List.map_cons, List.map_nil, h1, h2]
    unfold Builtin.max_
    simp only [List.foldlM, Builtin.max2, run_bind', run_pure, cond]
    congr 3
    rw [Int.max_def]
    by_cases hab : a ≤ b
    · by_cases he : a = b
      · subst he; simp
      · rw [if_pos (by omega), if_pos hab]
    · rw [if_neg (by omega), if_neg hab]
  · exact scal h

theorem evMin_sound {P : Program} {o : Oper} {x y : Operand} {ats : Array TypeId} (ho : o.op = .call { callee := .builtin .min, args := #[x, y], argTypes := ats }) {ρ : Operand → PV} {K : PV → Option Rt} {r : Rt}
    (h : evTwo P o ρ false (ρ x) (ρ y) K = some r) : Pured P o ρ K r := by
  have hx : x ∈ o.op.operands := by rw [ho]; simp [Op.operands, Call.operands]
  have hy : y ∈ o.op.operands := by rw [ho]; simp [Op.operands, Call.operands]
  generalize hp : ρ x = p at h
  generalize hq : ρ y = q at h
  unfold evTwo at h
  split at h
  · rename_i k a k' b
    refine ⟨_, h, fun φ A w ρm hr => ⟨_, ?_, RelV_sc ..⟩⟩
    have h1 := hr x hx; have h2 := hr y hy
    rw [hp] at h1; rw [hq] at h2
    simp only [RelV, RelL] at h1 h2
    unfold execOp; rw [ho]
    simp only [resolve, invoke, builtin, run_bind', run_pure, List.map_toArray, List.map_cons, List.map_nil, h1, h2]
    unfold Builtin.min_
    simp only [List.foldlM, Builtin.min2, run_bind', run_pure, cond]
    congr 3
    rw [Int.min_def]
    by_cases hab : a ≤ b
    · rw [if_neg (by omega), if_pos hab]
    · rw [if_pos (by omega), if_neg hab]
  · exact scal h

/-! ### one function for all -/
def evPure (P : Program) (o : Oper) (ρ : Operand → PV) (K : PV → Option Rt) : Option Rt :=
  match o.op with
  | .move x => K (ρ x)
  | .assign x => K (ρ x)
  | .pick c a b => evPick (ρ c) (ρ a) (ρ b) K
  | .binOp op t x y _ => cond (isAggV (ρ x)) (evEqS P op t (ρ x) (ρ y) K) (evBin P o op t (ρ x) (ρ y) ρ K)
  | .nilCheck x => evNilCheck P o ρ (ρ x) K
  | .fieldAddr t x f => evFieldAddr P t f (ρ x) K
  | .indexAddr t x y => evIndexAddr P t (ρ x) (ρ y) K
  | .field t x f => evField P t f (ρ x) K
  | .index t x y => evIndexA P t (ρ x) (ρ y) K
  | .extract x i => evExtract P o ρ i (ρ x) K
  | .slice t x lo hi mx => evSlice P o ρ t (ρ x) lo hi mx K
  | .build t parts => evBuild P t (buildParts parts ρ) K
  | .makeInterface t x => evMakeIface P o ρ t (ρ x) K
  | .makeFunc fn first captured => evMakeFunc ρ fn first captured K
  | .call { callee := .builtin .len, args := ⟨[x]⟩, argTypes := ats } => match ats[0]? with
    | some t => evLen P o ρ t (ρ x) K
    | none => none
  | .call { callee := .builtin .max, args := ⟨[x, y]⟩, argTypes := _ } => evTwo P o ρ true (ρ x) (ρ y) K
  | .call { callee := .builtin .min, args := ⟨[x, y]⟩, argTypes := _ } => evTwo P o ρ false (ρ x) (ρ y) K
  | _ => match scalarOp P o ρ with | some v => K v | none => none

theorem evPure_sound {P : Program} {o : Oper} {ρ : Operand → PV} {K : PV → Option Rt} {r : Rt} (h : evPure P o ρ K = some r) : Pured P o ρ K r := by
  unfold evPure at h
  split at h
  · rename_i x ho; exact ⟨_, h, move_sound (.inl ho) ρ⟩
  · rename_i x ho; exact ⟨_, h, move_sound (.inr ho) ρ⟩
  · rename_i ho; exact evPick_sound ho h
  · rename_i op t x y yt ho
    cases hb : isAggV (ρ x) with
    | true => rw [hb] at h; exact evEqS_sound ho h
    | false => rw [hb] at h; exact evBin_sound ho h
  · rename_i ho; exact evNilCheck_sound ho h
  · rename_i ho; exact evFieldAddr_sound ho h
  · rename_i ho; exact evIndexAddr_sound ho h
  · rename_i ho; exact evField_sound ho h
  · rename_i ho; exact evIndexA_sound ho h
  · rename_i ho; exact evExtract_sound ho h
  · rename_i ho; exact evSlice_sound ho h
  · rename_i ho; exact evBuild_sound ho h
  · rename_i ho; exact evMakeIface_sound ho h
  · rename_i ho; exact evMakeFunc_sound ho h
  · rename_i ho
    split at h
    · rename_i hat; exact evLen_sound ho hat h
    · cases h
  · rename_i ho; exact evMax_sound ho h
  · rename_i ho; exact evMin_sound ho h
  · exact scal h
end Go.Ev
