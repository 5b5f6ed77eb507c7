/- Part of a proof about the given program: EvL2. -/
import Derived.Test.YtbgbplacpjcmfaaEvL
import Derived.Test.YtbgbplacpjcmfaaEvG2
namespace Go.Ev
variable {Rt : Type}
/-! ### maps made and written -/
def evMakeMap (P : Program) (t : TypeId) (r : Option PV) (f : Nat → Option Ob) (nx : Nat) (K : PV → (Nat → Option Ob) → Nat → Option Rt) : Option Rt :=
  match r, P.underlying t with
  | none, some (.map kt et) => match shapeOf P 9 kt, shapeOf P 9 et with
    | some ks, some vs => K (.lf (.mp nx)) (updO f nx (some (.map ks vs []))) (nx + 1)
    | _, _ => none
  | _, _ => none

theorem evMakeMap_sound {P : Program} {o : Oper} {t : TypeId} {x : Option Operand} (ho : o.op = .makeMap t x) {ρ : Operand → PV} {f : Nat → Option Ob} {nx : Nat} {K : PV → (Nat → Option Ob) → Nat → Option Rt} {r : Rt} (h : evMakeMap P t (x.map ρ) f nx K = some r) : Memd P o ρ f nx K r := by
  unfold evMakeMap at h
  split at h
  · rename_i kt et hn ht
    split at h
    · rename_i ks vs _ _
      refine ⟨_, _, _, h, fun E φ A w ρm hR hF hr => ?_⟩
      obtain ⟨φ', A', hs, hφ, hA⟩ := step_new hR hF w rfl ⟨rfl, rfl, rfl⟩ (.map #[] 0) (.map ks vs []) ⟨w.heap.size, 0, 0, 0⟩ rfl (fun φ' A' x hA => ⟨hA, #[], 0, heap_alloc_new w _, rfl⟩)
      refine ⟨φ', A', _, _, ?_, hs, .inl ⟨.map (some w.heap.size), rfl, by simp only [RelV, RelL]; exact ⟨_, hφ, rfl⟩⟩⟩
      have hx : x = none := by cases x with | none => rfl | some y => simp at hn
      subst hx
      unfold execOp; rw [ho]; simp only [Option.map_none]
      unfold Instr.makeMap
      simp only [run_bind', newObj, Sem.run, run_pure]
      rfl
    · cases h
  · cases h

/-- A value to be held, as data of one cell. -/
def oneOf (s : Shape) (p : PV) : Option (den s) :=
  match p with
  | .lf l => cond (oneS s) (ofSegs s [.lf l]) none
  | _ => none

def evMapUpdate (P : Program) (t : TypeId) (p q u : PV) (f : Nat → Option Ob) (nx : Nat) (K : PV → (Nat → Option Ob) → Nat → Option Rt) : Option Rt :=
  match p, P.underlying t with
  | .lf (.mp o), some (.map kt _) => match f o, P.underlying kt with
    | some (.map ks vs m), some d => match keyOf ks q, oneOf vs u with
      | some k, some v => cond (keyOk d ks) (K anyV (updO f o (some (.map ks vs (mset ks vs k v m)))) nx) none
      | _, _ => none
    | _, _ => none
  | _, _ => none

theorem sameBits_key {s : Shape} {d : TypeDesc} (h : keyOk d s = true) {a b : den s} (e : keq s a b = true) : Instr.sameBits 10000 (keyV s b) (keyV s a) = true := by
  cases s <;> cases d <;> simp only [keyOk, Bool.false_eq_true] at h
  · simp only [keq, beq_iff_eq] at e
    simp [Instr.sameBits, keyV, e]
  · simp only [keq, beq_iff_eq] at e
    simp [Instr.sameBits, keyV, e]
  · have e' : (show ByteArray from b) = (show ByteArray from a) := (ba_eq.1 e).symm
    simp only [Instr.sameBits, keyV]
    exact ba_eq.2 e'

theorem keyV_D (A : Nat → Prop) (w : World) {d : TypeDesc} {s : Shape} (h : keyOk d s = true) (x : den s) : RelD A w s x [keyV s x] := by
  cases s <;> cases d <;> simp only [keyOk, Bool.false_eq_true] at h <;> rfl

theorem run_setObj {P : Program} {w : World} {b : Nat} {o o' : Obj} (h : w.heap[b]? = some o) (hc : ∀ c e f, o ≠ .cells c e f) : (setObj b o').run P w = .ok () { w with heap := w.heap.setIfInBounds b o' } := by
  unfold setObj
  cases o with
  | cells c e f => exact absurd rfl (hc c e f)
  | _ => simp only [Sem.run, h]

theorem keeps_heap {w : World} {b : Nat} {o o' : Obj} (h : w.heap[b]? = some o) : b < w.heap.size ∧ (w.heap.setIfInBounds b o')[b]? = some o' ∧ ∀ k, k ≠ b → (w.heap.setIfInBounds b o')[k]? = w.heap[k]? := by
  have hlt : b < w.heap.size := (Array.getElem?_eq_some_iff.1 h).1
  refine ⟨hlt, by simp [hlt], fun k hk => ?_⟩
  rw [Array.getElem?_setIfInBounds_ne (Ne.symm hk)]

theorem evMapUpdate_sound {P : Program} {o : Oper} {t : TypeId} {x y z : Operand} (ho : o.op = .mapUpdate t x y z) {ρ : Operand → PV} {f : Nat → Option Ob} {nx : Nat} {K : PV → (Nat → Option Ob) → Nat → Option Rt} {r : Rt} (h : evMapUpdate P t (ρ x) (ρ y) (ρ z) f nx K = some r) : Memd P o ρ f nx K r := by
  have hxm : x ∈ o.op.operands := by rw [ho]; simp [Op.operands]
  have hym : y ∈ o.op.operands := by rw [ho]; simp [Op.operands]
  have hzm : z ∈ o.op.operands := by rw [ho]; simp [Op.operands]
  generalize hp : ρ x = p at h
  unfold evMapUpdate at h
  split at h
  · rename_i o' kt et ht
    split at h
    · rename_i ks vs m d hfo hd
      split at h
      · rename_i k v hk hv
        cases hko : keyOk d ks with
        | false => rw [hko] at h; cases h
        | true =>
          rw [hko] at h; simp only [cond] at h
          refine ⟨_, _, _, h, fun E φ A w ρm hR hF hr => ?_⟩
          have hx := hr x hxm
          rw [hp] at hx
          simp only [RelV, RelL] at hx
          obtain ⟨b, hb, ev⟩ := hx
          obtain ⟨b', hb', ⟨hA, es, clock, hh, hre⟩, _⟩ := hR.ob _ _ hfo
          rw [hb] at hb'
          simp only [Option.some.injEq] at hb'
          subst hb'
          have hkv := keyOf_rel hk (hr y hym)
          have hval : RelD A w vs v [ρm z] := by
            have hz := hr z hzm
            unfold oneOf at hv
            split at hv
            · rename_i l hl
              rw [hl] at hz
              simp only [RelV] at hz
              cases hone : oneS vs with
              | false => rw [hone] at hv; cases hv
              | true =>
                rw [hone] at hv; simp only [cond] at hv
                exact ofSegs_rel hv ⟨[ρm z], [], rfl, ⟨ρm z, rfl, hz⟩, rfl⟩
            · cases hv
          have hg := run_getObj (P := P) hh (fun _ _ _ e => by cases e)
          have fin : ∀ (es' : Array MapEntry) (clock' : Nat), (execOp ρm o).run P w = .ok .skip { w with heap := w.heap.setIfInBounds b.blk (.map es' clock') } → (∀ A' w', Ext φ φ A A' w w' → RelEntries A' w' ks vs (mset ks vs k v m) es'.toList) →
              ∃ φ' A' w' nxt, (execOp ρm o).run P w = .ok nxt w' ∧ Step E φ φ' A A' w w' (updO f o' (some (.map ks vs (mset ks vs k v m)))) nx ∧ ((∃ mv, nxt = .value mv ∧ RelV φ' A' w' anyV mv) ∨ (nxt = .skip ∧ anyV = anyV)) := fun es' clock' hrun hrel => by
            obtain ⟨h1, h2, h3⟩ := keeps_heap (o' := .map es' clock') hh
            refine ⟨φ, A, _, _, hrun, ?_, .inr ⟨rfl, rfl⟩⟩
            exact step_write hR hF hfo hb trivial (by simp) h3 ⟨rfl, rfl, rfl⟩ (fun x => ⟨hA, es', clock', h2, hrel _ _ x⟩)
          rcases find_rel hko k 0 hre with ⟨a, b', c'⟩ | ⟨n, e, x', a, b', c, d', hq, c'⟩
          · refine fin (es.push ⟨ρm y, ρm z, clock⟩) (clock + 1) ?_ (fun A' w' x => ?_)
            · unfold execOp; rw [ho]; simp only []
              rw [run_bind']
              have key : (Instr.mapUpdate t (ρm x) (ρm y) (ρm z)).run P w = .ok () { w with heap := w.heap.setIfInBounds b.blk (.map (es.push ⟨ρm y, ρm z, clock⟩) (clock + 1)) } := by
                unfold Instr.mapUpdate
                rw [ev]
                simp only [run_bind', run_und ht, hg, run_checkKey hd hko false 9999, run_findKey hd (hkv ▸ b')]
                exact run_setObj hh (fun _ _ _ e => by cases e)
              rw [key]; rfl
            · rw [c' v, Array.toList_push]
              exact RelEntries.push ⟨RelD.ext x _ _ _ (hkv ▸ keyV_D A w hko k), RelD.ext x _ _ _ hval⟩ (RelEntries.ext x hre)
          · have hre' := RelEntries.get hre c d'
            have hkey := keyV_rel hko hre'.1
            refine fin (es.modify n fun e => { e with key := ρm y, val := ρm z }) clock ?_ (fun A' w' x => ?_)
            · unfold execOp; rw [ho]; simp only []
              rw [run_bind']
              have hst : (Instr.keyThatStays (((es[n]?).map (·.key)).getD (ρm y)) (ρm y)).run P w = .ok (ρm y) w := by
                unfold Instr.keyThatStays
                have he : es[n]? = some e := by simpa using c
                rw [he]
                simp only [Option.map_some, Option.getD_some]
                rw [hkey, hkv, if_pos (sameBits_key hko hq)]
                rfl
              have key : (Instr.mapUpdate t (ρm x) (ρm y) (ρm z)).run P w = .ok () { w with heap := w.heap.setIfInBounds b.blk (.map (es.modify n fun e => { e with key := ρm y, val := ρm z }) clock) } := by
                unfold Instr.mapUpdate
                rw [ev]
                have b2 := hkv ▸ b'
                rw [Nat.zero_add] at b2
                simp only [run_bind', run_und ht, hg, run_checkKey hd hko false 9999, run_findKey hd b2, hst]
                exact run_setObj hh (fun _ _ _ e => by cases e)
              rw [key]; rfl
            · rw [c' v, Array.toList_modify]
              exact RelEntries.set (RelEntries.ext x hre) (fun e' he' => ⟨RelD.ext x _ _ _ (hkv ▸ keyV_D A w hko k), RelD.ext x _ _ _ hval⟩)
      · cases h
    · cases h
  · cases h

/-! ### a string's signs, one by one -/
def evRange (P : Program) (t : TypeId) (p : PV) (f : Nat → Option Ob) (nx : Nat) (K : PV → (Nat → Option Ob) → Nat → Option Rt) : Option Rt :=
  match p, P.underlying t with
  | .lf (.sc (.string s)), some .string => K (.lf (.ptr nx 0 0 0 0 none)) (updO f nx (some (.iter s 0))) (nx + 1)
  | _, _ => none

theorem evRange_sound {P : Program} {o : Oper} {t : TypeId} {x : Operand} (ho : o.op = .range t x) {ρ : Operand → PV} {f : Nat → Option Ob} {nx : Nat} {K : PV → (Nat → Option Ob) → Nat → Option Rt} {r : Rt} (h : evRange P t (ρ x) f nx K = some r) : Memd P o ρ f nx K r := by
  have hxm : x ∈ o.op.operands := by rw [ho]; simp [Op.operands]
  generalize hp : ρ x = p at h
  unfold evRange at h
  split at h
  · rename_i s ht
    refine ⟨_, _, _, h, fun E φ A w ρm hR hF hr => ?_⟩
    have hx := hr x hxm
    rw [hp] at hx
    simp only [RelV, RelL] at hx
    obtain ⟨φ', A', hs, hφ, hA⟩ := step_new hR hF w rfl ⟨rfl, rfl, rfl⟩ (.stringIter s 0) (.iter s 0) ⟨w.heap.size, 0, 0, 0⟩ rfl (fun φ' A' x hA => ⟨rfl, hA, heap_alloc_new w _⟩)
    refine ⟨φ', A', _, _, ?_, hs, .inl ⟨.pointer (some ⟨w.heap.size, 0, none⟩), rfl, by simp only [RelV, RelL]; exact ⟨_, hφ, rfl, .inl trivial⟩⟩⟩
    unfold execOp; rw [ho]; simp only []
    unfold Instr.range
    rw [hx]
    simp only [run_bind', run_und ht, newObj, Sem.run, run_pure]
    rfl
  · cases h

def evNext (p : PV) (f : Nat → Option Ob) (nx : Nat) (K : PV → (Nat → Option Ob) → Nat → Option Rt) : Option Rt :=
  match p with
  | .lf (.ptr o 0 0 0 0 none) => match f o with
    | some (.iter s pos) =>
      if pos < s.size then K (.tup [sc (.bool true), sc (.int .i64 (pos : Int)), sc (.int .i32 (Utf8.decode s pos).1)]) (updO f o (some (.iter s (pos + (Utf8.decode s pos).2)))) nx
      else K (.tup [sc (.bool false)]) f nx
    | _ => none
  | _ => none

theorem evNext_sound {P : Program} {o : Oper} {x : Operand} (ho : o.op = .next x true) {ρ : Operand → PV} {f : Nat → Option Ob} {nx : Nat} {K : PV → (Nat → Option Ob) → Nat → Option Rt} {r : Rt} (h : evNext (ρ x) f nx K = some r) : Memd P o ρ f nx K r := by
  have hxm : x ∈ o.op.operands := by rw [ho]; simp [Op.operands]
  generalize hp : ρ x = p at h
  unfold evNext at h
  split at h
  · rename_i o'
    split at h
    · rename_i s pos hfo
      have open_ : ∀ {E : Env} {φ : Phi} {A : Nat → Prop} {w : World} {ρm : Operand → Value}, ROb E φ A f nx w → OpsRel φ A w o ρ ρm → ∃ b, φ o' = some b ∧ A b.blk ∧ b.base = 0 ∧ w.heap[b.blk]? = some (.stringIter s pos) ∧ ρm x = .pointer (some ⟨b.blk, 0, none⟩) := fun {E φ A w ρm} hR hr => by
        have hx := hr x hxm
        rw [hp] at hx
        simp only [RelV, RelL] at hx
        obtain ⟨b, hb, ev, _⟩ := hx
        obtain ⟨b', hb', ⟨h0, hA, hh⟩, _⟩ := hR.ob _ _ hfo
        rw [hb] at hb'
        simp only [Option.some.injEq] at hb'
        subst hb'
        exact ⟨b, hb, hA, h0, hh, by rw [ev, h0]⟩
      split at h
      · rename_i hlt
        refine ⟨_, _, _, h, fun E φ A w ρm hR hF hr => ?_⟩
        obtain ⟨b, hb, hA, h0, hh, ev⟩ := open_ hR hr
        obtain ⟨h1, h2, h3⟩ := keeps_heap (o' := .stringIter s (pos + (Utf8.decode s pos).2)) hh
        refine ⟨φ, A, { w with heap := w.heap.setIfInBounds b.blk (.stringIter s (pos + (Utf8.decode s pos).2)) }, _, ?_, step_write hR hF hfo hb trivial (by simp) h3 ⟨rfl, rfl, rfl⟩ (fun x => ⟨h0, hA, h2⟩), .inl ⟨.tuple #[.bool true, .int .i64 (pos : Int), .int .i32 (Utf8.decode s pos).1], rfl, ?_⟩⟩
        · unfold execOp; rw [ho]; simp only []
          unfold Instr.next
          rw [ev]
          simp only [run_bind', run_getObj hh (fun _ _ _ e => by cases e), hlt, if_true, run_setObj hh (fun _ _ _ e => by cases e), run_pure]
          rfl
        · simp only [RelV]
          refine ⟨_, rfl, ?_⟩
          simp only [RelVs, RelV, RelL, sc]
          exact ⟨_, _, rfl, rfl, _, _, rfl, rfl, _, _, rfl, rfl, rfl⟩
      · rename_i hlt
        refine ⟨_, _, _, h, fun E φ A w ρm hR hF hr => ?_⟩
        obtain ⟨b, hb, hA, h0, hh, ev⟩ := open_ hR hr
        refine ⟨φ, A, w, _, ?_, ⟨Ext.refl φ A w, hR, hF⟩, .inl ⟨.tuple #[.bool false], rfl, ?_⟩⟩
        · unfold execOp; rw [ho]; simp only []
          unfold Instr.next
          rw [ev]
          simp only [run_bind', run_getObj hh (fun _ _ _ e => by cases e), hlt, if_false, run_pure]
        · simp only [RelV]
          refine ⟨_, rfl, ?_⟩
          simp only [RelVs, RelV, RelL, sc]
          exact ⟨_, _, rfl, rfl, rfl⟩
    · cases h
  · cases h
end Go.Ev
