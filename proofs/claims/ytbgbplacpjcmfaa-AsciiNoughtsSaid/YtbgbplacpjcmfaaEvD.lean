/- Part of a proof about the given program: EvD. -/
import Derived.Test.YtbgbplacpjcmfaaEvC
namespace Go.Ev
variable {Rt : Type}

/-! ### Pieces of a row of segments -/
def Seg.cells : Seg → Nat
  | .lf _ => 1
  | .many s _ n => n * s.size

def dropG : List Seg → Nat → Option (List Seg)
  | [], n => cond (Nat.beq n 0) (some []) none
  | x :: g, n => cond (Nat.beq n 0) (some (x :: g)) (cond (Nat.ble x.cells n) (dropG g (n - x.cells)) none)

def takeG : List Seg → Nat → Option (List Seg)
  | [], n => cond (Nat.beq n 0) (some []) none
  | x :: g, n => cond (Nat.beq n 0) (some []) (cond (Nat.ble x.cells n) (match takeG g (n - x.cells) with | some r => some (x :: r) | none => none) none)

theorem RelS.length {φ : Phi} {A : Nat → Prop} {w : World} : ∀ {x : Seg} {v : List Value}, RelS φ A w x v → v.length = x.cells
  | .lf _, _, ⟨_, e, _⟩ => by rw [e]; rfl
  | .many s _ _, _, ⟨hn, h⟩ => by rw [Lift.length (RelD.length A w s) h, hn]; rfl

theorem dropG_rel {φ : Phi} {A : Nat → Prop} {w : World} : ∀ {g : List Seg} {n : Nat} {g' : List Seg} {vs : List Value}, dropG g n = some g' → RelG φ A w g vs → RelG φ A w g' (vs.drop n)
  | [], n, g', vs, h, hr => by
    unfold dropG at h
    cases hb : Nat.beq n 0 with
    | false => rw [hb] at h; cases h
    | true =>
      rw [hb] at h; simp only [cond, Option.some.injEq] at h
      rw [Nat.eq_of_beq_eq_true hb, ← h]; exact hr
  | x :: g, n, g', vs, h, hr => by
    unfold dropG at h
    cases hb : Nat.beq n 0 with
    | true =>
      rw [hb] at h; simp only [cond, Option.some.injEq] at h
      rw [Nat.eq_of_beq_eq_true hb, ← h]; exact hr
    | false =>
      rw [hb] at h; simp only [cond] at h
      cases hc : Nat.ble x.cells n with
      | false => rw [hc] at h; cases h
      | true =>
        rw [hc] at h; simp only [] at h
        obtain ⟨v1, v2, e, h1, h2⟩ := hr
        have := dropG_rel h h2
        have hl := h1.length
        have hle := Nat.le_of_ble_eq_true hc
        rw [e, List.drop_append, List.drop_of_length_le (by omega), List.nil_append, hl]
        exact this

theorem takeG_rel {φ : Phi} {A : Nat → Prop} {w : World} : ∀ {g : List Seg} {n : Nat} {g' : List Seg} {vs : List Value}, takeG g n = some g' → RelG φ A w g vs → RelG φ A w g' (vs.take n)
  | [], n, g', vs, h, hr => by
    unfold takeG at h
    cases hb : Nat.beq n 0 with
    | false => rw [hb] at h; cases h
    | true =>
      rw [hb] at h; simp only [cond, Option.some.injEq] at h
      rw [Nat.eq_of_beq_eq_true hb, ← h]; rfl
  | x :: g, n, g', vs, h, hr => by
    unfold takeG at h
    cases hb : Nat.beq n 0 with
    | true =>
      rw [hb] at h; simp only [cond, Option.some.injEq] at h
      rw [Nat.eq_of_beq_eq_true hb, ← h]; rfl
    | false =>
      rw [hb] at h; simp only [cond] at h
      cases hc : Nat.ble x.cells n with
      | false => rw [hc] at h; cases h
      | true =>
        rw [hc] at h; simp only [] at h
        split at h
        · rename_i r hr'
          simp only [Option.some.injEq] at h
          obtain ⟨v1, v2, e, h1, h2⟩ := hr
          have := takeG_rel hr' h2
          have hl := h1.length
          have hle := Nat.le_of_ble_eq_true hc
          rw [e, List.take_append, List.take_of_length_le (by omega), ← h, hl]
          exact ⟨_, _, rfl, h1, this⟩
        · cases h

theorem takeG_cells : ∀ {g : List Seg} {n : Nat} {g' : List Seg} {φ : Phi} {A : Nat → Prop} {w : World} {vs : List Value}, takeG g n = some g' → RelG φ A w g vs → n ≤ vs.length
  | [], n, g', _, _, _, vs, h, hr => by
    unfold takeG at h
    cases hb : Nat.beq n 0 with
    | false => rw [hb] at h; cases h
    | true => rw [Nat.eq_of_beq_eq_true hb]; omega
  | x :: g, n, g', _, _, _, vs, h, hr => by
    unfold takeG at h
    cases hb : Nat.beq n 0 with
    | true => rw [Nat.eq_of_beq_eq_true hb]; omega
    | false =>
      rw [hb] at h; simp only [cond] at h
      cases hc : Nat.ble x.cells n with
      | false => rw [hc] at h; cases h
      | true =>
        rw [hc] at h; simp only [] at h
        split at h
        · rename_i r hr'
          obtain ⟨v1, v2, e, h1, h2⟩ := hr
          have := takeG_cells hr' h2
          have hl := h1.length
          rw [e, List.length_append]; omega
        · cases h

def aggD : TypeDesc → Bool
  | .struct _ => true
  | .array _ _ => true
  | _ => false

theorem run_isAgg {P : Program} {t : TypeId} {d : TypeDesc} (h : P.underlying t = some d) (w : World) : (isAgg t).run P w = .ok (aggD d) w := by
  unfold isAgg
  rw [run_bind', run_und h]
  cases d <;> rfl

def partPV (P : Program) (t : TypeId) (g : List Seg) (off : Nat) : Option PV :=
  match P.underlying t, P.info? t with
  | some d, some i => cond (aggD d)
      (match dropG g off with | some g1 => (match takeG g1 i.size with | some g2 => some (.agg g2) | none => none) | none => none)
      (match dropG g off with | some (.lf l :: _) => some (.lf l) | _ => none)
  | _, _ => none

theorem partPV_sound {P : Program} {t : TypeId} {g : List Seg} {off : Nat} {p : PV} (h : partPV P t g off = some p) {φ : Phi} {A : Nat → Prop} {w : World} {vs : List Value} (hr : RelG φ A w g vs) (w' : World) :
    ∃ mv, (part t ⟨vs⟩ off).run P w' = .ok mv w' ∧ RelV φ A w p mv := by
  unfold partPV at h
  split at h
  · rename_i d i hd hi
    unfold part
    rw [run_bind', run_isAgg hd]
    simp only []
    cases ha : aggD d with
    | true =>
      rw [ha] at h; simp only [cond] at h
      split at h
      · rename_i g1 hg1
        split at h
        · rename_i g2 hg2
          simp only [Option.some.injEq] at h
          refine ⟨.agg ((⟨vs⟩ : Array Value).extract off (off + i.size)), by simp only [if_true]; rw [run_bind', run_size hi]; rfl, ?_⟩
          rw [← h]; simp only [RelV]
          refine ⟨(vs.drop off).take i.size, ?_, takeG_rel hg2 (dropG_rel hg1 hr)⟩
          congr 1
          apply Array.ext'
          simp
        · cases h
      · cases h
    | false =>
      rw [ha] at h; simp only [cond] at h
      split at h
      · rename_i l g1 hg1
        simp only [Option.some.injEq] at h
        obtain ⟨v1, v2, e, ⟨v, e1, hv⟩, h2⟩ := dropG_rel hg1 hr
        have hget : vs[off]? = some v := by
          have : (vs.drop off)[0]? = some v := by rw [e, e1]; rfl
          rwa [List.getElem?_drop, Nat.add_zero] at this
        refine ⟨v, ?_, by rw [← h]; simpa only [RelV] using hv⟩
        simp only [Bool.false_eq_true, if_false]
        rw [show (⟨vs⟩ : Array Value)[off]? = some v from by simpa using hget]
        rfl
      · cases h
  · cases h

/-! ### moves -/
theorem exec_move {o : Oper} {x : Operand} (ho : o.op = .move x ∨ o.op = .assign x) (ρm : Operand → Value) (P : Program) (w : World) : (execOp ρm o).run P w = .ok (.value (ρm x)) w := by
  unfold execOp; rcases ho with ho | ho <;> rw [ho] <;> rfl

theorem move_sound {P : Program} {o : Oper} {x : Operand} (ho : o.op = .move x ∨ o.op = .assign x) (ρ : Operand → PV) : PureSem P o ρ (ρ x) :=
  fun _ _ w ρm hr => ⟨ρm x, exec_move ho ρm P w, hr x (by rcases ho with ho | ho <;> rw [ho] <;> simp [Op.operands])⟩

def evPick (c a b : PV) (K : PV → Option Rt) : Option Rt :=
  match c with
  | .lf (.sc (.bool t)) => if t = true then K a else K b
  | _ => none

theorem evPick_sound {P : Program} {o : Oper} {c x y : Operand} (ho : o.op = .pick c x y) {ρ : Operand → PV} {K : PV → Option Rt} {r : Rt}
    (h : evPick (ρ c) (ρ x) (ρ y) K = some r) : Pured P o ρ K r := by
  generalize hc : ρ c = p at h
  unfold evPick at h
  split at h
  · rename_i t
    have hb : ∀ {φ A w ρm}, OpsRel φ A w o ρ ρm → ρm c = .bool t := fun hr => by
      have := hr c (by rw [ho]; simp [Op.operands])
      rw [hc] at this; simpa only [RelV, RelL] using this
    split at h
    · rename_i ht
      refine ⟨_, h, fun φ A w ρm hr => ⟨ρm x, ?_, hr x (by rw [ho]; simp [Op.operands])⟩⟩
      unfold execOp; rw [ho]; simp only [hb hr, asBool, ht]; rfl
    · rename_i ht
      refine ⟨_, h, fun φ A w ρm hr => ⟨ρm y, ?_, hr y (by rw [ho]; simp [Op.operands])⟩⟩
      unfold execOp; rw [ho]; simp only [hb hr, asBool, Bool.not_eq_true _ ▸ ht]; rfl
  · cases h

def evNilCheck (P : Program) (o : Oper) (ρ : Operand → PV) (p : PV) (K : PV → Option Rt) : Option Rt :=
  match p with
  | .lf (.ptr a b c d e f) => K (.lf (.ptr a b c d e f))
  | .lf (.dp s xs i j) => K (.lf (.dp s xs i j))
  | .lf (.fnc f cs) => K (.lf (.fnc f cs))
  | .lf (.ifc t l) => K (.lf (.ifc t l))
  | _ => match scalarOp P o ρ with | some v => K v | none => none

theorem evNilCheck_sound {P : Program} {o : Oper} {x : Operand} (ho : o.op = .nilCheck x) {ρ : Operand → PV} {K : PV → Option Rt} {r : Rt}
    (h : evNilCheck P o ρ (ρ x) K = some r) : Pured P o ρ K r := by
  have hx : x ∈ o.op.operands := by rw [ho]; simp [Op.operands]
  have key : (∀ {φ A w ρm}, OpsRel φ A w o ρ ρm → (execOp ρm o).run P w = .ok (.value (ρm x)) w) → K (ρ x) = some r → Pured P o ρ K r := fun hk hK =>
    ⟨_, hK, fun φ A w ρm hr => ⟨ρm x, hk hr, hr x hx⟩⟩
  generalize hc : ρ x = p at h
  unfold evNilCheck at h
  split at h
  · refine key (fun {φ A w ρm} hr => ?_) (hc ▸ h)
    have := hr x hx; rw [hc] at this; simp only [RelV, RelL] at this
    obtain ⟨b, _, e, _⟩ := this
    unfold execOp; rw [ho]; simp only [e]; rfl
  · refine key (fun {φ A w ρm} hr => ?_) (hc ▸ h)
    have := hr x hx; rw [hc] at this; simp only [RelV, RelL] at this
    obtain ⟨b, off, vs, e, _⟩ := this
    unfold execOp; rw [ho]; simp only [e]; rfl
  · refine key (fun {φ A w ρm} hr => ?_) (hc ▸ h)
    have := hr x hx; rw [hc] at this; simp only [RelV, RelL] at this
    obtain ⟨vs, e, _⟩ := this
    unfold execOp; rw [ho]; simp only [e]; rfl
  · refine key (fun {φ A w ρm} hr => ?_) (hc ▸ h)
    have := hr x hx; rw [hc] at this; simp only [RelV, RelL] at this
    obtain ⟨u, e, _⟩ := this
    unfold execOp; rw [ho]; simp only [e]; rfl
  · exact scal h

/-! ### addresses -/
def evFieldAddr (P : Program) (t : TypeId) (f : Nat) (p : PV) (K : PV → Option Rt) : Option Rt :=
  match P.underlying t with
  | some (.struct fs) => match fs[f]? with
    | some fd => match P.info? fd.type with
      | some i => cond (Nat.beq i.size 0) none (match p with
        | .lf (.ptr o off sz idx inner lim) => K (.lf (.ptr o off sz idx (inner + fd.offset) lim))
        | .lf (.dp s xs i inner) => K (.lf (.dp s xs i (inner + fd.offset)))
        | _ => none)
      | none => none
    | none => none
  | _ => none

theorem run_fieldAt {P : Program} {t : TypeId} {fs : Array Field} {f : Nat} {fd : Field} {i : TypeInfo} (h1 : P.underlying t = some (.struct fs)) (h2 : fs[f]? = some fd) (h3 : P.info? fd.type = some i) (h4 : i.size ≠ 0)
    (b o : Nat) (w : World) : (Instr.fieldAt t (.pointer (some ⟨b, o, none⟩)) f).run P w = .ok (.pointer (some ⟨b, o + fd.offset, none⟩)) w := by
  unfold Instr.fieldAt
  rw [run_bind', run_und h1]
  simp only [h2]
  simp only [run_bind', run_pure, Instr.sureAddr, fieldPlace, run_size h3, if_neg h4, addr_add]

theorem evFieldAddr_sound {P : Program} {o : Oper} {t : TypeId} {x : Operand} {f : Nat} (ho : o.op = .fieldAddr t x f) {ρ : Operand → PV} {K : PV → Option Rt} {r : Rt}
    (h : evFieldAddr P t f (ρ x) K = some r) : Pured P o ρ K r := by
  have hx : x ∈ o.op.operands := by rw [ho]; simp [Op.operands]
  generalize hc : ρ x = p at h
  unfold evFieldAddr at h
  split at h
  · rename_i fs h1
    split at h
    · rename_i fd h2
      split at h
      · rename_i i h3
        cases hb : Nat.beq i.size 0 with
        | true => rw [hb] at h; cases h
        | false =>
          rw [hb] at h; simp only [cond] at h
          have h4 : i.size ≠ 0 := fun e => by rw [e] at hb; cases hb
          split at h
          · rename_i o' off sz idx inner lim
            refine ⟨_, h, fun φ A w ρm hr => ?_⟩
            have := hr x hx; rw [hc] at this; simp only [RelV, RelL] at this
            obtain ⟨b, hb, e, hl⟩ := this
            refine ⟨.pointer (some ⟨b.blk, b.base + off + (idx * sz + (inner + fd.offset)), none⟩), ?_, ?_⟩
            · unfold execOp; rw [ho]; simp only [e]; rw [run_bind', run_fieldAt h1 h2 h3 h4]; simp only [run_pure, Nat.add_assoc]
            · simp only [RelV, RelL]; exact ⟨b, hb, rfl, hl⟩
          · rename_i s xs i' inner
            refine ⟨_, h, fun φ A w ρm hr => ?_⟩
            have := hr x hx; rw [hc] at this; simp only [RelV, RelL] at this
            obtain ⟨b, off, vs, e, hl⟩ := this
            refine ⟨.pointer (some ⟨b, off + (i' * s.size + (inner + fd.offset)), none⟩), ?_, ?_⟩
            · unfold execOp; rw [ho]; simp only [e]; rw [run_bind', run_fieldAt h1 h2 h3 h4]; simp only [run_pure, Nat.add_assoc]
            · simp only [RelV, RelL]; exact ⟨b, off, vs, rfl, hl⟩
          · cases h
      · cases h
    · cases h
  · cases h

def evIndexAddr (P : Program) (t : TypeId) (p q : PV) (K : PV → Option Rt) : Option Rt :=
  match q with
  | .lf (.sc (.int _ i)) =>
    match P.underlying t with
    | some (.slice e) => match P.info? e with
      | some ei => match p with
        | .lf (.sl s xs _) => cond (Nat.beq ei.size s.size) (if 0 ≤ i then (if i < (xs.length : Int) then K (.lf (.dp s xs i.toNat 0)) else none) else none) none
        | .lf (.slr s o off start len _ lim) => cond (Nat.beq ei.size s.size) (if 0 ≤ i then (if i < (len : Int) then K (.lf (.ptr o off s.size (start + i.toNat) 0 lim)) else none) else none) none
        | _ => none
      | none => none
    | some (.array n e) => match P.info? e with
      | some ei => match p with
        | .lf (.ptr o off sz _ inner _) => cond (Nat.beq sz 0) (if 0 ≤ i then (if i < (n : Int) then K (.lf (.ptr o (off + inner) ei.size i.toNat 0 (some n))) else none) else none) none
        | _ => none
      | none => none
    | _ => none
  | _ => none

theorem run_indexSlice {P : Program} {t e : TypeId} {ei : TypeInfo} (h1 : P.underlying t = some (.slice e)) (h2 : P.info? e = some ei) {k : IntKind} {i : Int} {b o len c : Nat} (h3 : 0 ≤ i) (h4 : i < (len : Int)) (w : World) :
    (Instr.indexAt t (.slice (some ⟨b, o, none⟩) len c) (.int k i)).run P w = .ok (.pointer (some ⟨b, o + i.toNat * ei.size, none⟩)) w := by
  unfold Instr.indexAt
  simp only [asIntOf, run_bind', run_pure, run_und h1, run_size h2, addr_add, h3, h4, and_self, if_true]

theorem run_indexArr {P : Program} {t e : TypeId} {ei : TypeInfo} {n : Nat} (h1 : P.underlying t = some (.array n e)) (h2 : P.info? e = some ei) {k : IntKind} {i : Int} {b o : Nat} (h3 : 0 ≤ i) (h4 : i < (n : Int)) (w : World) :
    (Instr.indexAt t (.pointer (some ⟨b, o, none⟩)) (.int k i)).run P w = .ok (.pointer (some ⟨b, o + i.toNat * ei.size, none⟩)) w := by
  unfold Instr.indexAt
  simp only [asIntOf, run_bind', run_pure, run_und h1, run_size h2, addr_add, Instr.sureAddr, h3, h4, and_self, if_true]

theorem evIndexAddr_sound {P : Program} {o : Oper} {t : TypeId} {x y : Operand} (ho : o.op = .indexAddr t x y) {ρ : Operand → PV} {K : PV → Option Rt} {r : Rt}
    (h : evIndexAddr P t (ρ x) (ρ y) K = some r) : Pured P o ρ K r := by
  have hx : x ∈ o.op.operands := by rw [ho]; simp [Op.operands]
  have hy : y ∈ o.op.operands := by rw [ho]; simp [Op.operands]
  generalize hp : ρ x = p at h
  generalize hq : ρ y = q at h
  have ex : ∀ {ρm : Operand → Value} {w : World} {v : Value}, (Instr.indexAt t (ρm x) (ρm y)).run P w = .ok v w → (execOp ρm o).run P w = .ok (.value v) w := fun {ρm w v} hv => by
    unfold execOp; rw [ho]; simp only []; rw [run_bind', hv]; rfl
  unfold evIndexAddr at h
  split at h
  · rename_i k i
    have hi : ∀ {φ A w ρm}, OpsRel φ A w o ρ ρm → ρm y = .int k i := fun hr => by
      have := hr y hy; rw [hq] at this; simpa only [RelV, RelL] using this
    split at h
    · rename_i e h1
      split at h
      · rename_i ei h2
        split at h
        · rename_i s xs cap
          cases hb : Nat.beq ei.size s.size with
          | false => rw [hb] at h; cases h
          | true =>
            rw [hb] at h; simp only [cond] at h
            have hsz := Nat.eq_of_beq_eq_true hb
            split at h
            · rename_i h3
              split at h
              · rename_i h4
                refine ⟨_, h, fun φ A w ρm hr => ?_⟩
                have := hr x hx; rw [hp] at this; simp only [RelV, RelL] at this
                obtain ⟨ad, c, ev, hc, hl, hrow⟩ := this
                rcases hrow with hnil | ⟨b, off, vs, ea, hA, hbk, hlf, hcl⟩
                · rw [hnil] at h4; simp at h4; omega
                · refine ⟨.pointer (some ⟨b, off + i.toNat * ei.size, none⟩), ex ?_, ?_⟩
                  · rw [ev, ea, hi hr]; exact run_indexSlice h1 h2 h3 h4 w
                  · simp only [RelV, RelL]
                    exact ⟨b, off, vs, by rw [hsz, Nat.add_zero], by omega, hA, hbk, hlf, hcl⟩
              · cases h
            · cases h
        · rename_i s o' off start len cap lim
          cases hb : Nat.beq ei.size s.size with
          | false => rw [hb] at h; cases h
          | true =>
            rw [hb] at h; simp only [cond] at h
            have hsz := Nat.eq_of_beq_eq_true hb
            split at h
            · rename_i h3
              split at h
              · rename_i h4
                refine ⟨_, h, fun φ A w ρm hr => ?_⟩
                have := hr x hx; rw [hp] at this; simp only [RelV, RelL] at this
                obtain ⟨b, hb, ad, c, ev, hlc, hcap, hlim, had⟩ := this
                rcases had with ⟨_, h0⟩ | had
                · omega
                · refine ⟨.pointer (some ⟨b.blk, b.base + off + start * s.size + i.toNat * ei.size, none⟩), ex ?_, ?_⟩
                  · rw [ev, had, hi hr]; exact run_indexSlice h1 h2 h3 h4 w
                  · simp only [RelV, RelL]
                    refine ⟨b, hb, ?_, .inr ?_⟩
                    · rw [hsz, Nat.add_zero, Nat.add_mul, Nat.add_assoc]
                    · cases lim <;> simp only [] at hlim ⊢ <;> omega
              · cases h
            · cases h
        · cases h
      · cases h
    · rename_i n e h1
      split at h
      · rename_i ei h2
        split at h
        · rename_i o' off sz idx inner lim
          cases hb : Nat.beq sz 0 with
          | false => rw [hb] at h; cases h
          | true =>
            rw [hb] at h; simp only [cond] at h
            have hsz := Nat.eq_of_beq_eq_true hb
            subst hsz
            split at h
            · rename_i h3
              split at h
              · rename_i h4
                refine ⟨_, h, fun φ A w ρm hr => ?_⟩
                have := hr x hx; rw [hp] at this; simp only [RelV, RelL] at this
                obtain ⟨b, hb, ev, _⟩ := this
                refine ⟨.pointer (some ⟨b.blk, b.base + off + (idx * 0 + inner) + i.toNat * ei.size, none⟩), ex ?_, ?_⟩
                · rw [ev, hi hr]; exact run_indexArr h1 h2 h3 h4 w
                · simp only [RelV, RelL]
                  refine ⟨b, hb, ?_, .inr (by omega)⟩
                  simp only [Nat.mul_zero, Nat.zero_add, Nat.add_zero, Nat.add_assoc]
              · cases h
            · cases h
        · cases h
      · cases h
    · cases h
  · cases h

/-! ### parts of values -/
def evField (P : Program) (t : TypeId) (f : Nat) (p : PV) (K : PV → Option Rt) : Option Rt :=
  match P.underlying t with
  | some (.struct fs) => match fs[f]? with
    | some fd => match p with
      | .agg g => match partPV P fd.type g fd.offset with
        | some v => K v
        | none => none
      | _ => none
    | none => none
  | _ => none

theorem evField_sound {P : Program} {o : Oper} {t : TypeId} {x : Operand} {f : Nat} (ho : o.op = .field t x f) {ρ : Operand → PV} {K : PV → Option Rt} {r : Rt}
    (h : evField P t f (ρ x) K = some r) : Pured P o ρ K r := by
  have hx : x ∈ o.op.operands := by rw [ho]; simp [Op.operands]
  generalize hc : ρ x = p at h
  unfold evField at h
  split at h
  · rename_i fs h1
    split at h
    · rename_i fd h2
      split at h
      · rename_i g
        split at h
        · rename_i v hv
          refine ⟨_, h, fun φ A w ρm hr => ?_⟩
          have := hr x hx; rw [hc] at this; simp only [RelV] at this
          obtain ⟨vs, e, hg⟩ := this
          obtain ⟨mv, hm, hmv⟩ := partPV_sound hv hg w
          refine ⟨mv, ?_, hmv⟩
          unfold execOp; rw [ho]; simp only [e]
          unfold Instr.field
          simp only [run_bind', run_und h1, h2, asAgg, run_pure, hm]
        · cases h
      · cases h
    · cases h
  · cases h

def evExtract (P : Program) (o : Oper) (ρ : Operand → PV) (i : Nat) (p : PV) (K : PV → Option Rt) : Option Rt :=
  match p with
  | .tup ps => match ps[i]? with
    | some v => K v
    | none => none
  | _ => match scalarOp P o ρ with | some v => K v | none => none

theorem RelVs_get {φ : Phi} {A : Nat → Prop} {w : World} : ∀ {ps : List PV} {vs : List Value} {i : Nat} {p : PV}, RelVs φ A w ps vs → ps[i]? = some p → ∃ v, vs[i]? = some v ∧ RelV φ A w p v
  | [], _, _, _, _, h => by simp at h
  | q :: ps, _, 0, p, h, hi => by
    simp only [RelVs] at h
    obtain ⟨v, vs, e, h1, _⟩ := h
    simp only [List.getElem?_cons_zero, Option.some.injEq] at hi
    subst hi
    exact ⟨v, by rw [e]; rfl, h1⟩
  | q :: ps, _, i + 1, p, h, hi => by
    simp only [RelVs] at h
    obtain ⟨v, vs, e, _, h2⟩ := h
    rw [List.getElem?_cons_succ] at hi
    obtain ⟨u, hu, hr⟩ := RelVs_get h2 hi
    exact ⟨u, by rw [e, List.getElem?_cons_succ]; exact hu, hr⟩

theorem evExtract_sound {P : Program} {o : Oper} {x : Operand} {i : Nat} (ho : o.op = .extract x i) {ρ : Operand → PV} {K : PV → Option Rt} {r : Rt}
    (h : evExtract P o ρ i (ρ x) K = some r) : Pured P o ρ K r := by
  have hx : x ∈ o.op.operands := by rw [ho]; simp [Op.operands]
  generalize hc : ρ x = p at h
  unfold evExtract at h
  split at h
  · rename_i ps
    split at h
    · rename_i v hv
      refine ⟨_, h, fun φ A w ρm hr => ?_⟩
      have := hr x hx; rw [hc] at this; simp only [RelV] at this
      obtain ⟨vs, e, hg⟩ := this
      obtain ⟨mv, hm, hmv⟩ := RelVs_get hg hv
      refine ⟨mv, ?_, hmv⟩
      unfold execOp; rw [ho]; simp only [e]
      unfold Instr.extract
      simp only [run_bind', show (⟨vs⟩ : Array Value)[i]? = some mv from by simpa using hm, run_pure]
    · cases h
  · exact scal h

/-! ### an index into a string -/
def evIndex (P : Program) (t : TypeId) (p q : PV) (K : PV → Option Rt) : Option Rt :=
  match p, q with
  | .lf (.sc (.string s)), .lf (.sc (.int _ i)) =>
    match P.underlying t with
    | some .string => if 0 ≤ i then (if i < (s.size : Int) then K (sc (.int .u8 ((s.data.getD i.toNat 0).toNat : Int))) else none) else none
    | _ => none
  | _, _ => none

theorem evIndex_sound {P : Program} {o : Oper} {t : TypeId} {x y : Operand} (ho : o.op = .index t x y) {ρ : Operand → PV} {K : PV → Option Rt} {r : Rt}
    (h : evIndex P t (ρ x) (ρ y) K = some r) : Pured P o ρ K r := by
  have hx : x ∈ o.op.operands := by rw [ho]; simp [Op.operands]
  have hy : y ∈ o.op.operands := by rw [ho]; simp [Op.operands]
  generalize hp : ρ x = p at h
  generalize hq : ρ y = q at h
  unfold evIndex at h
  split at h
  · rename_i s k i
    split at h
    · rename_i h1
      split at h
      · rename_i h3
        split at h
        · rename_i h4
          refine ⟨_, h, fun φ A w ρm hr => ?_⟩
          have e1 := hr x hx; rw [hp] at e1; simp only [RelV, RelL] at e1
          have e2 := hr y hy; rw [hq] at e2; simp only [RelV, RelL] at e2
          refine ⟨_, ?_, RelV_sc ..⟩
          have hlt : i.toNat < s.data.size := by have : s.size = s.data.size := rfl; omega
          have hg : s[i.toNat]? = some (s.data.getD i.toNat 0) := by
            have h0 : i.toNat < s.size := hlt
            rw [getElem?_pos s i.toNat h0]
            simp only [Array.getD, hlt, dif_pos]
            rfl
          unfold execOp; rw [ho]; simp only [e1, e2]
          unfold Instr.index
          simp only [run_bind', asIntOf, run_pure, run_und h1, h3, if_true, hg]
        · cases h
      · cases h
    · cases h
  · cases h
end Go.Ev
