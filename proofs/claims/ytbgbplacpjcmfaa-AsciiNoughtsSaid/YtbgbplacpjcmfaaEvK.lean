/- Part of a proof about the given program: EvK. -/
import Derived.Test.YtbgbplacpjcmfaaEvJ
namespace Go.Ev
variable {Rt : Type}

/-! ### new rows -/
theorem zcells_rel {α : Type} {R : α → List Value → Prop} {d : α} {z : Array Value} (h : R d z.toList) : ∀ n, Lift R (List.replicate n d) ((Array.range (n * z.size)).map (fun i => z[i % z.size]!)).toList
  | 0 => by simp [Lift]
  | n + 1 => by
    have ih := zcells_rel h n
    rw [List.replicate_succ]
    refine ⟨z.toList, _, ?_, h, ih⟩
    simp only [Array.toList_map, Array.toList_range]
    rw [Nat.succ_mul, Nat.add_comm, List.range_add, List.map_append, List.map_map]
    congr 1
    · apply List.ext_getElem?
      intro i
      rw [List.getElem?_map]
      rcases Nat.lt_or_ge i z.size with hi | hi
      · rw [List.getElem?_range hi]
        simp [Nat.mod_eq_of_lt hi, hi]
      · rw [List.getElem?_eq_none (by simpa using hi), List.getElem?_eq_none (by simpa using hi)]; rfl
    · apply List.map_congr_left
      intro i _
      simp [Nat.add_mod_left]

theorem map_none (z : Array Value) : (Array.range 0).map (fun i => z[i % z.size]!) = #[] := by simp

theorem zeroD_len {s : Shape} {vs : List Value} (h : zeroD s vs = true) : vs.length = s.size := RelD.length (fun _ => False) default s _ _ (zeroD_rel (fun _ => False) default h)

theorem newArr_step {E : Env} {φ : Phi} {A : Nat → Prop} {f : Nat → Option Ob} {nx : Nat} {w : World} (h : ROb E φ A f nx w) (hf : Frm E A w) (w1 : World) (hw1 : w1.heap = w.heap) (h1 : w1.os = w.os ∧ w1.tape = w.tape ∧ w1.output = w.output)
    {s : Shape} {ys : List (den s)} {vs : List Value} (hl : Lift (RelD A w s) ys vs) (cells : Array Value) (e : TypeId) (fz : Nat × Nat) (hz : Thawed cells.size fz) {cap : Nat} (hcap : ys.length ≤ cap) (hsz : cap * s.size ≤ cells.size)
    (hpre : ∀ (j : Nat) (v : Value), vs[j]? = some v → cells[j]? = some v) :
    ∃ φ' A', Step E φ φ' A A' w (w1.alloc (.cells cells e fz)) (updO f nx (some (.arr true s ys))) (nx + 1) ∧ RelV φ' A' (w1.alloc (.cells cells e fz)) (.lf (.slr s nx 0 0 ys.length none none)) (.slice (some ⟨w.heap.size, 0, none⟩) ys.length cap) := by
  obtain ⟨φ', A', hs, hφ, hA⟩ := step_new h hf w1 hw1 h1 (.cells cells e fz) (.arr true s ys) ⟨w.heap.size, 0, ys.length, cap⟩ rfl (fun φ' A' x hA => by
    refine ⟨rfl, hcap, vs, hl.mono (fun y v hy => RelD.ext x s y v hy), .inr ⟨by simp [hw1], hA, cells, e, fz, ?_, hz, by simpa using hsz, fun j v hj => by simpa using hpre j v hj⟩⟩
    have := heap_alloc_new w1 (.cells cells e fz)
    rwa [hw1] at this)
  refine ⟨φ', A', hs, ?_⟩
  simp only [RelV, RelL]
  exact ⟨_, hφ, _, _, rfl, hcap, rfl, by simp, .inr (by simp)⟩

def evBuildSlice (P : Program) (t : TypeId) (len : Nat) (parts : List (Nat × PV)) (f : Nat → Option Ob) (nx : Nat) (K : PV → (Nat → Option Ob) → Nat → Option Rt) : Option Rt :=
  match P.underlying t with
  | some (.slice e) => match P.info? e, shapeOf P 9 e with
    | some ie, some s => match ie.zero with
      | some z => cond (Nat.beq ie.size s.size && Nat.ble (len * ie.size) 16777216 && zeroD s z.cells.toList)
          (match fillD s (List.replicate len (zero s)) parts with
            | some ys => K (.lf (.slr s nx 0 0 len none none)) (updO f nx (some (.arr true s ys))) (nx + 1)
            | none => none) none
      | none => none
    | _, _ => none
  | _ => none

theorem evBuildSlice_sound {P : Program} {o : Oper} {t : TypeId} {len : Nat} {parts : Array (Nat × Operand)} (ho : o.op = .buildSlice t len parts) {ρ : Operand → PV} {f : Nat → Option Ob} {nx : Nat} {K : PV → (Nat → Option Ob) → Nat → Option Rt} {r : Rt}
    (h : evBuildSlice P t len (buildParts parts ρ) f nx K = some r) : Memd P o ρ f nx K r := by
  have hmem : ∀ x ∈ parts.toList, x.2 ∈ o.op.operands := fun x hx => by
    rw [ho]; simp only [Op.operands, List.mem_toArray, List.mem_map]; exact ⟨x, hx, rfl⟩
  unfold evBuildSlice at h
  split at h
  · rename_i e hu
    split at h
    · rename_i ie s hie hsh
      split at h
      · rename_i z hz
        cases hc : (Nat.beq ie.size s.size && Nat.ble (len * ie.size) 16777216 && zeroD s z.cells.toList) with
        | false => rw [hc] at h; cases h
        | true =>
          rw [hc] at h; simp only [cond] at h
          simp only [Bool.and_eq_true] at hc
          have hsz := Nat.eq_of_beq_eq_true hc.1.1
          have hsm := Nat.le_of_ble_eq_true hc.1.2
          have hzl : z.cells.size = s.size := by rw [← Array.length_toList]; exact zeroD_len hc.2
          split at h
          · rename_i ys hys
            refine ⟨_, _, _, h, fun E φ A w ρm hR hF hr => ?_⟩
            have hrep := zcells_rel (zeroD_rel A w hc.2) len
            obtain ⟨cs', hfill, hl, hlen⟩ := fillD_rel (φ := φ) (A := A) (w := w) (ρm := ρm) parts.toList hys (fun x hx => hr x.2 (hmem x hx)) hrep
            rw [List.length_replicate] at hlen
            have hcl := Lift.length (RelD.length A w s) hl
            obtain ⟨φ', A', hs, hv⟩ := newArr_step hR hF w rfl ⟨rfl, rfl, rfl⟩ hl cs' e (0, 0) (thawed_zero _) (Nat.le_refl _) (by rw [← Array.length_toList, hcl]; exact Nat.le_refl _) (fun j v hj => by simpa using hj)
            rw [hlen] at hv
            refine ⟨φ', A', _, _, ?_, hs, .inl ⟨_, rfl, hv⟩⟩
            unfold execOp; rw [ho]; simp only []
            rw [run_bind']
            have key : (Instr.buildSlice t len (parts.map fun x => (x.1, ρm x.2))).run P w = .ok (.slice (some ⟨w.heap.size, 0, none⟩) len len) (w.alloc (.cells cs' e)) := by
              unfold Instr.buildSlice
              simp only [run_bind', run_und hu, run_size hie]
              rw [if_neg (by omega)]
              have hfill' : Instr.fill (fun i => some (i * ie.size, ie.size)) ((Array.range (len * ie.size)).map (fun i => z.cells[i % z.cells.size]!)) (parts.map fun x => (x.1, ρm x.2)).toList = some cs' := by
                rw [hsz, Array.toList_map, ← hzl]
                rw [← hzl] at hfill
                exact hfill
              by_cases h0 : len * ie.size = 0
              · rw [if_pos h0]
                rw [run_bind']
                simp only [run_pure]
                rw [h0, map_none] at hfill' ⊢
                rw [hfill']
                rfl
              · rw [if_neg h0]
                simp only [run_bind', run_zero hie hz, run_pure]
                rw [hfill']
                rfl
            rw [key]; rfl
          · cases h
      · cases h
    · cases h
  · cases h

def evMakeSlice (P : Program) (t : TypeId) (p q : PV) (f : Nat → Option Ob) (nx : Nat) (K : PV → (Nat → Option Ob) → Nat → Option Rt) : Option Rt :=
  match p, q with
  | .lf (.sc (.int _ l)), .lf (.sc (.int _ c)) =>
    match P.underlying t with
    | some (.slice e) => match P.info? e, shapeOf P 9 e with
      | some ie, some s => match ie.zero with
        | some z => cond (Nat.beq ie.size s.size && zeroD s z.cells.toList && Nat.ble 1 ie.bytes)
            (if 0 ≤ l then (if l ≤ c then (if c ≤ (281474976710656 / ie.bytes : Nat) then K (.lf (.slr s nx 0 0 l.toNat none none)) (updO f nx (some (.arr true s (List.replicate l.toNat (zero s))))) (nx + 1) else none) else none) else none) none
        | none => none
      | _, _ => none
    | _ => none
  | _, _ => none

theorem wrap_small {n : Int} (h0 : 0 ≤ n) (h1 : n ≤ 281474976710656) : IntKind.i64.wrap n = n := by
  have e : n % (18446744073709551616 : Int) = n := Int.emod_eq_of_lt h0 (by omega)
  simp only [IntKind.wrap, IntKind.bits, IntKind.signed, Nat.reduceSub, Int.reducePow, e, Bool.true_and]
  rw [if_neg]
  simp only [decide_eq_true_eq]; omega

theorem evMakeSlice_sound {P : Program} {o : Oper} {t : TypeId} {x y : Operand} (ho : o.op = .makeSlice t x y) {ρ : Operand → PV} {f : Nat → Option Ob} {nx : Nat} {K : PV → (Nat → Option Ob) → Nat → Option Rt} {r : Rt}
    (h : evMakeSlice P t (ρ x) (ρ y) f nx K = some r) : Memd P o ρ f nx K r := by
  generalize hp : ρ x = p at h
  generalize hq : ρ y = q at h
  unfold evMakeSlice at h
  split at h
  · rename_i k l k' c
    split at h
    · rename_i e hu
      split at h
      · rename_i ie s hie hsh
        split at h
        · rename_i z hz
          cases hc : (Nat.beq ie.size s.size && zeroD s z.cells.toList && Nat.ble 1 ie.bytes) with
          | false => rw [hc] at h; cases h
          | true =>
            rw [hc] at h; simp only [cond] at h
            simp only [Bool.and_eq_true] at hc
            have hsz := Nat.eq_of_beq_eq_true hc.1.1
            have hzl : z.cells.size = s.size := by rw [← Array.length_toList]; exact zeroD_len hc.1.2
            have hb1 := Nat.le_of_ble_eq_true hc.2
            split at h
            · rename_i h0
              split at h
              · rename_i h1
                split at h
                · rename_i h2
                  refine ⟨_, _, _, h, fun E φ A w ρm hR hF hr => ?_⟩
                  have ex := hr x (by rw [ho]; simp [Op.operands])
                  have ey := hr y (by rw [ho]; simp [Op.operands])
                  rw [hp] at ex; rw [hq] at ey
                  simp only [RelV, RelL] at ex ey
                  have hcn : c.toNat ≤ 281474976710656 / ie.bytes := by omega
                  have hcb : c.toNat * ie.bytes ≤ 281474976710656 := Nat.le_trans (Nat.mul_le_mul_right _ hcn) (Nat.div_mul_le_self _ _)
                  have hc48 : c.toNat ≤ 281474976710656 := Nat.le_trans (Nat.le_mul_of_pos_right _ hb1) hcb
                  have hwl := wrap_small h0 (by omega : l ≤ 281474976710656)
                  have hwc := wrap_small (by omega : (0 : Int) ≤ c) (by omega : c ≤ 281474976710656)
                  have hcbi : (ie.bytes : Int) * c ≤ 281474976710656 := by
                    have : ((c.toNat * ie.bytes : Nat) : Int) ≤ (281474976710656 : Nat) := Int.ofNat_le.2 hcb
                    rw [Int.natCast_mul, Int.toNat_of_nonneg (by omega), Int.mul_comm] at this
                    exact this
                  have hrep := zcells_rel (zeroD_rel A w hc.1.2) c.toNat
                  have hsplit : List.replicate c.toNat (zero s) = List.replicate l.toNat (zero s) ++ List.replicate (c.toNat - l.toNat) (zero s) := by
                    rw [List.replicate_append_replicate]; congr 1; omega
                  have hrep2 := hrep
                  rw [hsplit] at hrep2
                  obtain ⟨v1, v2, ev, hl1, _⟩ := Lift.split hrep2
                  have hcl := Lift.length (RelD.length A w s) hrep
                  rw [List.length_replicate] at hcl
                  obtain ⟨φ', A', hs, hv⟩ := newArr_step hR hF w rfl ⟨rfl, rfl, rfl⟩ hl1 ((Array.range (c.toNat * z.cells.size)).map (fun i => z.cells[i % z.cells.size]!)) e (0, 0) (thawed_zero _) (cap := c.toNat) (by rw [List.length_replicate]; omega)
                    (by rw [← Array.length_toList, hcl]; exact Nat.le_refl _) (fun j v hj => by
                      rw [← Array.getElem?_toList, ev, List.getElem?_append_left (List.getElem?_eq_some_iff.1 hj).1]; exact hj)
                  rw [List.length_replicate] at hv
                  refine ⟨φ', A', _, _, ?_, hs, .inl ⟨_, rfl, hv⟩⟩
                  unfold execOp; rw [ho]; simp only []
                  rw [run_bind']
                  have key : (Instr.makeSlice t (ρm x) (ρm y)).run P w = .ok (.slice (some ⟨w.heap.size, 0, none⟩) l.toNat c.toNat) (w.alloc (.cells ((Array.range (c.toNat * z.cells.size)).map (fun i => z.cells[i % z.cells.size]!)) e)) := by
                    unfold Instr.makeSlice
                    simp only [run_bind', run_und hu, ex, ey, asInt, asIntOf, run_pure, run_info hie, hwl, hwc]
                    have hno : ((decide (c < 0) || decide ((ie.bytes : Int) * c > 2 ^ 48)) || decide (l < 0) || decide (l > c)) = false := by
                      simp only [Bool.or_eq_false_iff, decide_eq_false_iff_not]
                      refine ⟨⟨⟨by omega, ?_⟩, by omega⟩, by omega⟩
                      rw [show (2 : Int) ^ 48 = 281474976710656 from by decide]; omega
                    rw [hno]
                    simp only [Bool.false_eq_true, if_false, run_bind', run_size hie]
                    have hask : ∀ n : Nat, (askRoom n).run P w = .ok () w := fun n => by
                      unfold askRoom; split <;> rfl
                    simp only [hask]
                    by_cases hn : c.toNat * ie.size = 0
                    · rw [if_pos hn]
                      simp only [run_pure, newRow, newObj, run_bind', Sem.run]
                      rw [hsz, ← hzl] at hn
                      rw [hsz, ← hzl, hn, map_none, map_none]
                      rfl
                    · rw [if_neg hn]
                      simp only [run_bind', run_zero hie hz, run_pure, newRow, newObj, Sem.run]
                      rw [hsz, ← hzl]
                      rfl
                  rw [key]; rfl
                · cases h
              · cases h
            · cases h
        · cases h
      · cases h
    · cases h
  · cases h
end Go.Ev
