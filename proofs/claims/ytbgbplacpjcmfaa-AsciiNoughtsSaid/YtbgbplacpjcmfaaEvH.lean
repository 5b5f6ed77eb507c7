/- Part of a proof about the given program: EvH. -/
import Derived.Test.YtbgbplacpjcmfaaEvG2
import Derived.Deep.AppendSrc
import Derived.Laws.BytesString
namespace Go.Ev
variable {Rt : Type}

/-! ## Reading -/
def RelObs (φ : Phi) (A : Nat → Prop) (w : World) (f : Nat → Option Ob) : Prop := ∀ o x, f o = some x → ∃ b, φ o = some b ∧ RelOb φ A w b x

def ReadSem (P : Program) (o : Oper) (ρ : Operand → PV) (f : Nat → Option Ob) (v : PV) : Prop :=
  ∀ (φ : Phi) (A : Nat → Prop) (w : World) (ρm : Operand → Value), OpsRel φ A w o ρ ρm → RelObs φ A w f → ∃ mv, (execOp ρm o).run P w = .ok (.value mv) w ∧ RelV φ A w v mv

theorem Held.cells {own : Bool} {A : Nat → Prop} {w : World} {blk base n : Nat} {vs : List Value} (h : Held own A w blk base vs n) : CellsAt w blk base vs := by
  obtain ⟨_, h⟩ := h
  cases own with
  | false => exact h.2
  | true =>
    obtain ⟨_, c, e, fz, hb, _, _, hc⟩ := h
    intro j v hj
    unfold World.cell?
    simp only [hb, Option.isSome_none, Bool.false_eq_true, if_false]
    exact hc j v hj

theorem CellsAt.tail {w : World} {b off : Nat} {vs : List Value} (h : CellsAt w b off vs) (n : Nat) : CellsAt w b (off + n) (vs.drop n) := by
  intro j v hj
  rw [List.getElem?_drop] at hj
  have := h (n + j) v hj
  rwa [← Nat.add_assoc] at this

theorem run_loadVar {P : Program} {t : TypeId} {g : List Seg} {off : Nat} {p : PV} (h : partPV P t g off = some p) {φ : Phi} {A : Nat → Prop} {w : World} {vs : List Value} (hr : RelG φ A w g vs) {b base : Nat}
    (hc : CellsAt w b base vs) : ∃ mv, (loadVar t ⟨b, base + off, none⟩).run P w = .ok mv w ∧ RelV φ A w p mv := by
  unfold partPV at h
  split at h
  · rename_i d i hd hi
    unfold loadVar
    rw [run_bind', run_isAgg hd]
    simp only []
    cases ha : aggD d with
    | true =>
      rw [ha] at h; simp only [cond] at h
      split at h
      · rename_i g1 hg1
        split at h
        · rename_i g2 hg2
          simp only [Option.some.injEq] at h
          have h1 := dropG_rel hg1 hr
          have hlen := takeG_cells hg2 h1
          have hcs : ∀ j v, ((vs.drop off).take i.size)[j]? = some v → w.cell? ((⟨b, base + off, none⟩ : Addr).add j) = some v := fun j v hj => by
            rw [addr_add]
            refine hc.tail off j v ?_
            rw [List.getElem?_take] at hj
            split at hj
            · exact hj
            · cases hj
          have hl := run_loadCells_list (P := P) w ⟨b, base + off, none⟩ ((vs.drop off).take i.size) hcs
          rw [List.length_take, Nat.min_eq_left hlen] at hl
          refine ⟨.agg ⟨(vs.drop off).take i.size⟩, by simp only [if_true]; rw [run_bind', run_size hi]; simp only []; rw [run_bind', hl]; rfl, ?_⟩
          rw [← h]; simp only [RelV]
          exact ⟨_, rfl, takeG_rel hg2 h1⟩
        · cases h
      · cases h
    | false =>
      rw [ha] at h; simp only [cond] at h
      split at h
      · rename_i l g1 hg1
        simp only [Option.some.injEq] at h
        obtain ⟨v1, v2, e, ⟨v, e1, hv⟩, h2⟩ := dropG_rel hg1 hr
        have hget : vs[off]? = some v := by
          have : (vs.drop off)[0]? = some v := by rw [e, e1]; rfl
          rwa [List.getElem?_drop, Nat.add_zero] at this
        refine ⟨v, ?_, by rw [← h]; simpa only [RelV] using hv⟩
        simp only [Bool.false_eq_true, if_false]
        rw [Go.run_load, hc off v hget]
      · cases h
  · cases h

/-- What lies at an address. -/
def readAt (P : Program) (f : Nat → Option Ob) (t : TypeId) (l : Lf) : Option PV :=
  match l with
  | .ptr o off sz idx inner lim => match f o with
    | some (.box _ g) => match lim with
      | none => cond (Nat.beq sz 0) (partPV P t g (off + inner)) none
      | some n => cond (Nat.beq sz 0) (partPV P t g (off + inner)) (match dropG g off with
        | some (.many s xs m :: _) => cond (Nat.beq m n && Nat.beq s.size sz) (partPV P t (toSegs s (xs.getD idx (zero s))) inner) none
        | _ => none)
    | some (.arr _ s xs) => match lim with
      | none => cond (Nat.beq off 0 && Nat.beq s.size sz) (partPV P t (toSegs s (xs.getD idx (zero s))) inner) none
      | some _ => none
    | _ => none
  | .dp s xs i inner => partPV P t (toSegs s (xs.getD i (zero s))) inner
  | _ => none

theorem readAt_sound {P : Program} {f : Nat → Option Ob} {t : TypeId} {l : Lf} {p : PV} (h : readAt P f t l = some p) {φ : Phi} {A : Nat → Prop} {w : World} (hf : RelObs φ A w f) {v : Value} (hv : RelL φ A w l v) :
    ∃ mv, (Instr.loadAt t v).run P w = .ok mv w ∧ RelV φ A w p mv := by
  have elem : ∀ {s : Shape} {xs : List (den s)} {vs : List Value} {idx inner b base : Nat}, Lift (RelD A w s) xs vs → CellsAt w b base vs → idx < xs.length → partPV P t (toSegs s (xs.getD idx (zero s))) inner = some p →
      ∃ mv, (loadVar t ⟨b, base + (idx * s.size + inner), none⟩).run P w = .ok mv w ∧ RelV φ A w p mv := fun {s xs vs idx inner b base} hl hc hi hp => by
    obtain ⟨v1, v2, v3, e, hlen, hd⟩ := Lift.get (RelD.length A w s) (zero s) hl hi
    have hc' : CellsAt w b (base + idx * s.size) v2 := by rw [e] at hc; rw [← hlen]; exact hc.sub
    obtain ⟨mv, hm, hr⟩ := run_loadVar hp (toSegs_rel (φ := φ) hd) hc'
    exact ⟨mv, by rw [← Nat.add_assoc]; exact hm, hr⟩
  unfold readAt at h
  split at h
  · rename_i o off sz idx inner lim
    simp only [RelL] at hv
    obtain ⟨b, hb, rfl, hidx⟩ := hv
    split at h
    · rename_i own g hfo
      obtain ⟨b', hb', hob⟩ := hf _ _ hfo
      rw [hb] at hb'; simp only [Option.some.injEq] at hb'; subst hb'
      simp only [RelOb] at hob
      obtain ⟨vs, hg, hh⟩ := hob
      have flat : Nat.beq sz 0 = true → partPV P t g (off + inner) = some p → ∃ mv, (Instr.loadAt t (.pointer (some ⟨b.blk, b.base + off + (idx * sz + inner), none⟩))).run P w = .ok mv w ∧ RelV φ A w p mv := fun hz hp => by
        have hz' := Nat.eq_of_beq_eq_true hz
        subst hz'
        obtain ⟨mv, hm, hr⟩ := run_loadVar hp hg hh.cells
        refine ⟨mv, ?_, hr⟩
        unfold Instr.loadAt
        simp only [run_bind', Instr.sureAddr, run_pure]
        rw [show b.base + off + (idx * 0 + inner) = b.base + (off + inner) by omega]
        exact hm
      split at h
      · cases hz : Nat.beq sz 0 with
        | false => rw [hz] at h; cases h
        | true => rw [hz] at h; exact flat hz h
      · rename_i n
        cases hz : Nat.beq sz 0 with
        | true => rw [hz] at h; exact flat hz h
        | false =>
          rw [hz] at h; simp only [cond] at h
          split at h
          · rename_i s xs m g2 hg2
            cases hc : (Nat.beq m n && Nat.beq s.size sz) with
            | false => rw [hc] at h; cases h
            | true =>
              rw [hc] at h; simp only [] at h
              simp only [Bool.and_eq_true] at hc
              have hmn := Nat.eq_of_beq_eq_true hc.1
              have hsz := Nat.eq_of_beq_eq_true hc.2
              have hi : idx < n := by
                rcases hidx with h0 | h0
                · rw [h0] at hz; cases hz
                · exact h0
              obtain ⟨v1, v2, e, ⟨hlen, hl⟩, _⟩ := dropG_rel hg2 hg
              have hcc : CellsAt w b.blk (b.base + off) v1 := by
                have := hh.cells.tail off
                rw [e] at this
                have h2 := CellsAt.sub (v1 := []) (v2 := v1) (v3 := v2) (by simpa using this)
                simpa using h2
              obtain ⟨mv, hm, hr⟩ := elem hl hcc (by rw [hlen, hmn]; exact hi) h
              refine ⟨mv, ?_, hr⟩
              unfold Instr.loadAt
              simp only [run_bind', Instr.sureAddr, run_pure]
              rw [← hsz]; exact hm
          · cases h
    · rename_i own s xs hfo
      obtain ⟨b', hb', hob⟩ := hf _ _ hfo
      rw [hb] at hb'; simp only [Option.some.injEq] at hb'; subst hb'
      simp only [RelOb] at hob
      obtain ⟨hlen, hcap, vs, hl, hh⟩ := hob
      split at h
      · cases hc : (Nat.beq off 0 && Nat.beq s.size sz) with
        | false => rw [hc] at h; cases h
        | true =>
          rw [hc] at h; simp only [cond] at h
          simp only [Bool.and_eq_true] at hc
          have h0 := Nat.eq_of_beq_eq_true hc.1
          have hsz := Nat.eq_of_beq_eq_true hc.2
          subst h0
          have hi : idx < xs.length := by
            rcases hidx with h0 | h0
            · have := s.size_pos; omega
            · rw [← hlen]; exact h0
          rcases hh with hh | hh
          · omega
          · obtain ⟨mv, hm, hr⟩ := elem hl hh.cells hi h
            refine ⟨mv, ?_, hr⟩
            unfold Instr.loadAt
            simp only [run_bind', Instr.sureAddr, run_pure, Nat.add_zero]
            rw [← hsz]; exact hm
      · cases h
    · cases h
  · rename_i s xs i inner
    simp only [RelL] at hv
    obtain ⟨b, off, vs, rfl, hi, hA, hbk, hl, hc⟩ := hv
    obtain ⟨mv, hm, hr⟩ := elem hl hc hi h
    refine ⟨mv, ?_, hr⟩
    unfold Instr.loadAt
    simp only [run_bind', Instr.sureAddr, run_pure]
    exact hm
  · cases h

/-- The elements that a slice shows. -/
def viewL (f : Nat → Option Ob) (l : Lf) : Option ((s : Shape) × List (den s)) :=
  match l with
  | .sl s xs _ => some ⟨s, xs⟩
  | .slr s o off start len _ lim => match f o with
    | some (.arr _ s' xs) => match lim with
      | none => if h : s'.beq s = true then cond (Nat.beq off 0) (some ⟨s, ((castD h xs).drop start).take len⟩) none else none
      | some _ => none
    | some (.box _ g) => match lim with
      | some n => match dropG g off with
        | some (.many s' xs m :: _) => if h : s'.beq s = true then cond (Nat.beq m n) (some ⟨s, ((castD h xs).drop start).take len⟩) none else none
        | _ => none
      | none => none
    | _ => none
  | _ => none

theorem castD_self {s : Shape} (h : s.beq s = true) (xs : List (den s)) : castD h xs = xs := by unfold castD; rfl

/-- What the machine shows of a slice. -/
theorem viewL_sound {f : Nat → Option Ob} {l : Lf} {s : Shape} {xs : List (den s)} (h : viewL f l = some ⟨s, xs⟩) {φ : Phi} {A : Nat → Prop} {w : World} (hf : RelObs φ A w f) {v : Value} (hv : RelL φ A w l v) :
    ∃ ad c vs, v = .slice ad xs.length c ∧ xs.length ≤ c ∧ Lift (RelD A w s) xs vs ∧ (xs = [] ∨ ∃ b off, ad = some ⟨b, off, none⟩ ∧ CellsAt w b off vs) := by
  unfold viewL at h
  split at h
  · rename_i s' xs' cap
    simp only [Option.some.injEq] at h
    cases h
    simp only [RelL] at hv
    obtain ⟨ad, c, e, _, hle, hrow⟩ := hv
    rcases hrow with rfl | ⟨b, off, vs, e1, _, _, hl, hc⟩
    · exact ⟨ad, c, [], e, hle, rfl, .inl rfl⟩
    · exact ⟨ad, c, vs, e, hle, hl, .inr ⟨b, off, e1, hc⟩⟩
  · rename_i s' o off start len cap lim
    simp only [RelL] at hv
    obtain ⟨b, hb, ad, c, e, hle, hcap, hlim, had⟩ := hv
    split at h
    · rename_i own s2 ys hfo
      obtain ⟨b', hb', hob⟩ := hf _ _ hfo
      rw [hb] at hb'; simp only [Option.some.injEq] at hb'; subst hb'
      simp only [RelOb] at hob
      obtain ⟨hlen, hcp, vs, hl, hh⟩ := hob
      split at h
      · split at h
        · rename_i hbq
          have hs := Shape.eq_of_beq hbq
          subst hs
          rw [castD_self] at h
          cases hz : Nat.beq off 0 with
          | false => rw [hz] at h; cases h
          | true =>
            rw [hz] at h; simp only [cond, Option.some.injEq] at h
            cases h
            have h0 := Nat.eq_of_beq_eq_true hz
            subst h0
            simp only [] at hlim
            have hln : ((ys.drop start).take len).length = len := by simp only [List.length_take, List.length_drop]; omega
            have hdt : (ys.drop start).take len = (ys.take (start + len)).drop start := by rw [List.drop_take, Nat.add_sub_cancel_left]
            obtain ⟨v1, v2, v3, ev, hl1, hl2⟩ := Lift.sub (RelD.length A w _) hl (l := start) (k := start + len) (by omega) (by omega)
            refine ⟨ad, c, v2, by rw [hln]; exact e, by rw [hln]; exact hle, by rw [hdt]; exact hl2, ?_⟩
            by_cases hl0 : len = 0
            · exact .inl (List.eq_nil_of_length_eq_zero (by rw [hln, hl0]))
            · rcases had with ⟨_, h0⟩ | had
              · exact absurd h0 hl0
              · rcases hh with hh | hh
                · omega
                · refine .inr ⟨b.blk, _, had, ?_⟩
                  have := hh.cells
                  rw [ev] at this
                  have := this.sub
                  rwa [hl1] at this
        · cases h
      · cases h
    · rename_i own g hfo
      obtain ⟨b', hb', hob⟩ := hf _ _ hfo
      rw [hb] at hb'; simp only [Option.some.injEq] at hb'; subst hb'
      simp only [RelOb] at hob
      obtain ⟨vs0, hg, hh⟩ := hob
      split at h
      · rename_i n
        split at h
        · rename_i s2 ys m g2 hg2
          split at h
          · rename_i hbq
            have hs := Shape.eq_of_beq hbq
            subst hs
            rw [castD_self] at h
            cases hz : Nat.beq m n with
            | false => rw [hz] at h; cases h
            | true =>
              rw [hz] at h; simp only [cond, Option.some.injEq] at h
              cases h
              have h0 := Nat.eq_of_beq_eq_true hz
              obtain ⟨vs, vr, ev0, ⟨hlen, hl⟩, _⟩ := dropG_rel hg2 hg
              have hcc : CellsAt w b.blk (b.base + off) vs := by
                have := hh.cells.tail off
                rw [ev0] at this
                have h2 := CellsAt.sub (v1 := []) (v2 := vs) (v3 := vr) (by simpa using this)
                simpa using h2
              simp only [] at hlim
              have hln : ((ys.drop start).take len).length = len := by simp only [List.length_take, List.length_drop]; omega
              have hdt : (ys.drop start).take len = (ys.take (start + len)).drop start := by rw [List.drop_take, Nat.add_sub_cancel_left]
              obtain ⟨v1, v2, v3, ev, hl1, hl2⟩ := Lift.sub (RelD.length A w _) hl (l := start) (k := start + len) (by omega) (by omega)
              refine ⟨ad, c, v2, by rw [hln]; exact e, by rw [hln]; exact hle, by rw [hdt]; exact hl2, ?_⟩
              by_cases hl0 : len = 0
              · exact .inl (List.eq_nil_of_length_eq_zero (by rw [hln, hl0]))
              · rcases had with ⟨_, h0⟩ | had
                · exact absurd h0 hl0
                · refine .inr ⟨b.blk, _, had, ?_⟩
                  rw [ev] at hcc
                  have := hcc.sub
                  rwa [hl1] at this
          · cases h
        · cases h
      · cases h
    · cases h
  · cases h

/-- Bytes, as a string. -/
def bytesStr (xs : List Int) : ByteArray := ⟨(xs.map fun n => UInt8.ofNat n.toNat).toArray⟩

theorem foldl_bytes : ∀ (ns : List Int) (s : ByteArray), ns.foldl (fun r n => r.push (UInt8.ofNat n.toNat)) s = ⟨s.data ++ (ns.map fun n => UInt8.ofNat n.toNat).toArray⟩
  | [], s => by simp
  | n :: ns, s => by
    rw [List.foldl_cons, foldl_bytes ns]
    simp [ByteArray.push]

def cvtRead (P : Program) (src dst : TypeId) (v : Option ((s : Shape) × List (den s))) : Option PV :=
  match P.underlying src, P.underlying dst with
  | some (.slice e), some .string => match P.underlying e, v with
    | some (.int .u8), some ⟨.int .u8, xs⟩ => some (sc (.string (bytesStr xs)))
    | _, _ => none
  | _, _ => none

def readOp (P : Program) (o : Oper) (ρ : Operand → PV) (f : Nat → Option Ob) : Option PV :=
  match o.op with
  | .load t x => match ρ x with
    | .lf l => readAt P f t l
    | _ => none
  | .convert src dst x => match ρ x with
    | .lf l => cvtRead P src dst (viewL f l)
    | _ => none
  | .lookup t x y co => evLookup P t co f (ρ x) (ρ y)
  | .call { callee := .builtin .len, args := ⟨[x]⟩, argTypes := ats } => match ats[0]? with
    | some t => evMapLen P t f (ρ x)
    | none => none
  | _ => none

theorem Lift_ints {A : Nat → Prop} {w : World} {k : IntKind} : ∀ {xs : List Int} {vs : List Value}, Lift (RelD A w (.int k)) xs vs → vs = xs.map (Value.int k)
  | [], _, h => h
  | x :: xs, _, ⟨v1, v2, e, h1, h2⟩ => by rw [e, show _ = _ from h1, Lift_ints h2]; rfl

theorem readOp_sound {P : Program} {o : Oper} {ρ : Operand → PV} {f : Nat → Option Ob} {v : PV} (h : readOp P o ρ f = some v) : ReadSem P o ρ f v := by
  intro φ A w ρm hr hf
  unfold readOp at h
  split at h
  · rename_i t x ho
    split at h
    · rename_i l hl
      have hx := hr x (by rw [ho]; simp [Op.operands])
      rw [hl] at hx; simp only [RelV] at hx
      obtain ⟨mv, hm, hv⟩ := readAt_sound h hf hx
      exact ⟨mv, by unfold execOp; rw [ho]; simp only []; rw [run_bind', hm]; rfl, hv⟩
    · cases h
  · rename_i src dst x ho
    split at h
    · rename_i l hl
      unfold cvtRead at h
      split at h
      rotate_left
      · cases h
      rename_i e hs hd
      split at h
      · rename_i xs he hview
        simp only [Option.some.injEq] at h
        have hx := hr x (by rw [ho]; simp [Op.operands])
        rw [hl] at hx; simp only [RelV] at hx
        obtain ⟨ad, c, vs, ev, hle, hlift, hcell⟩ := viewL_sound hview hf hx
        refine ⟨.string (bytesStr xs), ?_, h ▸ RelV_sc ..⟩
        unfold execOp; rw [ho]; simp only []
        rw [run_bind']
        have key : (convert src dst (ρm x)).run P w = .ok (.string (bytesStr xs)) w := by
          rw [ev]
          have e1 : (convert src dst (.slice ad xs.length c)).run P w = (Conv.bytesToString (.slice ad xs.length c)).run P w := by
            unfold convert
            simp only [run_bind', run_und hs, run_und hd, run_und he]
          rw [e1]
          have hnil : xs = [] → (Conv.bytesToString (.slice ad xs.length c)).run P w = .ok (.string (bytesStr xs)) w := fun hn => by
            subst hn
            cases ad with
            | none => rfl
            | some a =>
              rw [show (bytesStr []) = ([] : List Int).foldl (fun r n => r.push (UInt8.ofNat n.toNat)) ByteArray.empty from rfl]
              exact run_bytesToString w a 0 c [] rfl
          rcases hcell with hn | ⟨b, off, rfl, hc⟩
          · exact hnil hn
          · have hv := Lift_ints hlift
            have hl := run_loadCells_list (P := P) w ⟨b, off, none⟩ vs (fun j u hj => by rw [addr_add]; exact hc j u hj)
            rw [hv, List.length_map] at hl
            rw [run_bytesToString w _ _ c xs hl, foldl_bytes]
            simp [bytesStr, ByteArray.empty, ByteArray.emptyWithCapacity]
            rfl
        rw [key]; rfl
      · cases h
    · cases h
  · rename_i t x y co ho
    exact evLookup_sound ho h hr hf
  · rename_i x ats ho
    split at h
    · rename_i t hat
      exact evMapLen_sound ho hat h hr hf
    · cases h
  · cases h
end Go.Ev
