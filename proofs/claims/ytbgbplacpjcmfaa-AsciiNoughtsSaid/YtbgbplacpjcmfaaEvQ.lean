/- Part of a proof about the given program: EvQ. -/
import Derived.Test.YtbgbplacpjcmfaaEvP
namespace Go.Ev
variable {Rt : Type}

/-! ## Operations under guards -/
def dstOk (n : Nat) : Option Tmp → Bool
  | none => true
  | some t => Nat.blt t n

def St.after (s : St) (o : Oper) (v : PV) (f : Nat → Option Ob) (nx : Nat) : St := ⟨(s.put o.dst v).tm, f, nx⟩

/-- What an operation that is left out leaves behind. -/
def undefV : PV := .tup []
theorem undefV_rel (φ : Phi) (A : Nat → Prop) (w : World) : RelV φ A w undefV undef := by
  simp only [undefV, RelV]
  exact ⟨[], rfl, by simp [RelVs]⟩

def evG (P : Program) (O : Orc Rt) (n : Nat) (ops : Array Oper) (o : Oper) (s : St) (K : St → Option Rt) : Option Rt :=
  cond (dstOk n o.dst)
    (match o.guard with
      | none => evOp P O o s.val s.ob s.nx fun v f nx => K (s.after o v f nx)
      | some (j, want) => match (ops[j]?).bind (·.dst) with
        | some t => match s.tm t with
          | .lf (.sc (.bool b)) => cond (Nat.blt t n)
              (if b = true then
                (fun s1 : St => cond want (evOp P O o s1.val s1.ob s1.nx fun v f nx => K (s1.after o v f nx)) (K (s1.after o undefV s1.ob s1.nx))) (s.put (some t) (sc (.bool true)))
              else
                (fun s1 : St => cond want (K (s1.after o undefV s1.ob s1.nx)) (evOp P O o s1.val s1.ob s1.nx fun v f nx => K (s1.after o v f nx))) (s.put (some t) (sc (.bool false)))) none
          | .tup [] => cond (Nat.blt t n) (K (s.after o undefV s.ob s.nx)) none
          | _ => none
        | none => none) none

/-- Is it wanted, by what the frame holds? -/
def wantedA (ops : Array Oper) (o : Oper) (tm : Nat → PV) : Option Bool :=
  match o.guard with
  | none => some true
  | some (j, want) => match (ops[j]?).bind (·.dst) with
    | some t => match tm t with
      | .lf (.sc (.bool b)) => some (b == want)
      | .tup [] => some false
      | _ => none
    | none => none

def OpTo (P : Program) (O : Orc Rt) (n : Nat) (ops : Array Oper) (o : Oper) (s s' : St) : Prop :=
  dstOk n o.dst = true ∧ (∀ j want t, o.guard = some (j, want) → (ops[j]?).bind (·.dst) = some t → t < n) ∧
  ∃ v f nx, s' = s.after o v f nx ∧ ((wantedA ops o s.tm = some true ∧ OpDid P o s.val s.ob s.nx v f nx ∧ Agree s.ob f s.nx (touchOf P O o s.val s.ob)) ∨ (wantedA ops o s.tm = some false ∧ v = undefV ∧ f = s.ob ∧ nx = s.nx))

theorem put_same {s : St} {t : Tmp} {v : PV} (h : s.tm t = v) : s.put (some t) v = s := by
  cases s with
  | mk tm ob nx =>
    simp only [St.put]
    congr 1
    funext i
    cases hb : Nat.beq i t with
    | true => rw [Nat.eq_of_beq_eq_true hb]; exact h.symm
    | false => rfl

theorem evG_sound {P : Program} {O : Orc Rt} (hO : OrcOk P O) {n : Nat} {ops : Array Oper} {o : Oper} {s : St} {K : St → Option Rt} {r : Rt} (h : evG P O n ops o s K = some r) : ∃ s', OpTo P O n ops o s s' ∧ K s' = some r := by
  unfold evG at h
  cases hd : dstOk n o.dst with
  | false => rw [hd] at h; cases h
  | true =>
    rw [hd] at h; simp only [cond] at h
    split at h
    · rename_i hg
      obtain ⟨v, f, nx, h1, h2⟩ := evOp_sound2 hO h
      exact ⟨_, ⟨hd, (fun j want t e => by rw [hg] at e; cases e), v, f, nx, rfl, .inl ⟨by unfold wantedA; rw [hg], h2⟩⟩, h1⟩
    · rename_i j want hg
      split at h
      · rename_i t ht
        split at h
        · rename_i b hb
          cases hlt : Nat.blt t n with
          | false => rw [hlt] at h; cases h
          | true =>
            rw [hlt] at h; simp only [] at h
            have htn : ∀ j' want' t', o.guard = some (j', want') → (ops[j']?).bind (·.dst) = some t' → t' < n := fun j' want' t' e e' => by
              rw [hg] at e
              simp only [Option.some.injEq, Prod.mk.injEq] at e
              rw [← e.1, ht] at e'
              simp only [Option.some.injEq] at e'
              exact e' ▸ Nat.le_of_ble_eq_true hlt
            have hw : wantedA ops o s.tm = some (b == want) := by unfold wantedA; simp only [hg, ht, hb]
            split at h
            · rename_i hbt
              rw [put_same (by rw [hb, hbt]; rfl)] at h
              cases want with
              | true =>
                simp only at h
                obtain ⟨v, f, nx, h1, h2⟩ := evOp_sound2 hO h
                exact ⟨_, ⟨hd, htn, v, f, nx, rfl, .inl ⟨by rw [hw, hbt]; rfl, h2⟩⟩, h1⟩
              | false =>
                simp only at h
                exact ⟨_, ⟨hd, htn, undefV, s.ob, s.nx, rfl, .inr ⟨by rw [hw, hbt]; rfl, rfl, rfl, rfl⟩⟩, h⟩
            · rename_i hbt
              have hbf : b = false := by simpa using hbt
              rw [put_same (by rw [hb, hbf]; rfl)] at h
              cases want with
              | true =>
                simp only at h
                exact ⟨_, ⟨hd, htn, undefV, s.ob, s.nx, rfl, .inr ⟨by rw [hw, hbf]; rfl, rfl, rfl, rfl⟩⟩, h⟩
              | false =>
                simp only at h
                obtain ⟨v, f, nx, h1, h2⟩ := evOp_sound2 hO h
                exact ⟨_, ⟨hd, htn, v, f, nx, rfl, .inl ⟨by rw [hw, hbf]; rfl, h2⟩⟩, h1⟩
        · rename_i hb
          cases hlt : Nat.blt t n with
          | false => rw [hlt] at h; cases h
          | true =>
            rw [hlt] at h; simp only at h
            have htn : ∀ j' want' t', o.guard = some (j', want') → (ops[j']?).bind (·.dst) = some t' → t' < n := fun j' want' t' e e' => by
              rw [hg] at e
              simp only [Option.some.injEq, Prod.mk.injEq] at e
              rw [← e.1, ht] at e'
              simp only [Option.some.injEq] at e'
              exact e' ▸ Nat.le_of_ble_eq_true hlt
            exact ⟨_, ⟨hd, htn, undefV, s.ob, s.nx, rfl, .inr ⟨by unfold wantedA; simp only [hg, ht, hb], rfl, rfl, rfl⟩⟩, h⟩
        · cases h
      · cases h

theorem dstOk_lt {n : Nat} {d : Option Tmp} (h : dstOk n d = true) : ∀ t, d = some t → t < n := fun t e => by
  subst e; exact Nat.le_of_ble_eq_true h

theorem wanted_of {ops : Array Oper} {o : Oper} {tm : Nat → PV} {b : Bool} (h : wantedA ops o tm = some b) {φ : Phi} {A : Nat → Prop} {w : World} {tmps : Array Value} (ht : ∀ t, RelV φ A w (tm t) (tmps.getD t undef))
    (hn : ∀ j want t, o.guard = some (j, want) → (ops[j]?).bind (·.dst) = some t → t < tmps.size) : Region.wanted o (yielded ops tmps) = b := by
  unfold wantedA at h
  unfold Region.wanted
  split at h
  · rename_i hg; simp only [Option.some.injEq] at h; rw [hg, ← h]
  · rename_i j want hg
    rw [hg]
    simp only []
    split at h
    · rename_i t htd
      split at h
      · rename_i c hc
        simp only [Option.some.injEq] at h
        have hlt := hn j want t hg htd
        have hv := ht t
        rw [hc] at hv
        simp only [RelV, RelL] at hv
        unfold yielded
        rw [htd]
        have hget : tmps[t]? = some (.bool c) := by
          rw [Array.getElem?_eq_getElem hlt]
          rw [Array.getD_eq_getD_getElem?, Array.getElem?_eq_getElem hlt] at hv
          simpa using hv
        simp only [Option.bind_some, hget]
        rw [← h]
        cases c <;> cases want <;> rfl
      · rename_i hc
        simp only [Option.some.injEq] at h
        have hlt := hn j want t hg htd
        have hv := ht t
        rw [hc] at hv
        simp only [RelV] at hv
        obtain ⟨vs, hv, hvs⟩ := hv
        simp only [RelVs] at hvs
        subst hvs
        unfold yielded
        rw [htd]
        have hget : tmps[t]? = some (.tuple #[]) := by
          rw [Array.getElem?_eq_getElem hlt]
          rw [Array.getD_eq_getD_getElem?, Array.getElem?_eq_getElem hlt] at hv
          simpa using hv
        simp only [Option.bind_some, hget]
        rw [← h]
        rfl
      · cases h
    · cases h

/-- A machine's frame that is told by (tm, ob, nx), operation number i comes up. -/
theorem OpW.wpOp {rd : Option Nat} {P : Program} {n : Nat} {ops : Array Oper} {i : Nat} {o : Oper} (hi : ops[i]? = some o) {E : Env} {φ : Phi} {A : Nat → Prop} {s : St} {a : Act} {w : World} (hR : R E n φ A s a w)
    (hd : dstOk n o.dst = true) (hn : ∀ j want t, o.guard = some (j, want) → (ops[j]?).bind (·.dst) = some t → t < n) {ρ : Operand → PV} (hρ : ∀ x ∈ o.op.operands, s.val x = ρ x) {v : PV} {f : Nat → Option Ob} {nx : Nat}
    (h : (wantedA ops o s.tm = some true ∧ OpW P o ρ s.ob s.nx v f nx) ∨ (wantedA ops o s.tm = some false ∧ v = undefV ∧ f = s.ob ∧ nx = s.nx)) {Q : Exit → Act → World → Prop} {K : Act → World → Prop}
    (hK : ∀ φ' A' a' w', R E n φ' A' (s.after o v f nx) a' w' → K a' w') : wpOpIn (fen rd) 0 P ops Q i K a w := by
  unfold wpOpIn
  simp only [hi]
  have hsz := hR.size
  rcases h with ⟨hw, h⟩ | ⟨hw, rfl, rfl, rfl⟩
  · rw [wanted_of hw hR.tm (by rw [hsz]; exact hn)]
    simp only [if_true]
    refine (h rd E φ A w a hR.obs hR.frm (fun x hx => by rw [← hρ x hx]; exact hR.val x) K Q (fun φ' A' w' mv hs hv => hK φ' A' _ w' ?_))
    have htm : ∀ t, RelV φ' A' w' (s.tm t) (a.tmps.getD t undef) := fun t => (hR.tm t).ext hs.ext
    exact ⟨by rw [put_defers]; exact hR.defers.ext hs.ext, (put_size a _ mv).trans hsz, put_tm hsz htm (dstOk_lt hd) hv, hs.obs, hs.frm, E.mono φ φ' hs.ext.phi hR.inc⟩
  · rw [wanted_of hw hR.tm (by rw [hsz]; exact hn)]
    simp only [Bool.false_eq_true, if_false]
    refine ⟨fun _ _ => trivial, hK φ A _ w ?_⟩
    exact ⟨by rw [put_defers]; exact hR.defers, (put_size a _ undef).trans hsz, put_tm hsz hR.tm (dstOk_lt hd) (undefV_rel ..), hR.obs, hR.frm, hR.inc⟩

theorem OpTo.wpOp {rd : Option Nat} {P : Program} {O : Orc Rt} {n : Nat} {ops : Array Oper} {i : Nat} {o : Oper} (hi : ops[i]? = some o) {s s' : St} (h : OpTo P O n ops o s s') {E : Env} {φ : Phi} {A : Nat → Prop} {a : Act} {w : World} (hR : R E n φ A s a w) {Q : Exit → Act → World → Prop} {K : Act → World → Prop}
    (hK : ∀ φ' A' a' w', R E n φ' A' s' a' w' → K a' w') : wpOpIn (fen rd) 0 P ops Q i K a w := by
  obtain ⟨hd, hn, v, f, nx, rfl, h⟩ := h
  exact OpW.wpOp hi hR hd hn (fun _ _ => rfl) (h.imp (fun ⟨a, b, _⟩ => ⟨a, b.opW⟩) id) hK

/-! ## A region in the text's order -/
def evIdx (P : Program) (O : Orc Rt) (n : Nat) (ops : Array Oper) : List Nat → St → (St → Option Rt) → Option Rt
  | [], s, K => K s
  | i :: l, s, K => match ops[i]? with
    | some o => evG P O n ops o s fun s' => evIdx P O n ops l s' K
    | none => evIdx P O n ops l s K

theorem evIdx_sound {rd : Option Nat} {P : Program} {O : Orc Rt} (hO : OrcOk P O) {n : Nat} {ops : Array Oper} {K : St → Option Rt} {r : Rt} {E : Env} {Q : Exit → Act → World → Prop}
    (hK : ∀ s φ A a w, K s = some r → R E n φ A s a w → Q .normal a w) : ∀ (l : List Nat) {s : St} {φ : Phi} {A : Nat → Prop} {a : Act} {w : World}, evIdx P O n ops l s K = some r → R E n φ A s a w → wpOpsIn (fen rd) 0 P ops Q l a w
  | [], _, _, _, _, _, h, hR => hK _ _ _ _ _ h hR
  | i :: l, s, φ, A, a, w, h, hR => by
    rw [wpOpsIn_cons]
    unfold evIdx at h
    cases hi : ops[i]? with
    | none =>
      rw [hi] at h
      unfold wpOpIn
      simp only [hi]
      exact evIdx_sound hO hK l h hR
    | some o =>
      rw [hi] at h
      obtain ⟨s', h1, h2⟩ := evG_sound hO h
      exact h1.wpOp hi hR (fun φ' A' a' w' hR' => evIdx_sound hO hK l h2 hR')
end Go.Ev
