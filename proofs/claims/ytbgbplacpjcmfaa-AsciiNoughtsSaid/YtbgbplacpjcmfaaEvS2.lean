/- Part of a proof about the given program: EvS2. -/
import Derived.Test.YtbgbplacpjcmfaaEvS
namespace Go.Ev
variable {Rt : Type}

/-! ## A variable that is made before its turn -/
/-- A block that is owned, and that no object holds. -/
structure Free (E : Env) (φ : Phi) (A : Nat → Prop) (f : Nat → Option Ob) (w : World) (b : Nat) (x : Obj) : Prop where
  own : A b
  mem : w.heap[b]? = some x
  new : E.w0.heap.size ≤ b
  far : ∀ o y c, f o = some y → φ o = some c → Owns c y → c.blk ≠ b

theorem Free.lt {E : Env} {φ : Phi} {A : Nat → Prop} {f : Nat → Option Ob} {w : World} {b : Nat} {x : Obj} (h : Free E φ A f w b x) : b < w.heap.size :=
  (Array.getElem?_eq_some_iff.1 h.mem).1

/-- The surroundings as they are now: whatever no object holds stays. -/
def Env.now (E : Env) (φ : Phi) (A : Nat → Prop) (f : Nat → Option Ob) (w : World) : Env :=
  { E with w0 := w, O0 := fun k => ∃ o y c, f o = some y ∧ φ o = some c ∧ Owns c y ∧ c.blk = k, A0 := A }

theorem now_rob {E : Env} {φ : Phi} {A : Nat → Prop} {f : Nat → Option Ob} {nx : Nat} {w : World} (h : ROb E φ A f nx w) : ROb (E.now φ A f w) φ A f nx w :=
  ⟨fun o x hx => by
    obtain ⟨b, hb, hr, _⟩ := h.ob o x hx
    exact ⟨b, hb, hr, fun hO => .inl ⟨o, x, b, hx, hb, hO, rfl⟩⟩, h.inj, h.nx⟩
theorem now_frm {E : Env} {φ : Phi} {A : Nat → Prop} {f : Nat → Option Ob} {nx : Nat} {w : World} (hR : ROb E φ A f nx w) (hF : Frm E A w) : Frm (E.now φ A f w) A w :=
  ⟨Nat.le_refl _, fun _ _ _ => rfl, fun _ _ h => h, fun _ _ h _ => h, rfl, rfl, rfl, hF.glob hR⟩
theorem now_step {E : Env} {φ φ' : Phi} {A A' : Nat → Prop} {f f' : Nat → Option Ob} {nx nx' : Nat} {w w' : World} (h : ROb E φ A f nx w) (hf : Frm E A w) (hs : Step (E.now φ A f w) φ φ' A A' w w' f' nx') : Step E φ φ' A A' w w' f' nx' := by
  have no : ∀ k, k < E.w0.heap.size → ¬ E.O0 k → ¬ (E.now φ A f w).O0 k := fun k hk hO ⟨o, y, c, hy, hc, hOw, e⟩ => by
    obtain ⟨c', hc', _, hreg⟩ := h.ob o y hy
    rw [hc] at hc'; simp only [Option.some.injEq] at hc'; subst hc'
    rcases hreg hOw with h1 | h1
    · exact hO (e ▸ h1)
    · omega
  refine ⟨hs.ext, ⟨fun o x hx => ?_, hs.obs.inj, hs.obs.nx⟩, ⟨Nat.le_trans hf.size hs.frm.size, fun k hk hO => ?_, fun k hk hA => ?_, fun k hk hA hO => ?_, hs.frm.os.trans hf.os, hs.frm.tape.trans hf.tape, hs.frm.output.trans hf.output, hf.gl⟩⟩
  · obtain ⟨b, hb, hr, hreg⟩ := hs.obs.ob o x hx
    refine ⟨b, hb, hr, fun hO => ?_⟩
    rcases hreg hO with ⟨o2, y, c, hy, hc, hOw, e⟩ | h1
    · obtain ⟨c', hc', _, hreg2⟩ := h.ob o2 y hy
      rw [hc] at hc'; simp only [Option.some.injEq] at hc'; subst hc'
      rw [← e]; exact hreg2 hOw
    · exact .inr (Nat.le_trans hf.size h1)
  · exact (hs.frm.heap k (Nat.lt_of_lt_of_le hk hf.size) (no k hk hO)).trans (hf.heap k hk hO)
  · exact hs.frm.out k (Nat.lt_of_lt_of_le hk hf.size) (hf.out k hk hA)
  · exact hs.frm.keep k (Nat.lt_of_lt_of_le hk hf.size) (hf.keep k hk hA hO) (no k hk hO)
theorem now_free {E : Env} {φ φ' : Phi} {A A' : Nat → Prop} {f f' : Nat → Option Ob} {nx' : Nat} {w w' : World} (hs : Step (E.now φ A f w) φ φ' A A' w w' f' nx') {b : Nat} {x : Obj} (h : Free E φ A f w b x) : Free E φ' A' f' w' b x := by
  have no : ¬ (E.now φ A f w).O0 b := fun ⟨o, y, c, hy, hc, hOw, e⟩ => h.far o y c hy hc hOw e
  refine ⟨hs.frm.keep b h.lt h.own no, (hs.frm.heap b h.lt no).trans h.mem, h.new, fun o y c hy hc hO e => ?_⟩
  obtain ⟨c', hc', _, hreg⟩ := hs.obs.ob o y hy
  rw [hc] at hc'; simp only [Option.some.injEq] at hc'; subst hc'
  rcases hreg hO with h1 | h1
  · exact no (e ▸ h1)
  · have := h.lt
    have h2 : w.heap.size ≤ c.blk := h1
    omega

theorem put_other {a : Act} {d : Option Tmp} {mv : Value} {t : Tmp} (h : d ≠ some t) : (a.put d mv).tmps.getD t undef = a.tmps.getD t undef := by
  cases d with
  | none => rfl
  | some i =>
    have hne : i ≠ t := fun e => h (by rw [e])
    simp only [Act.put, Array.getD_eq_getD_getElem?]
    rw [Array.getElem?_setIfInBounds_ne hne]

/-- What an operation leaves alone: free blocks, and the other temporaries. -/
def Keeps (E : Env) (d : Option Tmp) (φ φ' : Phi) (A A' : Nat → Prop) (f f' : Nat → Option Ob) (a a' : Act) (w w' : World) : Prop :=
  (∀ b x, Free E φ A f w b x → Free E φ' A' f' w' b x) ∧ ∀ t, d ≠ some t → a'.tmps.getD t undef = a.tmps.getD t undef

theorem OpW.wpOpK {rd : Option Nat} {P : Program} {n : Nat} {ops : Array Oper} {i : Nat} {o : Oper} (hi : ops[i]? = some o) {E : Env} {φ : Phi} {A : Nat → Prop} {s : St} {a : Act} {w : World} (hR : R E n φ A s a w)
    (hd : dstOk n o.dst = true) (hn : ∀ j want t, o.guard = some (j, want) → (ops[j]?).bind (·.dst) = some t → t < n) {ρ : Operand → PV} (hρ : ∀ x ∈ o.op.operands, s.val x = ρ x) {v : PV} {f : Nat → Option Ob} {nx : Nat}
    (h : (wantedA ops o s.tm = some true ∧ OpW P o ρ s.ob s.nx v f nx) ∨ (wantedA ops o s.tm = some false ∧ v = undefV ∧ f = s.ob ∧ nx = s.nx)) {Q : Exit → Act → World → Prop} {K : Act → World → Prop}
    (hK : ∀ φ' A' a' w', R E n φ' A' (s.after o v f nx) a' w' → Keeps E o.dst φ φ' A A' s.ob f a a' w w' → K a' w') : wpOpIn (fen rd) 0 P ops Q i K a w := by
  unfold wpOpIn
  simp only [hi]
  have hsz := hR.size
  rcases h with ⟨hw, h⟩ | ⟨hw, rfl, rfl, rfl⟩
  · rw [wanted_of hw hR.tm (by rw [hsz]; exact hn)]
    simp only [if_true]
    refine (h rd (E.now φ A s.ob w) φ A w a (now_rob hR.obs) (now_frm hR.obs hR.frm) (fun x hx => by rw [← hρ x hx]; exact hR.val x) K Q (fun φ' A' w' mv hs0 hv => hK φ' A' _ w' ?_ ⟨fun b x hb => now_free hs0 hb, fun t ht => put_other ht⟩))
    have hs := now_step hR.obs hR.frm hs0
    have htm : ∀ t, RelV φ' A' w' (s.tm t) (a.tmps.getD t undef) := fun t => (hR.tm t).ext hs.ext
    exact ⟨by rw [put_defers]; exact hR.defers.ext hs.ext, (put_size a _ mv).trans hsz, put_tm hsz htm (dstOk_lt hd) hv, hs.obs, hs.frm, E.mono φ φ' hs.ext.phi hR.inc⟩
  · rw [wanted_of hw hR.tm (by rw [hsz]; exact hn)]
    simp only [Bool.false_eq_true, if_false]
    refine ⟨fun _ _ => trivial, hK φ A _ w ?_ ⟨fun b x hb => hb, fun t ht => put_other ht⟩⟩
    exact ⟨by rw [put_defers]; exact hR.defers, (put_size a _ undef).trans hsz, put_tm hsz hR.tm (dstOk_lt hd) (undefV_rel ..), hR.obs, hR.frm, hR.inc⟩

/-- A block of noughts. -/
def Noughts (g : List Seg) (x : Obj) : Prop := ∃ cs t, x = .cells cs t ∧ ∀ φ A w, RelG φ A w g cs.toList

/-- A variable is made; nobody knows of it yet. -/
theorem early_alloc {rd : Option Nat} {P : Program} {n : Nat} {ops : Array Oper} {i : Nat} {o : Oper} (hi : ops[i]? = some o) {t : TypeId} (ho : o.op = .alloc t) (hg : o.guard = none) {p : PV} (hp : zeroPV P t = some p) {g : List Seg} (hsg : segsOf p = some g)
    {d : Tmp} (hd : o.dst = some d) (hdn : d < n) {E : Env} {φ : Phi} {A : Nat → Prop} {s : St} {a : Act} {w : World} (hR : R E n φ A s a w) (hany : s.tm d = anyV) {Q : Exit → Act → World → Prop} {K : Act → World → Prop}
    (hK : ∀ A' a' w' b x, R E n φ A' s a' w' → Free E φ A' s.ob w' b x → Noughts g x → a'.tmps.getD d undef = .pointer (some ⟨b, 0, none⟩) → K a' w') : wpOpIn (fen rd) 0 P ops Q i K a w := by
  unfold wpOpIn
  simp only [hi]
  have hsz := hR.size
  have hw : wantedA ops o s.tm = some true := by unfold wantedA; rw [hg]
  rw [wanted_of hw hR.tm (fun j want t e => by rw [hg] at e; cases e)]
  simp only [if_true]
  obtain ⟨i', z, hi', hz, hrel⟩ := zeroPV_rel hp
  have hrun : ∃ cs tt, (execOp a.eval o).run P w = .ok (.value (.pointer (some ⟨w.heap.size, 0, none⟩))) (w.alloc (.cells cs tt)) ∧ ∀ φ A w, RelG φ A w g cs.toList := by
    refine ⟨z.cells, t, ?_, fun φ A w => segsOf_rel hsg (hrel φ A w)⟩
    unfold execOp; rw [ho]; simp only []
    unfold Instr.alloc
    simp only [run_bind', run_zero hi' hz, newVar, newRow, newObj, Sem.run, run_pure]
    rfl
  obtain ⟨cs, tt, hrun, hzero⟩ := hrun
  refine (wp_of_run hrun (hK (fun k => A k ∨ k = w.heap.size) _ _ w.heap.size (.cells cs tt) ?_ ⟨.inr rfl, heap_alloc_new w _, hR.frm.size, fun o y c hy hc hO => by have := (hR.obs.lt hy hc hO).1; omega⟩ ⟨cs, tt, rfl, hzero⟩ ?_))
  · have hsize : (w.alloc (.cells cs tt)).heap.size = w.heap.size + 1 := by simp
    have hget : ∀ k, k < w.heap.size → (w.alloc (.cells cs tt)).heap[k]? = w.heap[k]? := fun k hk => heap_alloc_old w _ k hk
    have hext : Ext φ φ A (fun k => A k ∨ k = w.heap.size) w (w.alloc (.cells cs tt)) :=
      ⟨fun _ _ h => h, by rw [hsize]; omega, fun k hk hA h => by rcases h with h | h; exact hA h; omega, fun k hk _ => hget k hk⟩
    have htm : ∀ t, RelV φ (fun k => A k ∨ k = w.heap.size) (w.alloc (.cells cs tt)) (s.tm t) (a.tmps.getD t undef) := fun t => (hR.tm t).ext hext
    have hput := put_tm (v := anyV) (mv := .pointer (some ⟨w.heap.size, 0, none⟩)) hsz htm (d := o.dst) (fun t e => by rw [hd] at e; simp only [Option.some.injEq] at e; exact e ▸ hdn) (RelV_any ..)
    rw [hd, put_same hany, ← hd] at hput
    refine ⟨by rw [put_defers]; exact hR.defers.ext hext, (put_size a _ _).trans hsz, hput, ⟨fun o x hx => ?_, hR.obs.inj, hR.obs.nx⟩, ⟨?_, fun k hk hO => ?_, fun k hk hA h => ?_, fun k hk hA hO => .inl (hR.frm.keep k hk hA hO), hR.frm.os, hR.frm.tape, hR.frm.output, hR.frm.gl⟩, hR.inc⟩
    · obtain ⟨b, hb, hr, hreg⟩ := hR.obs.ob o x hx
      exact ⟨b, hb, RelOb.ext hext (fun hO => ⟨.inl (hR.obs.lt hx hb hO).2, hget _ (hR.obs.lt hx hb hO).1⟩) hr, hreg⟩
    · have := hR.frm.size; rw [hsize]; omega
    · rw [hget k (Nat.lt_of_lt_of_le hk hR.frm.size)]; exact hR.frm.heap k hk hO
    · rcases h with h | h
      · exact hR.frm.out k hk hA h
      · have := hR.frm.size; omega
  · rw [hd]
    have hlt : d < a.tmps.size := by rw [hsz]; exact hdn
    simp only [Act.put, Array.getD_eq_getD_getElem?]
    rw [Array.getElem?_setIfInBounds_self_of_lt hlt]
    rfl

/-- Its turn has come: it is an object. -/
theorem adopt {n : Nat} {o : Oper} {d : Tmp} (hd : o.dst = some d) {g : List Seg} {E : Env} {φ : Phi} {A : Nat → Prop} {s : St} {a : Act} {w : World} (hR : R E n φ A s a w) {b : Nat} {x : Obj} (hF : Free E φ A s.ob w b x) (hx : Noughts g x)
    (hv : a.tmps.getD d undef = .pointer (some ⟨b, 0, none⟩)) : ∃ φ', R E n φ' A (s.after o (.lf (.ptr s.nx 0 0 0 0 none)) (updO s.ob s.nx (some (.box true g))) (s.nx + 1)) a w := by
  obtain ⟨cs, t, rfl, hz⟩ := hx
  have hext : Ext φ (updP φ s.nx ⟨b, 0, 0, 0⟩) A A w w := ⟨fun i c hc => by
      unfold updP
      by_cases e : i = s.nx
      · rw [e, hR.obs.nx s.nx (Nat.le_refl _)] at hc; cases hc
      · rw [if_neg e]; exact hc, Nat.le_refl _, fun _ _ h => h, fun _ _ _ => rfl⟩
  refine ⟨updP φ s.nx ⟨b, 0, 0, 0⟩, hR.defers, hR.size, fun i => ?_, ?_, hR.frm, E.mono _ _ hext.phi hR.inc⟩
  · show RelV _ A w ((s.put o.dst _).tm i) _
    rw [hd]
    simp only [St.put]
    cases hb : Nat.beq i d with
    | true =>
      rw [Nat.eq_of_beq_eq_true hb, hv]
      simp only [cond, RelV, RelL]
      exact ⟨_, by unfold updP; rw [if_pos rfl], by simp, .inl trivial⟩
    | false => exact (hR.tm i).ext hext
  · refine ROb.special hR.obs hext (fun i hi => ?_) s.nx (.box true g) ⟨b, 0, 0, 0⟩ (updO_same ..) (by simp [updP]) ?_ (fun _ => .inr hF.new) (fun i y hi hy => by
      have : updO s.ob s.nx (some (.box true g)) i = some y := hy
      rwa [updO_ne _ _ hi] at this) (fun i y c hi hy hc hO => ?_)
    · unfold updP; rw [if_neg (by have : s.nx + 1 ≤ i := hi; omega)]; exact hR.obs.nx i (by have : s.nx + 1 ≤ i := hi; omega)
    · exact ⟨cs.toList, hz _ _ _, hF.lt, by
        simp only [if_true]
        exact ⟨hF.own, cs, t, (0, 0), hF.mem, thawed_zero _, by simp, fun j v hj => by simpa using hj⟩⟩
    · have hy0 : s.ob i = some y := by
        have : updO s.ob s.nx (some (.box true g)) i = some y := hy
        rwa [updO_ne _ _ hi] at this
      exact ⟨(hR.obs.lt hy0 hc hO).2, rfl, fun _ => hF.far i y c hy0 hc hO⟩
end Go.Ev
