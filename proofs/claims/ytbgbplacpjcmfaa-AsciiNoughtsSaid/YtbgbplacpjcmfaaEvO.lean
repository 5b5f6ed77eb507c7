/- Part of a proof about the given program: EvO. -/
import Derived.Test.YtbgbplacpjcmfaaEvN2
import Derived.OrdersIn
namespace Go.Ev
variable {Rt : Type}

/-! ### a string as bytes -/
def evBytes (P : Program) (src dst : TypeId) (p : PV) (f : Nat → Option Ob) (nx : Nat) (K : PV → (Nat → Option Ob) → Nat → Option Rt) : Option Rt :=
  match p, P.underlying src, P.underlying dst with
  | .lf (.sc (.string s)), some .string, some (.slice e) => match P.underlying e with
    | some (.int .u8) => K (.lf (.slr (.int .u8) nx 0 0 s.size none none)) (updO f nx (some (.arr true (.int .u8) (s.data.toList.map fun x => (x.toNat : Int))))) (nx + 1)
    | _ => none
  | _, _, _ => none

theorem freeze_alloc (w : World) (c : Array Value) (e : TypeId) : (w.alloc (.cells c e)).freeze ⟨w.heap.size, c.size, none⟩ 1 = w.alloc (.cells c e (c.size, c.size + 1)) := by
  unfold World.freeze
  rw [if_neg (by omega)]
  simp only [World.alloc]
  congr 1
  apply Array.ext_getElem?
  intro i
  rw [Array.getElem?_modify, Array.getElem?_push, Array.getElem?_push]
  by_cases h : i = w.heap.size
  · subst h; simp
  · simp only [if_neg h, if_neg (fun e => h e.symm : ¬ w.heap.size = i)]

theorem evBytes_sound {P : Program} {o : Oper} {src dst : TypeId} {x : Operand} (ho : o.op = .convert src dst x) {ρ : Operand → PV} {f : Nat → Option Ob} {nx : Nat} {K : PV → (Nat → Option Ob) → Nat → Option Rt} {r : Rt}
    (h : evBytes P src dst (ρ x) f nx K = some r) : Memd P o ρ f nx K r := by
  generalize hp : ρ x = p at h
  unfold evBytes at h
  split at h
  · rename_i s e hs hd
    split at h
    · rename_i he
      refine ⟨_, _, _, h, fun E φ A w ρm hR hF hr => ?_⟩
      have hx := hr x (by rw [ho]; simp [Op.operands])
      rw [hp] at hx; simp only [RelV, RelL] at hx
      have hsz : s.data.toList.length = s.size := by rw [Array.length_toList]; rfl
      have hge := grownCap_ge w s.size 0 e
      generalize hcs : (s.data.map (fun b => Value.int .u8 b.toNat) ++ Array.replicate (grownCap w s.size 0 e - s.size) (Value.int .u8 0)) = cs
      have hcl : cs.size = grownCap w s.size 0 e := by
        rw [← hcs, Array.size_append, Array.size_map, Array.size_replicate]
        have : s.data.size = s.size := rfl
        omega
      obtain ⟨φ', A', hst, hv⟩ := newArr_step hR hF w.drew rfl ⟨rfl, rfl, rfl⟩ (bytes_lift (A := A) (w := w) s.data.toList) cs e (cs.size, cs.size + 1) (.inr (Nat.le_refl _)) (cap := grownCap w s.size 0 e)
        (by rw [List.length_map, hsz]; exact hge) (by rw [hcl]; simp [Shape.size]) (fun j v hj => by
          have hjl := (List.getElem?_eq_some_iff.1 hj).1
          rw [← hcs, Array.getElem?_append_left (by simpa using hjl)]
          simpa using hj)
      rw [List.length_map, hsz] at hv
      refine ⟨φ', A', _, _, ?_, hst, .inl ⟨_, rfl, hv⟩⟩
      unfold execOp; rw [ho]; simp only [hx]
      rw [run_bind']
      have key : (convert src dst (.string s)).run P w = .ok (.slice (some ⟨w.heap.size, 0, none⟩) s.size (grownCap w s.size 0 e)) (w.drew.alloc (.cells cs e (cs.size, cs.size + 1))) := by
        have e1 : (convert src dst (.string s)).run P w = (Conv.stringToBytes e s).run P w := by
          unfold convert
          simp only [run_bind', run_und hs, run_und hd, run_und he]
        rw [e1]
        unfold Conv.stringToBytes
        have hch : (choose (.appendCap s.size 0 e)).run P w = .ok (grownCap w s.size 0 e) w.drew := rfl
        rw [run_bind', hch]
        simp only []
        rw [run_bind', show (newRow e (s.data.map (fun b => Value.int .u8 b.toNat) ++ Array.replicate (grownCap w s.size 0 e - s.size) (Value.int .u8 0))).run P w.drew = .ok ⟨w.heap.size, 0, none⟩ (w.drew.alloc (.cells cs e)) from by rw [hcs]; rfl]
        simp only []
        have hshape : (w.drew.alloc (.cells cs e)).shape? w.heap.size = some (e, cs.size) := by
          unfold World.shape?
          have := heap_alloc_new w.drew (.cells cs e)
          rw [show w.drew.heap.size = w.heap.size from rfl] at this
          rw [this]
        have hmark : (markStringish ⟨w.heap.size, 0, none⟩).run P (w.drew.alloc (.cells cs e)) = .ok () (w.drew.alloc (.cells cs e (cs.size, cs.size + 1))) := by
          unfold markStringish
          rw [run_bind', show (shape w.heap.size).run P (w.drew.alloc (.cells cs e)) = .ok (some (e, cs.size)) (w.drew.alloc (.cells cs e)) from by
            show Result.ok _ _ = _; rw [hshape]]
          show Result.ok () ((w.drew.alloc (.cells cs e)).freeze ⟨w.heap.size, cs.size, none⟩ 1) = _
          rw [show w.heap.size = w.drew.heap.size from rfl, freeze_alloc]
        rw [run_bind', hmark]
        rfl
      rw [key]; rfl
    · cases h
  · cases h

/-! ### bytes as bytes: the row stays, and is marked behind its end -/
def evCvtOwn (P : Program) (src dst : TypeId) (p : PV) (f : Nat → Option Ob) (nx : Nat) (K : PV → (Nat → Option Ob) → Nat → Option Rt) : Option Rt :=
  match p, P.underlying src, P.underlying dst with
  | .lf (.slr s o 0 st len c none), some (.slice _), some (.slice e) => match P.underlying e, f o with
    | some (.int .u8), some (.arr true _ _) => cond (Nat.beq src dst) (if len = 0 then none else K (.lf (.slr s o 0 st len c none)) f nx) none
    | _, _ => none
  | _, _, _ => none

theorem evCvtOwn_sound {P : Program} {o : Oper} {src dst : TypeId} {x : Operand} (ho : o.op = .convert src dst x) {ρ : Operand → PV} {f : Nat → Option Ob} {nx : Nat} {K : PV → (Nat → Option Ob) → Nat → Option Rt} {r : Rt}
    (h : evCvtOwn P src dst (ρ x) f nx K = some r) : Memd P o ρ f nx K r := by
  generalize hp : ρ x = p at h
  unfold evCvtOwn at h
  split at h
  · rename_i s o' st len c e0 e hs hd
    split at h
    · rename_i s2 xs he hfo
      cases hsd : Nat.beq src dst with
      | false => rw [hsd] at h; cases h
      | true =>
        rw [hsd] at h; simp only [cond] at h
        have hsd' := Nat.eq_of_beq_eq_true hsd
        split at h
        · cases h
        · rename_i hlen
          refine ⟨_, _, _, h, fun E φ A w ρm hR hF hr => ?_⟩
          have hx := hr x (by rw [ho]; simp [Op.operands])
          rw [hp] at hx; simp only [RelV, RelL] at hx
          obtain ⟨b, hb, ad, cc, ev, hle, hcap, hlim, had⟩ := hx
          obtain ⟨b', hb', ⟨h1, h2, vs, hl, hh⟩, _⟩ := hR.ob _ _ hfo
          rw [hb] at hb'; simp only [Option.some.injEq] at hb'; subst hb'
          have hcap0 : b.cap ≠ 0 := by omega
          rcases had with ⟨_, h0⟩ | had
          · exact absurd h0 hlen
          · rcases hh with hh | ⟨hlt, hA, cs, ce, fz, hheap, hth, hroom, hcells⟩
            · exact absurd hh hcap0
            · have hfz : ∃ fz', Thawed cs.size fz' ∧ w.freeze ⟨b.blk, cs.size, none⟩ 1 = { w with heap := w.heap.setIfInBounds b.blk (.cells cs ce fz') } := by
                refine ⟨(if fz.1 == fz.2 then (cs.size, cs.size + 1) else (min fz.1 cs.size, max fz.2 (cs.size + 1))), ?_, ?_⟩
                · by_cases hq : fz.1 = fz.2
                  · rw [if_pos (by simpa using hq)]; exact .inr (Nat.le_refl _)
                  · rw [if_neg (by simpa using hq)]
                    rcases hth with h3 | h3
                    · exact absurd h3 hq
                    · exact .inr (by simp only []; omega)
                · unfold World.freeze
                  rw [if_neg (by omega)]
                  congr 1
                  apply Array.ext_getElem?
                  intro i
                  rw [Array.getElem?_modify, Array.getElem?_setIfInBounds]
                  by_cases hi : b.blk = i
                  · subst hi
                    rw [if_pos rfl, if_pos rfl, if_pos hlt, hheap]
                    rfl
                  · rw [if_neg hi, if_neg hi]
              obtain ⟨fz', hth', hw⟩ := hfz
              obtain ⟨k1, k2, k3⟩ := keeps_heap (o' := .cells cs ce fz') hheap
              have hst := step_write (x' := .arr true s2 xs) hR hF hfo hb ⟨rfl, hcap0⟩ (w' := { w with heap := w.heap.setIfInBounds b.blk (.cells cs ce fz') }) (by simp) k3 ⟨rfl, rfl, rfl⟩ (fun hext => ⟨h1, h2, vs, hl.mono (fun y v hy => RelD.ext hext s2 y v hy), .inr ⟨by simpa using hlt, hA, cs, ce, fz', k2, hth', hroom, hcells⟩⟩)
              have hsame : updO f o' (some (.arr true s2 xs)) = f := by
                funext i
                by_cases hi : i = o'
                · rw [hi, updO_same, hfo]
                · rw [updO_ne _ _ hi]
              rw [hsame] at hst
              refine ⟨φ, A, _, _, ?_, hst, .inl ⟨ρm x, rfl, ?_⟩⟩
              · unfold execOp; rw [ho]; simp only []
                rw [run_bind']
                have key : (convert src dst (ρm x)).run P w = .ok (ρm x) { w with heap := w.heap.setIfInBounds b.blk (.cells cs ce fz') } := by
                  rw [ev, had]
                  unfold convert
                  simp only [run_bind', run_und hs, run_und hd]
                  rw [hsd']
                  simp only [beq_self_eq_true, run_bind', run_und he]
                  have hshape : w.shape? b.blk = some (ce, cs.size) := by
                    unfold World.shape?; rw [hheap]
                  have hmark : (markStringish ⟨b.blk, b.base + 0 + st * s.size, none⟩).run P w = .ok () { w with heap := w.heap.setIfInBounds b.blk (.cells cs ce fz') } := by
                    unfold markStringish
                    rw [run_bind', show (shape b.blk).run P w = .ok (some (ce, cs.size)) w from by
                      show Result.ok _ _ = _; rw [hshape]]
                    show Result.ok () (w.freeze ⟨b.blk, cs.size, none⟩ 1) = _
                    rw [hw]
                  rw [hmark]
                  rfl
                rw [key]; rfl
              · simp only [RelV, RelL]
                exact ⟨b, hb, ad, cc, ev, hle, hcap, hlim, .inr had⟩
    · cases h
  · cases h

/-! ## One operation -/
/-- Wherever: outside all rounds of a range over a function, or inside one. -/
def fen (rd : Option Nat) : Fence := { Fence.wide with round := rd }
theorem fen_none : fen none = Fence.wide := rfl
theorem fen_round (rd : Option Nat) (l : Nat) : (fen rd).inRound l = fen (some l) := rfl
theorem fen_calls {rd : Option Nat} {n : Nat} {P : Program} {f : FuncId} {args : Array Value} {w : World} {R : Ending → World → Prop} (h : Calls P f args w R) : CallsIn (fen rd) n P f args w R :=
  (callsIn_wide.2 h : CallsIn Fence.wide n P f args w R)
theorem run_semAt {rd : Option Nat} {P : Program} {o : Oper} {ρ : Operand → Value} {w w' : World} {x : Next} (h : (execOp ρ o).run P w = .ok x w') (hx : ∀ d, x ≠ .defer d) : (o.semAt rd ρ).run P w = .ok x w' := by
  rw [Oper.semAt_eq rd ρ o, h]
  intro c hc
  have he : execOp ρ o = (do pure (.defer (← resolve ρ c o.type)) : Sem Next) := by unfold execOp; rw [hc]
  rw [he, run_bind'] at h
  cases hr : (resolve ρ c o.type).run P w with
  | ok d w1 =>
    rw [hr] at h
    simp only [run_pure] at h
    injection h with h1 h2
    exact hx d h1.symm
  | halt d w1 => rw [hr] at h; cases h
def OpW (P : Program) (o : Oper) (ρ : Operand → PV) (f : Nat → Option Ob) (nx : Nat) (v : PV) (f' : Nat → Option Ob) (nx' : Nat) : Prop :=
  ∀ (rd : Option Nat) (E : Env) (φ : Phi) (A : Nat → Prop) (w : World) (a : Act), ROb E φ A f nx w → Frm E A w → OpsRel φ A w o ρ a.eval → ∀ (K : Act → World → Prop) (Q : Exit → Act → World → Prop),
    (∀ φ' A' w' mv, Step E φ φ' A A' w w' f' nx' → RelV φ' A' w' v mv → K (a.put o.dst mv) w') → o.wpIn (fen rd) 0 P a w K Q

theorem wp_of_run {rd : Option Nat} {P : Program} {o : Oper} {a : Act} {w w' : World} {mv : Value} {K : Act → World → Prop} {Q : Exit → Act → World → Prop} (h : (execOp a.eval o).run P w = .ok (.value mv) w') (hK : K (a.put o.dst mv) w') : o.wpIn (fen rd) 0 P a w K Q := by
  refine ⟨fun _ _ => trivial, ?_⟩
  rw [run_semAt h (fun _ e => by cases e)]; exact hK
theorem wp_of_skip {rd : Option Nat} {P : Program} {o : Oper} {a : Act} {w w' : World} {K : Act → World → Prop} {Q : Exit → Act → World → Prop} (h : (execOp a.eval o).run P w = .ok .skip w') (hK : K (a.put o.dst undef) w') : o.wpIn (fen rd) 0 P a w K Q := by
  refine ⟨fun _ _ => trivial, ?_⟩
  rw [run_semAt h (fun _ e => by cases e)]; exact hK

theorem Step.refl {E : Env} {φ : Phi} {A : Nat → Prop} {w : World} {f : Nat → Option Ob} {nx : Nat} (h : ROb E φ A f nx w) (hf : Frm E A w) : Step E φ φ A A w w f nx := ⟨Ext.refl φ A w, h, hf⟩

theorem ROb.rel {E : Env} {φ : Phi} {A : Nat → Prop} {f : Nat → Option Ob} {nx : Nat} {w : World} (h : ROb E φ A f nx w) : RelObs φ A w f := fun o x hx => by obtain ⟨b, h1, h2, _⟩ := h.ob o x hx; exact ⟨b, h1, h2⟩

theorem PureSem.opW {P : Program} {o : Oper} {ρ : Operand → PV} {v : PV} (h : PureSem P o ρ v) (f : Nat → Option Ob) (nx : Nat) : OpW P o ρ f nx v f nx :=
  fun _ _ φ A w a hR hF hr _ _ hK => by
    obtain ⟨mv, h1, h2⟩ := h φ A w a.eval hr
    exact wp_of_run h1 (hK φ A w mv (Step.refl hR hF) h2)
theorem ReadSem.opW {P : Program} {o : Oper} {ρ : Operand → PV} {v : PV} {f : Nat → Option Ob} (h : ReadSem P o ρ f v) (nx : Nat) : OpW P o ρ f nx v f nx :=
  fun _ _ φ A w a hR hF hr _ _ hK => by
    obtain ⟨mv, h1, h2⟩ := h φ A w a.eval hr hR.rel
    exact wp_of_run h1 (hK φ A w mv (Step.refl hR hF) h2)
theorem MemSem.opW {P : Program} {o : Oper} {ρ : Operand → PV} {v : PV} {f f' : Nat → Option Ob} {nx nx' : Nat} (h : MemSem P o ρ f nx v f' nx') : OpW P o ρ f nx v f' nx' :=
  fun _ E φ A w a hR hF hr _ _ hK => by
    obtain ⟨φ', A', w', nxt, h1, h2, h3⟩ := h E φ A w a.eval hR hF hr
    rcases h3 with ⟨mv, rfl, h3⟩ | ⟨rfl, rfl⟩
    · exact wp_of_run h1 (hK φ' A' w' mv h2 h3)
    · exact wp_of_skip h1 (hK φ' A' w' undef h2 (RelV_any ..))

/-- Is the function entered when it is called? -/
def enters (P : Program) (g : FuncId) : Bool := match P.funcs[g]? with | some fn => fn.body.isSome && !(fn.name == "runtime.NumGoroutine") | none => false

theorem run_callFunc {P : Program} {g : FuncId} (h : enters P g = true) (args : Array Value) (w : World) : (callFunc g args).run P w = .ok (.enter g args) w := by
  unfold enters at h
  split at h
  · rename_i fn hfn
    simp only [Bool.and_eq_true, Bool.not_eq_true'] at h
    unfold callFunc
    simp only [run_bind', program, Sem.run, hfn]
    rw [if_neg (by rw [h.2]; simp), if_neg (by rw [Option.isNone_iff_eq_none]; intro e; rw [e] at h; cases h.1)]
    rfl
  · cases h

/-- The method that a call through an interface comes to: one of a pointer's own. -/
def methodOf (P : Program) (t : TypeId) (m : String) : Option FuncId :=
  match P.info? t, P.underlying t with
  | some i, some (.pointer _) => match i.methods.find? (·.name == m) with
    | some me => match me.path.toList, me.func with
      | [], some (g, true) => cond (enters P g) (some g) none
      | _, _ => none
    | none => none
  | _, _ => none

theorem run_method {P : Program} {t : TypeId} {m : String} {g : FuncId} (h : methodOf P t m = some g) (n : Nat) (v : Value) (w : World) : (method (n + 1) t v m).run P w = .ok (g, v) w ∧ enters P g = true := by
  unfold methodOf at h
  split at h
  · rename_i i e hi hu
    split at h
    · rename_i me hme
      split at h
      · rename_i g' hp hf
        cases hen : enters P g' with
        | false => rw [hen] at h; cases h
        | true =>
          rw [hen] at h; simp only [cond, Option.some.injEq] at h
          subst h
          refine ⟨?_, hen⟩
          unfold method
          simp only [run_bind', run_info hi, hme, hp, follow, run_pure, hf, receiverAt, run_und hu, Place.get]
      · cases h
    · cases h
  · cases h

def pvals (s : Operand → PV) : List Operand → List PV
  | [] => []
  | x :: l => s x :: pvals s l

theorem pvals_rel {φ : Phi} {A : Nat → Prop} {w : World} {ρ : Operand → PV} {ρm : Operand → Value} : ∀ {l : List Operand}, (∀ x ∈ l, RelV φ A w (ρ x) (ρm x)) → RelVs φ A w (pvals ρ l) (l.map ρm)
  | [], _ => by simp [pvals, RelVs]
  | x :: l, h => by
    simp only [pvals, RelVs, List.map_cons]
    exact ⟨_, _, rfl, h x (List.mem_cons_self ..), pvals_rel (fun y hy => h y (List.mem_cons_of_mem _ hy))⟩

def lfPV : List Lf → List PV
  | [] => []
  | l :: r => .lf l :: lfPV r

theorem lfPV_rel {φ : Phi} {A : Nat → Prop} {w : World} : ∀ {l : List Lf} {vs : List Value}, RelLs φ A w l vs → RelVs φ A w (lfPV l) vs
  | [], _, h => by simp only [RelLs] at h; simp [lfPV, RelVs, h]
  | l :: r, _, h => by
    simp only [RelLs] at h
    obtain ⟨v, vs, e, h1, h2⟩ := h
    simp only [lfPV, RelVs]
    exact ⟨v, vs, e, by simpa only [RelV] using h1, lfPV_rel h2⟩

theorem RelVs_append {φ : Phi} {A : Nat → Prop} {w : World} : ∀ {a b : List PV} {u v : List Value}, RelVs φ A w a u → RelVs φ A w b v → RelVs φ A w (a ++ b) (u ++ v)
  | [], _, _, _, h, h' => by simp only [RelVs] at h; rw [h]; exact h'
  | p :: a, b, _, v, h, h' => by
    simp only [RelVs] at h
    obtain ⟨x, vs, e, h1, h2⟩ := h
    rw [e]
    simp only [List.cons_append, RelVs]
    exact ⟨x, vs ++ v, rfl, h1, RelVs_append h2 h'⟩

/-- Which function is called, with what. -/
def calleeOf (P : Program) (o : Oper) (ρ : Operand → PV) : Option (FuncId × List PV) :=
  match o.op with
  | .call c => match c.callee with
    | .value x => match ρ x with
      | .lf (.fnc g caps) => cond (enters P g) (some (g, pvals ρ c.args.toList ++ lfPV caps)) none
      | _ => none
    | .invoke x m => match ρ x with
      | .lf (.ifc t l) => match methodOf P t m with
        | some g => some (g, .lf l :: pvals ρ c.args.toList)
        | none => none
      | _ => none
    | .builtin _ => none
  | _ => none

theorem calleeOf_sound {P : Program} {o : Oper} {ρ : Operand → PV} {g : FuncId} {args : List PV} (h : calleeOf P o ρ = some (g, args)) {φ : Phi} {A : Nat → Prop} {w : World} {ρm : Operand → Value} (hr : OpsRel φ A w o ρ ρm) :
    ∃ vals, (execOp ρm o).run P w = .ok (.enter g ⟨vals⟩) w ∧ RelVs φ A w args vals := by
  unfold calleeOf at h
  split at h
  · rename_i c ho
    have hargs : ∀ y ∈ c.args.toList, RelV φ A w (ρ y) (ρm y) := fun y hy => hr y (by rw [ho]; simp only [Op.operands, Call.operands, Array.mem_append]; exact .inr (by simpa using hy))
    split at h
    · rename_i x hc
      have hx := hr x (by rw [ho]; simp only [Op.operands, Call.operands, Array.mem_append, hc]; exact .inl (by simp))
      split at h
      · rename_i g' caps hg
        cases hen : enters P g' with
        | false => rw [hen] at h; cases h
        | true =>
          rw [hen] at h; simp only [cond, Option.some.injEq, Prod.mk.injEq] at h
          obtain ⟨rfl, rfl⟩ := h
          rw [hg] at hx; simp only [RelV, RelL] at hx
          obtain ⟨vs, e, hvs⟩ := hx
          refine ⟨c.args.toList.map ρm ++ vs, ?_, RelVs_append (pvals_rel hargs) (lfPV_rel hvs)⟩
          unfold execOp; rw [ho]
          simp only [resolve, hc, e, Deferred.ofValue, run_bind', run_pure, invoke]
          rw [run_callFunc hen]
          congr 2
          apply Array.ext'; simp
      · cases h
    · rename_i x m hc
      have hx := hr x (by rw [ho]; simp only [Op.operands, Call.operands, Array.mem_append, hc]; exact .inl (by simp))
      split at h
      · rename_i t l hg
        split at h
        · rename_i g' hm
          simp only [Option.some.injEq, Prod.mk.injEq] at h
          obtain ⟨rfl, rfl⟩ := h
          rw [hg] at hx; simp only [RelV, RelL] at hx
          obtain ⟨u, e, hu⟩ := hx
          refine ⟨u :: c.args.toList.map ρm, ?_, by simp only [RelVs]; exact ⟨_, _, rfl, by simpa only [RelV] using hu, pvals_rel hargs⟩⟩
          have hmd := fun n => run_method (P := P) hm n u w
          unfold execOp; rw [ho]
          simp only [resolve, hc, run_bind', run_pure, invoke]
          have h0 : (#[ρm x] ++ c.args.map ρm)[0]? = some (ρm x) := by rw [Array.getElem?_append_left (by show 0 < 1; omega)]; rfl
          rw [h0, e]
          simp only [callMethod]
          have hne : (P.types.size + Made.depth) = (P.types.size + Made.depth - 1) + 1 := by have : 0 < Made.depth := by decide
                                                                                             omega
          simp only [run_bind', program, Sem.run]
          rw [hne, (hmd _).1]
          simp only []
          rw [run_callFunc (hmd 0).2]
          congr 2
          apply Array.ext'
          simp [List.take_of_length_le]
        · cases h
      · cases h
    · cases h
  · cases h

/-- A function that the model stands in for is called. -/
def extOf (O : Orc Rt) (o : Oper) (ρ : Operand → PV) : Option (FuncId × Xt × List PV) :=
  match o.op with
  | .call c => match c.callee with
    | .value x => match ρ x with
      | .lf (.fnc g []) => match O.ext g with
        | some e => some (g, e, pvals ρ c.args.toList)
        | none => none
      | _ => none
    | _ => none
  | _ => none

theorem extOf_sound {P : Program} {O : Orc Rt} (hO : OrcOk P O) {o : Oper} {ρ : Operand → PV} {g : FuncId} {e : Xt} {args : List PV} (h : extOf O o ρ = some (g, e, args)) {K : PV → Option Rt} {r : Rt} (hK : evXt e args K = some r) :
    ∃ v, K v = some r ∧ PureSem P o ρ v := by
  unfold extOf at h
  split at h
  · rename_i c ho
    split at h
    · rename_i x hc
      split at h
      · rename_i g' hg
        split at h
        · rename_i e' he
          simp only [Option.some.injEq, Prod.mk.injEq] at h
          obtain ⟨rfl, rfl, rfl⟩ := h
          obtain ⟨v, h1, h2⟩ := evXt_sound (hO.2 _ _ he) hK
          refine ⟨v, h1, fun φ A w ρm hr => ?_⟩
          have hargs : ∀ y ∈ c.args.toList, RelV φ A w (ρ y) (ρm y) := fun y hy => hr y (by rw [ho]; simp only [Op.operands, Call.operands, Array.mem_append]; exact .inr (by simpa using hy))
          have hx := hr x (by rw [ho]; simp only [Op.operands, Call.operands, Array.mem_append, hc]; exact .inl (by simp))
          rw [hg] at hx; simp only [RelV, RelL] at hx
          obtain ⟨vs, e2, hvs⟩ := hx
          simp only [RelLs] at hvs
          subst hvs
          obtain ⟨mv, h3, h4⟩ := h2 φ A w _ (pvals_rel hargs)
          refine ⟨mv, ?_, h4⟩
          unfold execOp; rw [ho]
          simp only [resolve, hc, e2, Deferred.ofValue, run_bind', run_pure, invoke]
          have e3 : (#[] ++ c.args.map ρm ++ (⟨[]⟩ : Array Value)) = ⟨c.args.toList.map ρm⟩ := by apply Array.ext'; simp
          rw [e3, h3]
        · cases h
      · cases h
    · cases h
  · cases h

inductive Kd where
  | pure
  | read
  | write

/-- What kind of operation: one that touches nothing, one that reads objects, one that makes or writes them. -/
def kdOf (P : Program) (o : Oper) : Kd :=
  match o.op with
  | .load .. => .read
  | .lookup .. => .read
  | .makeMap .. => .write
  | .mapUpdate .. => .write
  | .range .. => .write
  | .next .. => .write
  | .alloc .. => .write
  | .box .. => .write
  | .store .. => .write
  | .buildSlice .. => .write
  | .makeSlice .. => .write
  | .convert src dst _ => match P.underlying src, P.underlying dst with
    | some .string, some (.slice _) => .write
    | some (.slice _), some .string => .read
    | some (.slice _), some (.slice _) => .write
    | _, _ => .pure
  | .call c => match c.callee with
    | .builtin .append => .write
    | .builtin .copy => .write
    | .builtin .len => match c.argTypes[0]? with
      | some t => match P.underlying t with | some (.map _ _) => .read | _ => .pure
      | none => .pure
    | .builtin _ => .pure
    | _ => .write
  | _ => .pure

def evWrite (P : Program) (O : Orc Rt) (o : Oper) (ρ : Operand → PV) (f : Nat → Option Ob) (nx : Nat) (K : PV → (Nat → Option Ob) → Nat → Option Rt) : Option Rt :=
  match o.op with
  | .alloc t => evAlloc P t f nx K
  | .box _ x => evBox (ρ x) f nx K
  | .store t a x => evStoreF P t a x ρ f nx K
  | .buildSlice t len parts => evBuildSliceF P t len parts ρ f nx K
  | .makeSlice t x y => evMakeSlice P t (ρ x) (ρ y) f nx K
  | .convert src dst x => match P.underlying src with
    | some .string => evBytes P src dst (ρ x) f nx K
    | _ => evCvtOwn P src dst (ρ x) f nx K
  | .makeMap t x => evMakeMap P t (x.map ρ) f nx K
  | .mapUpdate t x y z => evMapUpdate P t (ρ x) (ρ y) (ρ z) f nx K
  | .range t x => evRange P t (ρ x) f nx K
  | .next x true => evNext (ρ x) f nx K
  | .call { callee := .builtin .append, args := ⟨[x, y]⟩, argTypes := ⟨[t, tx]⟩ } => evAppend P t tx (ρ x) (ρ y) f nx K
  | .call { callee := .builtin .copy, args := ⟨[x, y]⟩, argTypes := ⟨[t, _]⟩ } => evCopy P t (ρ x) (ρ y) f nx K
  | _ => match calleeOf P o ρ with
    | some (g, args) => evCall O g args f nx K
    | none => match extOf O o ρ with
      | some (_, e, args) => evXt e args fun v => K v f nx
      | none => none

theorem evWrite_sound {P : Program} {O : Orc Rt} (hO : OrcOk P O) {o : Oper} {ρ : Operand → PV} {f : Nat → Option Ob} {nx : Nat} {K : PV → (Nat → Option Ob) → Nat → Option Rt} {r : Rt} (h : evWrite P O o ρ f nx K = some r) :
    ∃ v f' nx', K v f' nx' = some r ∧ OpW P o ρ f nx v f' nx' := by
  have mem : Memd P o ρ f nx K r → ∃ v f' nx', K v f' nx' = some r ∧ OpW P o ρ f nx v f' nx' := fun ⟨v, f', nx', h1, h2⟩ => ⟨v, f', nx', h1, h2.opW⟩
  unfold evWrite at h
  split at h
  · rename_i ho; exact mem (evAlloc_sound ho h)
  · rename_i ho; exact mem (evBox_sound ho h)
  · rename_i ho; exact mem (evStoreF_sound ho h)
  · rename_i ho; exact mem (evBuildSliceF_sound ho h)
  · rename_i ho; exact mem (evMakeSlice_sound ho h)
  · rename_i ho
    split at h
    · exact mem (evBytes_sound ho h)
    · exact mem (evCvtOwn_sound ho h)
  · rename_i ho; exact mem (evMakeMap_sound ho h)
  · rename_i ho; exact mem (evMapUpdate_sound ho h)
  · rename_i ho; exact mem (evRange_sound ho h)
  · rename_i ho; exact mem (evNext_sound ho h)
  · rename_i ho; exact mem (evAppend_sound ho h)
  · rename_i ho; exact mem (evCopy_sound ho h)
  · split at h
    · rename_i g args hc
      obtain ⟨v, f', nx', h1, h2⟩ := evCall_sound hO h
      refine ⟨v, f', nx', h1, fun rd E φ A w a hR hF hr K Q hK => ?_⟩
      obtain ⟨vals, hrun, hvals⟩ := calleeOf_sound hc hr
      refine ⟨fun _ _ => trivial, ?_⟩
      rw [run_semAt hrun (fun _ e => by cases e)]
      refine ⟨fun h => absurd h (by simp [fen, Fence.wide]), fen_calls ?_⟩
      refine (h2 E φ A w vals hR hF hvals).mono fun e w' ⟨φ', A', u, he, hs, hu⟩ => ?_
      subst he
      exact hK φ' A' w' u hs hu
    · split at h
      · rename_i hx
        obtain ⟨v, h1, h2⟩ := extOf_sound hO hx h
        exact ⟨v, f, nx, h1, h2.opW f nx⟩
      · cases h

/-- One operation of the frame's: what it yields, and the objects behind it. -/
def evOp (P : Program) (O : Orc Rt) (o : Oper) (ρ : Operand → PV) (f : Nat → Option Ob) (nx : Nat) (K : PV → (Nat → Option Ob) → Nat → Option Rt) : Option Rt :=
  match kdOf P o with
  | .pure => evPure P o ρ fun v => fPV v fun v => K v f nx
  | .read => match readOp P o ρ f with
    | some v => fPV v fun v => K v f nx
    | none => none
  | .write => evWrite P O o ρ f nx fun v f nx => fPV v fun v => fNat nx fun nx => fF f nx fun f => K v f nx

/-- What is known of an operation that was carried out. -/
def OpDid (P : Program) (o : Oper) (ρ : Operand → PV) (f : Nat → Option Ob) (nx : Nat) (v : PV) (f' : Nat → Option Ob) (nx' : Nat) : Prop :=
  match kdOf P o with
  | .pure => f' = f ∧ nx' = nx ∧ ∀ g m, OpW P o ρ g m v g m
  | .read => f' = f ∧ nx' = nx ∧ readOp P o ρ f = some v
  | .write => OpW P o ρ f nx v f' nx'

theorem evOp_sound {P : Program} {O : Orc Rt} (hO : OrcOk P O) {o : Oper} {ρ : Operand → PV} {f : Nat → Option Ob} {nx : Nat} {K : PV → (Nat → Option Ob) → Nat → Option Rt} {r : Rt} (h : evOp P O o ρ f nx K = some r) :
    ∃ v f' nx', K v f' nx' = some r ∧ OpDid P o ρ f nx v f' nx' := by
  unfold evOp at h
  simp only [fPV_eq, fNat_eq, fF_eq] at h
  split at h
  · rename_i hk
    obtain ⟨v, h1, h2⟩ := evPure_sound h
    exact ⟨v, f, nx, h1, by unfold OpDid; rw [hk]; exact ⟨rfl, rfl, h2.opW⟩⟩
  · rename_i hk
    split at h
    · rename_i v hv
      exact ⟨v, f, nx, h, by unfold OpDid; rw [hk]; exact ⟨rfl, rfl, hv⟩⟩
    · cases h
  · rename_i hk
    obtain ⟨v, f', nx', h1, h2⟩ := evWrite_sound hO h
    exact ⟨v, f', nx', h1, by unfold OpDid; rw [hk]; exact h2⟩

theorem OpDid.opW {P : Program} {o : Oper} {ρ : Operand → PV} {f f' : Nat → Option Ob} {nx nx' : Nat} {v : PV} (h : OpDid P o ρ f nx v f' nx') : OpW P o ρ f nx v f' nx' := by
  unfold OpDid at h
  split at h
  · obtain ⟨rfl, rfl, h⟩ := h; exact h _ _
  · obtain ⟨rfl, rfl, h⟩ := h; exact (readOp_sound h).opW _
  · exact h
end Go.Ev
