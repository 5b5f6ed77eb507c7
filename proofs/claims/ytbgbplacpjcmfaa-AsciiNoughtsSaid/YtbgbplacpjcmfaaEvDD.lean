/- Part of a proof about the given program: EvDD. -/
import Derived.Test.YtbgbplacpjcmfaaEvCC
import Derived.RangeFuncOwn
namespace Go.Ev

/-! # A range over a function: its rounds -/

theorem cell_none {w : World} {k : Nat} {o : Obj} (hc : Obj.isCells o = false) (hk : w.heap[k]? = some o) {u : Nat} {s : Option Nat} : w.cell? ⟨k, u, s⟩ = none := by
  unfold World.cell?
  simp only [hk]
  cases o <;> simp_all [Obj.isCells]

/-- A block that is no cells, and nobody's, turns. -/
theorem other_ext {φ : Phi} {A : Nat → Prop} {w : World} {k : Nat} {o : Obj} (hk : w.heap[k]? = some o) (hc : Obj.isCells o = false) {o' : Obj} (hc' : Obj.isCells o' = false) : ExtC φ φ A A w (w.putObj k o') :=
  ⟨fun _ _ h => h, by simp, fun _ _ h => h, fun j _ _ u s => by
    by_cases e : j = k
    · subst e
      have h1 : (w.putObj j o').heap[j]? = some o' := World.putObj_heap_same (Array.getElem?_eq_some_iff.1 hk).1
      exact (cell_none hc' h1).trans (cell_none hc hk).symm
    · exact cell_of_heap (World.putObj_heap_other e) u s⟩

theorem R.other {E : Env} {n : Nat} {φ : Phi} {A : Nat → Prop} {s : St} {a : Act} {w : World} (h : R E n φ A s a w) {k : Nat} {o o' : Obj} (hA : ¬ A k) (hE : E.w0.heap.size ≤ k) (hk : w.heap[k]? = some o)
    (hc : Obj.isCells o = false) (hd : ∀ ds, o ≠ .deferred ds) (hc' : Obj.isCells o' = false) : R E n φ A s a (w.putObj k o') := by
  have hx : ExtC φ φ A A w (w.putObj k o') := other_ext hk hc hc'
  have hoth : ∀ j, j ≠ k → (w.putObj k o').heap[j]? = w.heap[j]? := fun j hj => World.putObj_heap_other hj
  refine ⟨?_, h.size, fun t => (h.tm t).extC hx, ⟨fun u x hx' => ?_, h.obs.inj, h.obs.nx⟩, ?_, h.inc⟩
  · obtain ⟨Ds, hn, he, hall⟩ := h.defers
    refine ⟨Ds, hn, he, fun D hD => ?_⟩
    obtain ⟨e1, e2, e3, e4⟩ := hall D hD
    exact ⟨e1, e2, by simpa using e3, (hoth D (fun e => by subst e; rw [e4] at hk; simp only [Option.some.injEq] at hk; exact hd _ hk.symm)).trans e4⟩
  · obtain ⟨b, hb, hrel, hreg⟩ := h.obs.ob u x hx'
    exact ⟨b, hb, hrel.extC hx (fun hO => ⟨(h.obs.lt hx' hb hO).2, hoth _ (fun e => hA (e ▸ (h.obs.lt hx' hb hO).2))⟩), hreg⟩
  · exact ⟨by simpa using h.frm.size, fun j hj hO => (hoth j (by omega)).trans (h.frm.heap j hj hO), h.frm.out, h.frm.keep, h.frm.os, h.frm.tape, h.frm.output, h.frm.gl⟩

theorem R.defs {E : Env} {n : Nat} {φ : Phi} {A : Nat → Prop} {s : St} {a : Act} {w : World} (h : R E n φ A s a w) {ds : List Deferred} (hd : Marks E A w ds) : R E n φ A s { a with defers := ds } w := ⟨hd, h.size, h.tm, h.obs, h.frm, h.inc⟩

/-! ## What was known of the temporaries when the loop was come to -/
def bitB : List Bool → Nat → Bool
  | [], _ => false
  | b :: _, 0 => b
  | _ :: l, i + 1 => bitB l i
theorem bitB_spec : ∀ {l : List Bool} {i : Nat}, bitB l i = true → l[i]? = some true
  | [], _, h => by cases h
  | b :: l, 0, h => by simpa [bitB] using h
  | b :: l, i + 1, h => by simpa using bitB_spec (l := l) (i := i) h
def keepP (fx : List Bool) (o : Nat) : Option Nat := cond (bitB fx o) (some o) none
def keepV (fx : List Bool) (v : PV) : PV := renV (keepP fx) v

/-- Numbers that are kept by the one are kept by the other. -/
def subB : List Bool → List Bool → Bool
  | [], _ => true
  | false :: l, m => subB l m.tail
  | true :: l, m => m.headD false && subB l m.tail
theorem subB_spec : ∀ {l m : List Bool}, subB l m = true → ∀ i : Nat, l[i]? = some true → m[i]? = some true
  | [], _, _, i, h => by simp at h
  | false :: l, m, h, i, hi => by
    cases i with
    | zero => simp at hi
    | succ i =>
      have := subB_spec (l := l) (m := m.tail) h i (by simpa using hi)
      cases m with
      | nil => simp at this
      | cons b m => simpa using this
  | true :: l, m, h, i, hi => by
    simp only [subB, Bool.and_eq_true] at h
    cases m with
    | nil => simp at h
    | cons b m =>
      cases i with
      | zero => simpa using h.1
      | succ i => simpa using subB_spec (l := l) (m := m) h.2 i (by simpa using hi)

/-- The machine stands at one of the ways out; of these blocks none is anybody's. -/
def atOutA (E : Env) (n : Nat) (B : Nat → Prop) : (l : Outs) → outD l → Exit → Act → World → Prop
  | [], x, _, _, _ => nomatch x
  | p :: _, .inl x, e, a, w => e = p.1 ∧ ∃ φ A, R E n φ A (p.2.st x) a w ∧ ∀ k, B k → ¬ A k
  | _ :: l, .inr x, e, a, w => atOutA E n B l x e a w

theorem packS_soundA {ex : Bool} {fx : List Bool} {g : Sg} {s : St} {x : g.D} {q : List (Nat × Nat)} (h : packS ex fx g s = some (q, x)) (hq : Eqs q) {E : Env} (hm : E.fx = fx) {n : Nat} {φ : Phi} {A : Nat → Prop} {a : Act} {w : World} (hR : R E n φ A s a w) :
    ∃ φ' A', R E n φ' A' (g.st x) a w ∧ ∀ k, k < w.heap.size → ¬ A k → ¬ A' k := by
  obtain ⟨φ', A', h1, h2, h0, h3, h4, h5⟩ := packW_sound h hq hm hR.obs hR.frm hR.inc (tmsOf_rel hR.tm g.tn)
  exact ⟨φ', A', ⟨hR.defers.keep h0 (Nat.le_refl _) (fun _ _ _ => rfl), hR.size, fun t => look_rel (a := fun t => a.tmps.getD t undef) h5 t, h1, h2, h3⟩, h0⟩

theorem injK_soundA {Rt : Type} {fx : List Bool} {E : Env} (hm : E.fx = fx) {n : Nat} {B : Nat → Prop} : ∀ {l : Outs} {K : outD l → Option Rt} {e : Exit} {s : St} {r : Rt}, injK fx l K e s = some r → ∀ {φ : Phi} {A : Nat → Prop} {a : Act} {w : World}, R E n φ A s a w →
    (∀ k, B k → k < w.heap.size ∧ ¬ A k) → ∃ x, K x = some r ∧ atOutA E n B l x e a w
  | [], _, _, _, _, h, _, _, _, _, _, _ => by cases h
  | p :: l, K, e, s, r, h, φ, A, a, w, hR, hB => by
    unfold injK at h
    cases hb : exB e p.1 with
    | true =>
      rw [hb] at h; simp only [cond] at h
      split at h
      · rename_i q y hy
        obtain ⟨hq, h⟩ := eqs_spec h
        obtain ⟨φ', A', h1, h2⟩ := packS_soundA hy hq hm hR
        exact ⟨_, h, exB_spec hb, φ', A', h1, fun k hk => h2 k (hB k hk).1 (hB k hk).2⟩
      · obtain ⟨x, h1, h2⟩ := injK_soundA hm h hR hB
        exact ⟨_, h1, h2⟩
    | false =>
      rw [hb] at h; simp only [cond] at h
      obtain ⟨x, h1, h2⟩ := injK_soundA hm h hR hB
      exact ⟨_, h1, h2⟩

theorem atOutA_other {E : Env} {n : Nat} {B : Nat → Prop} {k : Nat} {o o' : Obj} (hB : B k) (hE : E.w0.heap.size ≤ k) (hc : Obj.isCells o = false) (hd : ∀ ds, o ≠ .deferred ds) (hc' : Obj.isCells o' = false) : ∀ {l : Outs} {x : outD l} {e : Exit} {a : Act} {w : World}, atOutA E n B l x e a w → w.heap[k]? = some o → atOutA E n B l x e a (w.putObj k o')
  | [], x, _, _, _, _, _ => nomatch x
  | _ :: _, .inl _, _, _, _, ⟨he, φ, A, h1, h2⟩, hk => ⟨he, φ, A, h1.other (h2 k hB) hE hk hc hd hc', h2⟩
  | _ :: l, .inr x, _, _, _, h, hk => atOutA_other (l := l) (x := x) hB hE hc hd hc' h hk
theorem atOutA_at {E : Env} {n : Nat} {B : Nat → Prop} : ∀ {l : Outs} {x : outD l} {e : Exit} {a : Act} {w : World}, atOutA E n B l x e a w → atOut E n l x e a w
  | [], x, _, _, _, _ => nomatch x
  | _ :: _, .inl _, _, _, _, ⟨he, φ, A, h1, _⟩ => ⟨he, φ, A, h1⟩
  | _ :: l, .inr x, _, _, _, h => atOutA_at (l := l) (x := x) h

/-- What a round comes to: the temporaries are as they were when the loop was come to. -/
def rndK {Rt : Type} (fx fx' : List Bool) (tm : Nat → PV) (outs : Outs) (K : outD outs → Option Rt) (e : Exit) (s : St) : Option Rt := injK fx outs K e ⟨fun t => keepV fx' (tm t), s.ob, s.nx⟩

def rndF (P : Program) {g : Sg} {outs : Outs} (O : Orc (outD ((.normal, g) :: outs))) (n : Nat) (fx fx' : List Bool) (body : Code) (p : Plan) (t d : Tmp) (x : g.D) (v : PV) : Option (outD ((.normal, g) :: outs)) :=
  g.fst x fun s => ev P O n fx' body p ((s.put (some t) v).put (some d) v) (rndK fx fx' s.tm ((.normal, g) :: outs) some)

theorem round_run {P : Program} {g : Sg} {outs : Outs} {O : Orc (outD ((.normal, g) :: outs))} (hO : OrcOk P O) (hmix : P.follows .mixedOrders = true) {n : Nat} {fx fx' : List Bool} (hsub : subB fx fx' = true) {body : Code} {p : Plan} (hp : PlanOk P n fx' true p body) {t d : Tmp} (ht : t < n) (hd : d < n)
    {x : g.D} {v : PV} {o : outD ((.normal, g) :: outs)} (h : rndF P O n fx fx' body p t d x v = some o) {E : Env} (hm : E.fx = fx) {φ : Phi} {A : Nat → Prop} {a : Act} {w : World} (hR : R E n φ A (g.st x) a w) {mv : Value} (hv : RelV φ A w v mv) (rd : Option Nat) :
    body.wpIn (fen rd) 0 P (fun e _ w' => w.heap.size ≤ w'.heap.size ∧ (∀ k, k < w.heap.size → ¬ A k → w'.heap[k]? = w.heap[k]?) ∧ atOutA E n (fun k => k < w.heap.size ∧ ¬ A k) ((.normal, g) :: outs) o e a w') { tmps := (a.tmps.setIfInBounds t mv).setIfInBounds d mv, defers := [] } w := by
  unfold rndF at h
  rw [Sg.fst_eq] at h
  let E' : Env := ⟨w, Owned φ (g.st x).ob, A, fun ψ => E.inc ψ ∧ ∀ i b, fx'[i]? = some true → φ i = some b → ψ i = some b, fun ψ ψ' hs hi => ⟨E.mono ψ ψ' hs hi.1, fun i b h1 h2 => hs _ _ (hi.2 i b h1 h2)⟩, fx',
    fun ψ ψ' hs hi => ⟨E.loc ψ ψ' (fun i h1 => hs i (subB_spec hsub i (hm ▸ h1))) hi.1, fun i b h1 h2 => (hs i h1).trans (hi.2 i b h1 h2)⟩⟩
  have hown : ∀ k, Owned φ (g.st x).ob k → A k ∧ (E.O0 k ∨ E.w0.heap.size ≤ k) := fun k ⟨o, y, b, h1, h2, h3, h4⟩ => by
    obtain ⟨b', hb', _, hreg⟩ := hR.obs.ob o y h1
    rw [h2] at hb'; simp only [Option.some.injEq] at hb'; subst hb'
    subst h4
    exact ⟨(hR.obs.lt h1 h2 h3).2, hreg h3⟩
  have hR0 : R E' n φ A (((g.st x).put (some t) v).put (some d) v) { tmps := (a.tmps.setIfInBounds t mv).setIfInBounds d mv, defers := [] } w := by
    refine ⟨Marks.nil .., by simpa using hR.size, put_tm (n := n) (d := some d) (a := a.put (some t) mv) (by rw [put_size]; exact hR.size) (put_tm (d := some t) hR.size hR.tm (fun _ e => by cases e; exact ht) hv) (fun _ e => by cases e; exact hd) hv, ⟨fun o y hy => ?_, hR.obs.inj, hR.obs.nx⟩, ⟨Nat.le_refl _, fun _ _ _ => rfl, fun _ _ h => h, fun _ _ h _ => h, rfl, rfl, rfl, hR.frm.glob hR.obs⟩, hR.inc, fun _ _ _ h => h⟩
    obtain ⟨b, hb, hrel, _⟩ := hR.obs.ob o y hy
    exact ⟨b, hb, hrel, fun hO => .inl ⟨o, y, b, hy, hb, hO, rfl⟩⟩
  refine ev_sound (any := true) (.inl rfl) hO hmix (E := E') rfl body hp h hR0 fun e s' φ' A' a' w' hK hR' => ?_
  have hsz : w.heap.size ≤ w'.heap.size := hR'.frm.size
  have hheap : ∀ k, k < w.heap.size → ¬ A k → w'.heap[k]? = w.heap[k]? := fun k hk hA => hR'.frm.heap k hk (fun hO => hA (hown k hO).1)
  have hout : ∀ k, k < w.heap.size → ¬ A k → ¬ A' k := fun k hk hA => hR'.frm.out k hk hA
  refine ⟨hsz, hheap, ?_⟩
  have hx : ExtC φ φ A A' w w' := ⟨fun _ _ h => h, hsz, hout, fun k hk hA u s => cell_of_heap (hheap k hk hA) u s⟩
  have hgoes : Goes φ φ' (keepP fx') := fun o o' b ho hb => by
    unfold keepP at ho
    cases hbit : bitB fx' o with
    | false => rw [hbit] at ho; cases ho
    | true =>
      rw [hbit] at ho; simp only [cond, Option.some.injEq] at ho; subst ho
      exact hR'.inc.2 o b (bitB_spec hbit) hb
  have hR2 : R E n φ' A' ⟨fun t => keepV fx' ((g.st x).tm t), s'.ob, s'.nx⟩ a w' := by
    refine ⟨hR.defers.keep hout hsz hheap, hR.size, fun t => renV_rel hgoes ((hR.tm t).extC hx), ⟨fun o y hy => ?_, hR'.obs.inj, hR'.obs.nx⟩, ⟨Nat.le_trans hR.frm.size hsz, fun k hk hO => ?_, fun k hk hA => hout k (Nat.lt_of_lt_of_le hk hR.frm.size) (hR.frm.out k hk hA), fun k hk hA hO => ?_, hR'.frm.os.trans hR.frm.os, hR'.frm.tape.trans hR.frm.tape, hR'.frm.output.trans hR.frm.output, hR.frm.gl⟩, hR'.inc.1⟩
    · obtain ⟨b, hb, hrel, hreg⟩ := hR'.obs.ob o y hy
      refine ⟨b, hb, hrel, fun hO => ?_⟩
      rcases hreg hO with h1 | h1
      · exact (hown _ h1).2
      · exact .inr (Nat.le_trans hR.frm.size h1)
    · have hk' := Nat.lt_of_lt_of_le hk hR.frm.size
      refine (hR'.frm.heap k hk' (fun h1 => ?_)).trans (hR.frm.heap k hk hO)
      rcases (hown k h1).2 with h2 | h2
      · exact hO h2
      · omega
    · have hk' := Nat.lt_of_lt_of_le hk hR.frm.size
      refine hR'.frm.keep k hk' (hR.frm.keep k hk hA hO) (fun h1 => ?_)
      rcases (hown k h1).2 with h2 | h2
      · exact hO h2
      · omega
  obtain ⟨y, h1, h2⟩ := injK_soundA (B := fun k => k < w.heap.size ∧ ¬ A k) hm hK hR2 (fun k hk => ⟨Nat.lt_of_lt_of_le hk.1 hsz, hout k hk.1 hk.2⟩)
  simp only [Option.some.injEq] at h1
  exact h1 ▸ h2

/-! ## Iterators -/
/-- The world has grown; nothing that lay has turned. -/
structure Grown (w w' : World) : Prop where
  size : w.heap.size ≤ w'.heap.size
  heap : ∀ k, k < w.heap.size → w'.heap[k]? = w.heap[k]?
  os : w'.os = w.os
  tape : w'.tape = w.tape
  output : w'.output = w.output
theorem Grown.drew (w : World) : Grown w w.drew := ⟨Nat.le_refl _, fun _ _ => rfl, rfl, rfl, rfl⟩

/-- The function gf, with these values caught, hands these values to yield, one behind the other; it asks C of the world, and turns nothing. -/
def IterOk (P : Program) (gf : FuncId) (lb : List Value) (els : List Value) (C : World → Prop) : Prop :=
  ∀ (l : Nat) (J : Nat → World → Prop) (Jx : World → Prop), (∀ k W W', J k W → Grown W W' → J k W') → (∀ k W, J k W → C W) →
    (∀ k x W, els[k]? = some x → J k W → YieldAt (fen none) 0 P l #[x] W fun e W' => (e = .returned (.bool true) ∧ J (k + 1) W') ∨ (e = .returned (.bool false) ∧ Jx W')) →
    ∀ W, J 0 W → CallsIn (fen none) 0 P gf (#[.func (.yield l) #[] #[]] ++ ⟨lb⟩) W fun e W' => (∃ v, e = .returned v) ∧ (J els.length W' ∨ Jx W')

/-- The parts of a row, each n long, the last one perhaps shorter. -/
def chunks {α : Type} (n : Nat) (xs : List α) (k : Nat) : List α := (xs.drop (k * n)).take n
def chunkNo (n len : Nat) : Nat := (len + n - 1) / n
theorem chunkNo_lt {n len k : Nat} (hn : 1 ≤ n) : k < chunkNo n len ↔ k * n < len := by
  unfold chunkNo
  rw [Nat.lt_iff_add_one_le, Nat.le_div_iff_mul_le (by omega), Nat.add_mul]
  omega
end Go.Ev
