/- Part of a proof about the given program: EvI. -/
import Derived.Test.YtbgbplacpjcmfaaEvH
namespace Go.Ev
variable {Rt : Type}

/-! ## Worlds that are written -/
theorem setCell_heap {w : World} {b o : Nat} {v : Value} {c : Array Value} {e : TypeId} {fz : Nat × Nat} (h : w.heap[b]? = some (.cells c e fz)) : (w.setCell ⟨b, o, none⟩ v).heap[b]? = some (.cells (c.setIfInBounds o v) e fz) := by
  have hlt : b < w.heap.size := (Array.getElem?_eq_some_iff.1 h).1
  have hv : w.heap[b] = .cells c e fz := (Array.getElem?_eq_some_iff.1 h).2
  unfold World.setCell
  rw [Array.getElem?_eq_getElem (by simpa using hlt), Array.getElem_modify]
  simp [hv]
theorem setCell_other {w : World} {b o k : Nat} {v : Value} (h : k ≠ b) : (w.setCell ⟨b, o, none⟩ v).heap[k]? = w.heap[k]? := by
  unfold World.setCell
  simp only [Array.getElem?_modify]
  rw [if_neg (fun e => h e.symm)]

theorem setCells_other (b : Nat) : ∀ (vs : List Value) (o : Nat) (w : World) {k : Nat}, k ≠ b → (w.setCells b o vs).heap[k]? = w.heap[k]?
  | [], _, _, _, _ => rfl
  | v :: vs, o, w, k, h => by
    simp only [World.setCells]
    rw [setCells_other b vs (o + 1) _ h, setCell_other h]
theorem setCells_size (b : Nat) : ∀ (vs : List Value) (o : Nat) (w : World), (w.setCells b o vs).heap.size = w.heap.size
  | [], _, _ => rfl
  | v :: vs, o, w => by
    simp only [World.setCells]
    rw [setCells_size b vs (o + 1)]; simp [World.setCell]
theorem setCells_rest (b : Nat) : ∀ (vs : List Value) (o : Nat) (w : World), (w.setCells b o vs).os = w.os ∧ (w.setCells b o vs).tape = w.tape ∧ (w.setCells b o vs).output = w.output
  | [], _, _ => ⟨rfl, rfl, rfl⟩
  | v :: vs, o, w => by
    simp only [World.setCells]
    exact setCells_rest b vs (o + 1) _
theorem setCells_heap (b : Nat) : ∀ (vs : List Value) (o : Nat) (w : World) {c : Array Value} {e : TypeId} {fz : Nat × Nat}, w.heap[b]? = some (.cells c e fz) → o + vs.length ≤ c.size →
    ∃ c', (w.setCells b o vs).heap[b]? = some (.cells c' e fz) ∧ c'.toList = c.toList.take o ++ (vs ++ c.toList.drop (o + vs.length))
  | [], o, w, c, e, fz, h, _ => ⟨c, h, by simp⟩
  | v :: vs, o, w, c, e, fz, h, hle => by
    simp only [List.length_cons] at hle
    obtain ⟨c', h1, h2⟩ := setCells_heap b vs (o + 1) (w.setCell ⟨b, o, none⟩ v) (setCell_heap h) (by simp only [Array.size_setIfInBounds]; omega)
    refine ⟨c', h1, ?_⟩
    rw [h2, Array.toList_setIfInBounds]
    have hlt : o < c.toList.length := by simp only [Array.length_toList]; omega
    rw [List.drop_set_of_lt (by omega), List.take_set, List.take_add_one, List.getElem?_eq_getElem hlt, List.set_append_right _ _ (by simp; omega)]
    simp only [List.length_take, Option.toList, Nat.min_eq_left (Nat.le_of_lt hlt), Nat.sub_self, List.set_cons_zero, List.append_assoc, List.cons_append, List.nil_append, List.length_cons]
    rw [show o + 1 + vs.length = o + (vs.length + 1) from by omega]

/-! ## Steps of a frame's objects -/
structure Step (E : Env) (φ φ' : Phi) (A A' : Nat → Prop) (w w' : World) (f' : Nat → Option Ob) (nx' : Nat) : Prop where
  ext : Ext φ φ' A A' w w'
  obs : ROb E φ' A' f' nx' w'
  frm : Frm E A' w'

theorem Step.trans {E : Env} {φ φ' φ'' : Phi} {A A' A'' : Nat → Prop} {w w' w'' : World} {f f' : Nat → Option Ob} {nx nx' : Nat} (h : Step E φ φ' A A' w w' f nx) (h' : Step E φ' φ'' A' A'' w' w'' f' nx') : Step E φ φ'' A A'' w w'' f' nx' :=
  ⟨h.ext.trans h'.ext, h'.obs, h'.frm⟩

theorem Held.extC {φ φ' : Phi} {own : Bool} {A A' : Nat → Prop} {w w' : World} {blk base n : Nat} {vs : List Value} (x : ExtC φ φ' A A' w w') (ho : own = true → A' blk ∧ w'.heap[blk]? = w.heap[blk]?) (h : Held own A w blk base vs n) : Held own A' w' blk base vs n := by
  obtain ⟨hb, h⟩ := h
  refine ⟨Nat.lt_of_lt_of_le hb x.size, ?_⟩
  cases own with
  | false => exact ⟨x.out _ hb h.1, h.2.of_cell (x.cell _ hb h.1)⟩
  | true =>
    obtain ⟨_, c, e, fz, h1, h2⟩ := h
    obtain ⟨hA, he⟩ := ho rfl
    exact ⟨hA, c, e, fz, by rw [he]; exact h1, h2⟩

theorem RelEntries.extC {φ φ' : Phi} {A A' : Nat → Prop} {w w' : World} (x : ExtC φ φ' A A' w w') {ks vs : Shape} : ∀ {m : List (den ks × den vs)} {es : List MapEntry}, RelEntries A w ks vs m es → RelEntries A' w' ks vs m es
  | [], _, h => h
  | _ :: _, _, ⟨e, es', h, ⟨h1, h2⟩, h3⟩ => ⟨e, es', h, ⟨h1.extC x, h2.extC x⟩, RelEntries.extC x h3⟩

theorem RelOb.extC {φ φ' : Phi} {A A' : Nat → Prop} {w w' : World} (x : ExtC φ φ' A A' w w') {b : Bind} : ∀ {o : Ob}, (Owns b o → A' b.blk ∧ w'.heap[b.blk]? = w.heap[b.blk]?) → RelOb φ A w b o → RelOb φ' A' w' b o
  | .box own g, ho, ⟨vs, hg, hh⟩ => ⟨vs, hg.extC x, hh.extC x ho⟩
  | .arr own s xs, ho, ⟨h1, h2, vs, hl, hh⟩ => by
    refine ⟨h1, h2, vs, hl.mono (fun y v hy => RelD.extC x s y v hy), ?_⟩
    by_cases hc : b.cap = 0
    · exact .inl hc
    · rcases hh with hh | hh
      · exact .inl hh
      · exact .inr (hh.extC x (fun e => ho ⟨e, hc⟩))
  | .map ks vs m, ho, ⟨_, es, clock, hb, hr⟩ => by
    obtain ⟨h1, h2⟩ := ho trivial
    exact ⟨h1, es, clock, by rw [h2]; exact hb, RelEntries.extC x hr⟩
  | .iter s pos, ho, ⟨h0, _, hb⟩ => by
    obtain ⟨h1, h2⟩ := ho trivial
    exact ⟨h0, h1, by rw [h2]; exact hb⟩

theorem Held.ext {φ φ' : Phi} {own : Bool} {A A' : Nat → Prop} {w w' : World} {blk base n : Nat} {vs : List Value} (x : Ext φ φ' A A' w w') (ho : own = true → A' blk ∧ w'.heap[blk]? = w.heap[blk]?) (h : Held own A w blk base vs n) : Held own A' w' blk base vs n := h.extC x.toC ho
theorem RelEntries.ext {φ φ' : Phi} {A A' : Nat → Prop} {w w' : World} (x : Ext φ φ' A A' w w') {ks vs : Shape} {m : List (den ks × den vs)} {es : List MapEntry} (h : RelEntries A w ks vs m es) : RelEntries A' w' ks vs m es := h.extC x.toC
theorem RelOb.ext {φ φ' : Phi} {A A' : Nat → Prop} {w w' : World} (x : Ext φ φ' A A' w w') {b : Bind} {o : Ob} (ho : Owns b o → A' b.blk ∧ w'.heap[b.blk]? = w.heap[b.blk]?) (h : RelOb φ A w b o) : RelOb φ' A' w' b o := RelOb.extC x.toC ho h

/-- One object is new or changed; the others stay (or go). -/
theorem ROb.special {E : Env} {φ φ' : Phi} {A A' : Nat → Prop} {f f' : Nat → Option Ob} {nx nx' : Nat} {w w' : World} (h : ROb E φ A f nx w) (x : Ext φ φ' A A' w w') (hnx : ∀ o, nx' ≤ o → φ' o = none)
    (s : Nat) (xs : Ob) (bs : Bind) (hs : f' s = some xs) (hφ : φ' s = some bs) (hr : RelOb φ' A' w' bs xs) (hreg : Owns bs xs → E.O0 bs.blk ∨ E.w0.heap.size ≤ bs.blk)
    (hold : ∀ o x, o ≠ s → f' o = some x → f o = some x)
    (hkeep : ∀ o x b, o ≠ s → f' o = some x → φ o = some b → Owns b x → A' b.blk ∧ w'.heap[b.blk]? = w.heap[b.blk]? ∧ (Owns bs xs → b.blk ≠ bs.blk)) : ROb E φ' A' f' nx' w' := by
  have old : ∀ o y, o ≠ s → f' o = some y → ∃ b, φ o = some b ∧ φ' o = some b ∧ f o = some y := fun o y ho hy => by
    obtain ⟨b, hb, _⟩ := h.ob o y (hold o y ho hy)
    exact ⟨b, hb, x.phi o b hb, hold o y ho hy⟩
  refine ⟨fun o y hy => ?_, fun o o' y y' b b' hy hy' hb hb' hO hO' he => ?_, hnx⟩
  · by_cases ho : o = s
    · subst ho
      rw [hs] at hy; simp only [Option.some.injEq] at hy; subst hy
      exact ⟨bs, hφ, hr, hreg⟩
    · obtain ⟨b, hb, hb', hy0⟩ := old o y ho hy
      obtain ⟨b2, hb2, hrel, hreg2⟩ := h.ob o y hy0
      rw [hb] at hb2; simp only [Option.some.injEq] at hb2; subst hb2
      exact ⟨b, hb', RelOb.ext x (fun hO => ⟨(hkeep o y b ho hy hb hO).1, (hkeep o y b ho hy hb hO).2.1⟩) hrel, hreg2⟩
  · by_cases ho : o = s
    · by_cases ho' : o' = s
      · rw [ho, ho']
      · subst ho
        rw [hs] at hy; simp only [Option.some.injEq] at hy; subst hy
        rw [hφ] at hb; simp only [Option.some.injEq] at hb; subst hb
        obtain ⟨b2, hb2, hb2', hy0⟩ := old o' y' ho' hy'
        rw [hb2'] at hb'; simp only [Option.some.injEq] at hb'; subst hb'
        exact absurd he.symm ((hkeep o' y' b2 ho' hy' hb2 hO').2.2 hO)
    · by_cases ho' : o' = s
      · subst ho'
        rw [hs] at hy'; simp only [Option.some.injEq] at hy'; subst hy'
        rw [hφ] at hb'; simp only [Option.some.injEq] at hb'; subst hb'
        obtain ⟨b2, hb2, hb2', hy0⟩ := old o y ho hy
        rw [hb2'] at hb; simp only [Option.some.injEq] at hb; subst hb
        exact absurd he ((hkeep o y b2 ho hy hb2 hO).2.2 hO')
      · obtain ⟨b2, hb2, hb2', hy0⟩ := old o y ho hy
        obtain ⟨b3, hb3, hb3', hy0'⟩ := old o' y' ho' hy'
        rw [hb2'] at hb; simp only [Option.some.injEq] at hb; subst hb
        rw [hb3'] at hb'; simp only [Option.some.injEq] at hb'; subst hb'
        exact h.inj o o' y y' b2 b3 hy0 hy0' hb2 hb3 hO hO' he

theorem Frm.step {E : Env} {A A' : Nat → Prop} {w w' : World} (h : Frm E A w) (hsz : w.heap.size ≤ w'.heap.size) (hh : ∀ k, k < E.w0.heap.size → ¬ E.O0 k → w'.heap[k]? = w.heap[k]?)
    (hA : ∀ k, k < E.w0.heap.size → (A' k ↔ A k)) (hos : w'.os = w.os) (ht : w'.tape = w.tape) (ho : w'.output = w.output) : Frm E A' w' :=
  ⟨Nat.le_trans h.size hsz, fun k hk hO => (hh k hk hO).trans (h.heap k hk hO), fun k hk hA0 hA' => h.out k hk hA0 ((hA k hk).1 hA'), fun k hk hA0 hO => (hA k hk).2 (h.keep k hk hA0 hO), hos.trans h.os, ht.trans h.tape, ho.trans h.output, h.gl⟩

theorem ROb.lt {E : Env} {φ : Phi} {A : Nat → Prop} {f : Nat → Option Ob} {nx : Nat} {w : World} (h : ROb E φ A f nx w) {o : Nat} {x : Ob} {b : Bind} (hx : f o = some x) (hb : φ o = some b) (hO : Owns b x) : b.blk < w.heap.size ∧ A b.blk := by
  obtain ⟨b', hb', hr, _⟩ := h.ob o x hx
  rw [hb] at hb'; simp only [Option.some.injEq] at hb'; subst hb'
  cases x with
  | box own g =>
    obtain ⟨vs, _, h1, h2⟩ := hr
    have : own = true := hO
    subst this
    exact ⟨h1, h2.1⟩
  | arr own s xs =>
    obtain ⟨_, _, vs, _, h1⟩ := hr
    have h0 := hO.1
    subst h0
    rcases h1 with h1 | ⟨h1, h2⟩
    · exact absurd h1 hO.2
    · exact ⟨h1, h2.1⟩
  | map ks vs m =>
    obtain ⟨h1, es, c, h2, _⟩ := hr
    exact ⟨(Array.getElem?_eq_some_iff.1 h2).1, h1⟩
  | iter s pos =>
    obtain ⟨_, h1, h2⟩ := hr
    exact ⟨(Array.getElem?_eq_some_iff.1 h2).1, h1⟩

theorem Frm.glob {E : Env} {φ : Phi} {A : Nat → Prop} {f : Nat → Option Ob} {nx : Nat} {w : World} (hF : Frm E A w) (hR : ROb E φ A f nx w) : GlobAt A (fun k => ∃ o y c, f o = some y ∧ φ o = some c ∧ Owns c y ∧ c.blk = k) w := fun k hk => by
  obtain ⟨h1, h2, h3, m, h4⟩ := hF.gl k hk
  refine ⟨hF.out k h3 h1, fun ⟨o, y, c, hy, hc, hO, e⟩ => hF.out k h3 h1 (e ▸ (hR.lt hy hc hO).2), Nat.lt_of_lt_of_le h3 hF.size, m, ?_⟩
  rw [← h4]
  unfold World.cell?
  simp only [hF.heap k h3 h2]

theorem ROb.dom {E : Env} {φ : Phi} {A : Nat → Prop} {f : Nat → Option Ob} {nx : Nat} {w : World} (h : ROb E φ A f nx w) {o : Nat} {x : Ob} (hx : f o = some x) : o < nx := by
  obtain ⟨b, hb, _⟩ := h.ob o x hx
  rcases Nat.lt_or_ge o nx with h1 | h1
  · exact h1
  · rw [h.nx o h1] at hb; cases hb

def updO (f : Nat → Option Ob) (o : Nat) (x : Option Ob) : Nat → Option Ob := fun i => cond (Nat.beq i o) x (f i)
theorem updO_same (f : Nat → Option Ob) (o : Nat) (x : Option Ob) : updO f o x o = x := by unfold updO; rw [show Nat.beq o o = true from Nat.beq_refl o]; rfl
theorem updO_ne (f : Nat → Option Ob) {o i : Nat} (x : Option Ob) (h : i ≠ o) : updO f o x i = f i := by
  unfold updO
  rw [show Nat.beq i o = false from by rw [Bool.eq_false_iff]; intro e; exact h (Nat.eq_of_beq_eq_true e)]; rfl

def updP (φ : Phi) (o : Nat) (b : Bind) : Phi := fun i => if i = o then some b else φ i

/-- A new block for a new object. -/
theorem step_new {E : Env} {φ : Phi} {A : Nat → Prop} {f : Nat → Option Ob} {nx : Nat} {w : World} (h : ROb E φ A f nx w) (hf : Frm E A w) (w1 : World) (hw1 : w1.heap = w.heap) (h1 : w1.os = w.os ∧ w1.tape = w.tape ∧ w1.output = w.output)
    (obj : Obj) (x : Ob) (b : Bind) (hb : b.blk = w.heap.size)
    (hr : ∀ φ' A', Ext φ φ' A A' w (w1.alloc obj) → A' w.heap.size → RelOb φ' A' (w1.alloc obj) b x) :
    ∃ φ' A', Step E φ φ' A A' w (w1.alloc obj) (updO f nx (some x)) (nx + 1) ∧ φ' nx = some b ∧ A' w.heap.size := by
  have hsz : (w1.alloc obj).heap.size = w.heap.size + 1 := by simp [hw1]
  have hget : ∀ k, k < w.heap.size → (w1.alloc obj).heap[k]? = w.heap[k]? := fun k hk => by
    have := heap_alloc_old w1 obj k (by rw [hw1]; exact hk)
    rw [this, hw1]
  have hext : Ext φ (updP φ nx b) A (fun k => A k ∨ k = w.heap.size) w (w1.alloc obj) :=
    ⟨fun o c hc => by
      unfold updP
      by_cases e : o = nx
      · rw [e, h.nx nx (Nat.le_refl _)] at hc; cases hc
      · rw [if_neg e]; exact hc,
     by omega, fun k hk hA hA' => Or.elim hA' hA (fun e => by omega), fun k hk _ => hget k hk⟩
  refine ⟨updP φ nx b, fun k => A k ∨ k = w.heap.size, ⟨hext, ?_, ?_⟩, by simp [updP], .inr rfl⟩
  · refine ROb.special h hext (fun o ho => ?_) nx x b (updO_same ..) (by simp [updP]) (hr _ _ hext (.inr rfl)) (fun _ => .inr (by rw [hb]; exact hf.size)) (fun o y ho hy => by rwa [updO_ne _ _ ho] at hy) (fun o y c ho hy hc hO => ?_)
    · unfold updP; rw [if_neg (by omega)]; exact h.nx o (by omega)
    · rw [updO_ne _ _ ho] at hy
      obtain ⟨hl, hA⟩ := h.lt hy hc hO
      exact ⟨.inl hA, hget _ hl, fun _ => by rw [hb]; omega⟩
  · refine hf.step (by omega) (fun k hk _ => hget k (Nat.lt_of_lt_of_le hk hf.size)) (fun k hk => ⟨fun h => ?_, .inl⟩) h1.1 h1.2.1 h1.2.2
    rcases h with h | h
    · exact h
    · have := hf.size; omega

/-- An object of the frame's own is written. -/
theorem step_write {E : Env} {φ : Phi} {A : Nat → Prop} {f : Nat → Option Ob} {nx : Nat} {w w' : World} (h : ROb E φ A f nx w) (hf : Frm E A w) {o : Nat} {x x' : Ob} {b : Bind} (hx : f o = some x) (hb : φ o = some b) (hO : Owns b x)
    (hsz : w'.heap.size = w.heap.size) (hoth : ∀ k, k ≠ b.blk → w'.heap[k]? = w.heap[k]?) (hrest : w'.os = w.os ∧ w'.tape = w.tape ∧ w'.output = w.output)
    (hr : Ext φ φ A A w w' → RelOb φ A w' b x') : Step E φ φ A A w w' (updO f o (some x')) nx := by
  obtain ⟨hl, hA⟩ := h.lt hx hb hO
  have hext : Ext φ φ A A w w' := ⟨fun _ _ h => h, by omega, fun _ _ h => h, fun k _ hk => hoth k (fun e => hk (e ▸ hA))⟩
  obtain ⟨b0, hb0, _, hreg⟩ := h.ob o x hx
  rw [hb] at hb0; simp only [Option.some.injEq] at hb0; subst hb0
  refine ⟨hext, ?_, ?_⟩
  · refine ROb.special h hext h.nx o x' b (updO_same ..) hb (hr hext) (fun _ => hreg hO) (fun i y hi hy => by rwa [updO_ne _ _ hi] at hy) (fun i y c hi hy hc hOc => ?_)
    rw [updO_ne _ _ hi] at hy
    have hne : c.blk ≠ b.blk := fun e => hi (h.inj i o y x c b hy hx hc hb hOc hO e)
    exact ⟨(h.lt hy hc hOc).2, hoth _ hne, fun _ => hne⟩
  · refine hf.step (by omega) (fun k hk hk0 => hoth k (fun e => ?_)) (fun _ _ => Iff.rfl) hrest.1 hrest.2.1 hrest.2.2
    rcases hreg hO with h1 | h1
    · exact hk0 (e ▸ h1)
    · omega

/-- An object of the frame's own is taken over by a new one, in its block or in another. -/
theorem step_take {E : Env} {φ : Phi} {A : Nat → Prop} {f : Nat → Option Ob} {nx : Nat} {w w' : World} (h : ROb E φ A f nx w) (hf : Frm E A w) {o : Nat} {x x' : Ob} {b b' : Bind} (hx : f o = some x) (hb : φ o = some b) (hO : Owns b x) (hblk : b'.blk = b.blk)
    (hsz : w'.heap.size = w.heap.size) (hoth : ∀ k, k ≠ b.blk → w'.heap[k]? = w.heap[k]?) (hrest : w'.os = w.os ∧ w'.tape = w.tape ∧ w'.output = w.output)
    (hr : Ext φ (updP φ nx b') A A w w' → RelOb (updP φ nx b') A w' b' x') : Step E φ (updP φ nx b') A A w w' (updO (updO f o none) nx (some x')) (nx + 1) := by
  obtain ⟨hl, hA⟩ := h.lt hx hb hO
  have hext : Ext φ (updP φ nx b') A A w w' := ⟨fun i c hc => by
      unfold updP
      by_cases e : i = nx
      · rw [e, h.nx nx (Nat.le_refl _)] at hc; cases hc
      · rw [if_neg e]; exact hc, by omega, fun _ _ h => h, fun k _ hk => hoth k (fun e => hk (e ▸ hA))⟩
  obtain ⟨b0, hb0, _, hreg⟩ := h.ob o x hx
  rw [hb] at hb0; simp only [Option.some.injEq] at hb0; subst hb0
  have hdel : ∀ i y, i ≠ nx → updO (updO f o none) nx (some x') i = some y → i ≠ o ∧ f i = some y := fun i y hi hy => by
    rw [updO_ne _ _ hi] at hy
    by_cases e : i = o
    · rw [e, updO_same] at hy; cases hy
    · rw [updO_ne _ _ e] at hy; exact ⟨e, hy⟩
  refine ⟨hext, ?_, ?_⟩
  · refine ROb.special h hext (fun i hi => ?_) nx x' b' (updO_same ..) (by simp [updP]) (hr hext) (fun _ => by rw [hblk]; exact hreg hO) (fun i y hi hy => (hdel i y hi hy).2) (fun i y c hi hy hc hOc => ?_)
    · unfold updP; rw [if_neg (by omega)]; exact h.nx i (by omega)
    · obtain ⟨hio, hy0⟩ := hdel i y hi hy
      have hne : c.blk ≠ b.blk := fun e => hio (h.inj i o y x c b hy0 hx hc hb hOc hO e)
      exact ⟨(h.lt hy0 hc hOc).2, hoth _ hne, fun _ => by rw [hblk]; exact hne⟩
  · refine hf.step (by omega) (fun k hk hk0 => hoth k (fun e => ?_)) (fun _ _ => Iff.rfl) hrest.1 hrest.2.1 hrest.2.2
    rcases hreg hO with h1 | h1
    · exact hk0 (e ▸ h1)
    · omega

/-- An object goes: nobody asks for it any more. -/
theorem ROb.drop {E : Env} {φ : Phi} {A : Nat → Prop} {f : Nat → Option Ob} {nx : Nat} {w : World} (h : ROb E φ A f nx w) (f' : Nat → Option Ob) (hf : ∀ o x, f' o = some x → f o = some x) : ROb E φ A f' nx w :=
  ⟨fun o x hx => h.ob o x (hf o x hx), fun o o' x x' b b' hx hx' => h.inj o o' x x' b b' (hf o x hx) (hf o' x' hx'), h.nx⟩

def MemSem (P : Program) (o : Oper) (ρ : Operand → PV) (f : Nat → Option Ob) (nx : Nat) (v : PV) (f' : Nat → Option Ob) (nx' : Nat) : Prop :=
  ∀ (E : Env) (φ : Phi) (A : Nat → Prop) (w : World) (ρm : Operand → Value), ROb E φ A f nx w → Frm E A w → OpsRel φ A w o ρ ρm →
    ∃ φ' A' w' nxt, (execOp ρm o).run P w = .ok nxt w' ∧ Step E φ φ' A A' w w' f' nx' ∧ ((∃ mv, nxt = .value mv ∧ RelV φ' A' w' v mv) ∨ (nxt = .skip ∧ v = anyV))

def Memd (P : Program) (o : Oper) (ρ : Operand → PV) (f : Nat → Option Ob) (nx : Nat) (K : PV → (Nat → Option Ob) → Nat → Option Rt) (r : Rt) : Prop := ∃ v f' nx', K v f' nx' = some r ∧ MemSem P o ρ f nx v f' nx'

/-! ### variables -/
def evNewVar (g : List Seg) (f : Nat → Option Ob) (nx : Nat) (K : PV → (Nat → Option Ob) → Nat → Option Rt) : Option Rt :=
  K (.lf (.ptr nx 0 0 0 0 none)) (updO f nx (some (.box true g))) (nx + 1)

theorem thawed_zero (n : Nat) : Thawed n (0, 0) := .inl rfl

theorem newVar_step {E : Env} {φ : Phi} {A : Nat → Prop} {f : Nat → Option Ob} {nx : Nat} {w : World} (h : ROb E φ A f nx w) (hf : Frm E A w) {g : List Seg} {cs : Array Value} (hg : RelG φ A w g cs.toList) (t : TypeId) :
    ∃ φ' A', Step E φ φ' A A' w (w.alloc (.cells cs t)) (updO f nx (some (.box true g))) (nx + 1) ∧ RelV φ' A' (w.alloc (.cells cs t)) (.lf (.ptr nx 0 0 0 0 none)) (.pointer (some ⟨w.heap.size, 0, none⟩)) := by
  obtain ⟨φ', A', hs, hφ, hA⟩ := step_new h hf w rfl ⟨rfl, rfl, rfl⟩ (.cells cs t) (.box true g) ⟨w.heap.size, 0, 0, 0⟩ rfl (fun φ' A' x hA => by
    refine ⟨cs.toList, hg.ext x, by simp, hA, cs, t, (0, 0), heap_alloc_new w _, thawed_zero _, by simp, fun j v hj => by simpa using hj⟩)
  refine ⟨φ', A', hs, ?_⟩
  simp only [RelV, RelL]
  exact ⟨_, hφ, by simp, .inl trivial⟩

def evAlloc (P : Program) (t : TypeId) (f : Nat → Option Ob) (nx : Nat) (K : PV → (Nat → Option Ob) → Nat → Option Rt) : Option Rt :=
  match zeroPV P t with
  | some p => match segsOf p with
    | some g => evNewVar g f nx K
    | none => none
  | none => none

theorem evAlloc_sound {P : Program} {o : Oper} {t : TypeId} (ho : o.op = .alloc t) {ρ : Operand → PV} {f : Nat → Option Ob} {nx : Nat} {K : PV → (Nat → Option Ob) → Nat → Option Rt} {r : Rt} (h : evAlloc P t f nx K = some r) : Memd P o ρ f nx K r := by
  unfold evAlloc at h
  split at h
  · rename_i p hp
    split at h
    · rename_i g hg
      refine ⟨_, _, _, h, fun E φ A w ρm hR hF hr => ?_⟩
      obtain ⟨i, z, hi, hz, hrel⟩ := zeroPV_rel hp
      obtain ⟨φ', A', hs, hv⟩ := newVar_step hR hF (segsOf_rel hg (hrel φ A w)) t
      refine ⟨φ', A', _, _, ?_, hs, .inl ⟨_, rfl, hv⟩⟩
      unfold execOp; rw [ho]; simp only []
      unfold Instr.alloc
      simp only [run_bind', run_zero hi hz, newVar, newRow, newObj, Sem.run, run_pure]
      rfl
    · cases h
  · cases h

def evBox (p : PV) (f : Nat → Option Ob) (nx : Nat) (K : PV → (Nat → Option Ob) → Nat → Option Rt) : Option Rt :=
  match segsOf p with
  | some g => evNewVar g f nx K
  | none => none

theorem evBox_sound {P : Program} {o : Oper} {t : TypeId} {x : Operand} (ho : o.op = .box t x) {ρ : Operand → PV} {f : Nat → Option Ob} {nx : Nat} {K : PV → (Nat → Option Ob) → Nat → Option Rt} {r : Rt} (h : evBox (ρ x) f nx K = some r) : Memd P o ρ f nx K r := by
  unfold evBox at h
  split at h
  · rename_i g hg
    refine ⟨_, _, _, h, fun E φ A w ρm hR hF hr => ?_⟩
    obtain ⟨φ', A', hs, hv⟩ := newVar_step hR hF (segsOf_rel hg (hr x (by rw [ho]; simp [Op.operands]))) t
    refine ⟨φ', A', _, _, ?_, hs, .inl ⟨_, rfl, hv⟩⟩
    unfold execOp; rw [ho]; simp only []
    unfold Instr.box
    simp only [run_bind', newVar, newRow, newObj, Sem.run, run_pure]
    rfl
  · cases h
end Go.Ev
