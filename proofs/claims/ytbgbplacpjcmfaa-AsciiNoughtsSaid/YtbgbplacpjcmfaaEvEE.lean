/- Part of a proof about the given program: EvEE. -/
import Derived.Test.YtbgbplacpjcmfaaEvDD
import Derived.TacticsIn
import Derived.Below
namespace Go.Ev

/-! # A range over slices.Chunk -/
noncomputable def rangeN {α : Type} (g : Sg) (outs : Outs) (rnd : g.D → α → Option (outD ((.normal, g) :: outs))) (l : List α) : g.D → Option (outD ((.normal, g) :: outs)) :=
  List.rec (fun x => some (.inl x)) (fun c _ ih x => (rnd x c).bind (Sum.elim ih fun o => some (.inr o))) l
theorem rangeN_nil {α : Type} {g : Sg} {outs : Outs} {rnd : g.D → α → Option (outD ((.normal, g) :: outs))} {x : g.D} : rangeN g outs rnd [] x = some (.inl x) := rfl
theorem rangeN_cons {α : Type} {g : Sg} {outs : Outs} {rnd : g.D → α → Option (outD ((.normal, g) :: outs))} {c : α} {l : List α} {x : g.D} : rangeN g outs rnd (c :: l) x = (rnd x c).bind (Sum.elim (rangeN g outs rnd l) fun o => some (.inr o)) := rfl

/-- What Chunk's function hands over. -/
def part (b off n len : Nat) (k : Nat) : Value := .slice (some ⟨b, off + k * n, none⟩) (min n (len - k * n)) (min n (len - k * n))
def chunkL {α : Type} (n : Nat) (xs : List α) : List (List α) := (List.range (chunkNo n xs.length)).map (chunks n xs)

def ChunkIter (P : Program) (gf : FuncId) : Prop :=
  (∀ args w, (callFunc gf args).run P w = .ok (.enter gf args) w) ∧ ∀ (B1 u1 B2 u2 : Nat) (ad : Option Addr) (b off n len cap : Nat), 1 ≤ n → n ≤ 1099511627776 → len ≤ 1099511627776 → len ≤ cap → (0 < len → ad = some ⟨b, off, none⟩) →
    IterOk P gf [.pointer (some ⟨B1, u1, none⟩), .pointer (some ⟨B2, u2, none⟩)] ((List.range (chunkNo n len)).map (part b off n len)) fun W => W.cell? ⟨B1, u1, none⟩ = some (.slice ad len cap) ∧ W.cell? ⟨B2, u2, none⟩ = some (.int .i64 (n : Int))

def jumpB : Outs → Bool
  | [] => true
  | p :: l => (match p.1 with | .ret => true | .exit _ => true | _ => false) && jumpB l

theorem atOutA_jump {E : Env} {n : Nat} {B : Nat → Prop} : ∀ {l : Outs} {x : outD l} {e : Exit} {a : Act} {w : World}, jumpB l = true → atOutA E n B l x e a w → e = .ret ∨ ∃ i, e = .exit i
  | [], x, _, _, _, _, _ => nomatch x
  | (p, _) :: _, .inl _, e, _, _, h, ⟨he, _⟩ => by
    simp only [jumpB, Bool.and_eq_true] at h
    subst he
    cases e with
    | ret => exact .inl rfl
    | exit i => exact .inr ⟨i, rfl⟩
    | _ => simp at h
  | _ :: l, .inr x, e, a, w, h, h2 => by
    simp only [jumpB, Bool.and_eq_true] at h
    exact atOutA_jump (l := l) (x := x) h.2 h2

theorem atOutA_mono {E : Env} {n : Nat} {B B' : Nat → Prop} (h : ∀ k, B' k → B k) : ∀ {l : Outs} {x : outD l} {e : Exit} {a : Act} {w : World}, atOutA E n B l x e a w → atOutA E n B' l x e a w
  | [], x, _, _, _, _ => nomatch x
  | _ :: _, .inl _, _, _, _, ⟨he, φ, A, h1, h2⟩ => ⟨he, φ, A, h1, fun k hk => h2 k (h k hk)⟩
  | _ :: l, .inr x, _, _, _, h2 => atOutA_mono (l := l) (x := x) h h2

theorem R.grow {E : Env} {n : Nat} {φ : Phi} {A : Nat → Prop} {s : St} {a : Act} {w w' : World} (h : R E n φ A s a w) (g : Grown w w') : R E n φ (fun k => A k ∧ k < w.heap.size) s a w' := by
  have hx : ExtC φ φ A (fun k => A k ∧ k < w.heap.size) w w' := ⟨fun _ _ h => h, g.size, fun _ _ h h' => h h'.1, fun k hk _ u s => cell_of_heap (g.heap k hk) u s⟩
  refine ⟨h.defers.keep (fun _ _ h h' => h h'.1) g.size (fun k hk _ => g.heap k hk), h.size, fun t => (h.tm t).extC hx, ⟨fun u x hx' => ?_, h.obs.inj, h.obs.nx⟩, ?_, h.inc⟩
  · obtain ⟨b, hb, hrel, hreg⟩ := h.obs.ob u x hx'
    exact ⟨b, hb, hrel.extC hx (fun hO => ⟨⟨(h.obs.lt hx' hb hO).2, (h.obs.lt hx' hb hO).1⟩, g.heap _ (h.obs.lt hx' hb hO).1⟩), hreg⟩
  · exact ⟨Nat.le_trans h.frm.size g.size, fun k hk hO => (g.heap k (Nat.lt_of_lt_of_le hk h.frm.size)).trans (h.frm.heap k hk hO), fun k hk hA h' => h.frm.out k hk hA h'.1,
      fun k hk hA hO => ⟨h.frm.keep k hk hA hO, Nat.lt_of_lt_of_le hk h.frm.size⟩, g.os.trans h.frm.os, g.tape.trans h.frm.tape, g.output.trans h.frm.output, h.frm.gl⟩

theorem look_app {t : Nat} {v : PV} : ∀ {tn : List Nat} {vs : List PV}, tn.length = vs.length → ∀ i, look tn vs i = look (tn ++ [t]) (vs ++ [v]) i ∨ look tn vs i = anyV
  | [], [], _, _ => .inr rfl
  | k :: tn, u :: vs, h, i => by
    simp only [List.cons_append, look]
    cases Nat.beq i k with
    | true => exact .inl rfl
    | false => exact look_app (tn := tn) (vs := vs) (by simpa using h) i
  | [], _ :: _, h, _ => by simp at h
  | _ :: _, [], h, _ => by simp at h

/-- The statement's own code for its variable. -/
def asg (id : Nat) (ty : TypeId) (pos : String) (t d : Tmp) : Code := .region id #[{ dst := some d, op := .assign (.tmp t), type := ty, pos := pos, after := #[], guard := none }] false

theorem asg_ok {F : Fence} {id : Nat} {ty : TypeId} {pos : String} {t d : Tmp} {P : Program} {Q : Exit → Act → World → Prop} {a : Act} {w : World} (h : Q .normal (a.put (some d) (a.tmps.getD t undef)) w) : (asg id ty pos t d).wpIn F 0 P Q a w := by
  refine wpIn_region_list ?_
  refine wpListIn_plain rfl fun K hK => ?_
  unfold Oper.wpIn
  refine ⟨by simp [Oper.about], ?_⟩
  rw [Oper.semAt_eq F.round _ _ (by intro c hc; cases hc)]
  simp [execOp, Sem.run_pure, Act.eval]
  exact hK _ _ (show Q .normal (a.put (some d) (a.tmps[t]?.getD undef)) w by rw [← Array.getD_eq_getD_getElem?]; exact h)

noncomputable def rangeF (gin gi : Sg) (outs : Outs) (rnd : gi.D → List Int → Option (outD ((.normal, gi) :: outs))) (pj : gin.D → gi.D) (xs : gin.D → List Int) (nn : gin.D → Int) (y : gin.D) : Option (outD ((.normal, gi) :: outs)) :=
  if 1 ≤ nn y ∧ nn y ≤ 1099511627776 ∧ (xs y).length ≤ 1099511627776 then rangeN gi outs rnd (chunkL (nn y).toNat (xs y)) (pj y) else none


theorem chunk_val {A : Nat → Prop} {w : World} {φ : Phi} {xs : List Int} {ad : Option Addr} {n k : Nat} (hk : k < chunkNo n xs.length) (hn : 1 ≤ n) {b off : Nat} (hb : 0 < xs.length → ad = some ⟨b, off, none⟩) (hr : Row (RelD A w (.int .u8)) A w xs ad) :
    RelV φ A w (.lf (.sl (.int .u8) (chunks n xs k) none)) (part b off n xs.length k) := by
  have hlt := (chunkNo_lt hn).1 hk
  have hlen : (chunks n xs k).length = min n (xs.length - k * n) := by simp [chunks]
  simp only [RelV, RelL]
  refine ⟨some ⟨b, off + k * n, none⟩, min n (xs.length - k * n), by rw [hlen]; rfl, (fun _ h => by cases h), by rw [hlen]; exact Nat.le_refl _, ?_⟩
  rcases hr with rfl | ⟨b', off', vs, e, hA, hbs, hl, hc⟩
  · simp at hlt
  · have := hb (by omega)
    rw [e] at this
    simp only [Option.some.injEq, Addr.mk.injEq] at this
    obtain ⟨rfl, rfl, _⟩ := this
    refine .inr ⟨b', off' + k * n, ((vs.drop (k * n)).take n), rfl, hA, hbs, ?_, fun j v hj => ?_⟩
    · have hvs : vs = xs.map (Value.int .u8) := by
        clear hc e hb hlen hlt hk
        revert vs
        induction xs with
        | nil => intro vs h; exact h
        | cons x xs ih =>
          intro vs ⟨v1, v2, h1, h2, h3⟩
          rw [h1, h2, ih v2 h3]; rfl
      rw [hvs, ← List.map_drop, ← List.map_take]
      show Lift _ (chunks n xs k) _
      unfold chunks
      generalize (List.drop (k * n) xs).take n = l
      clear hc hl e hb hlen hlt hk hvs hA hbs
      induction l with
      | nil => rfl
      | cons x l ih => exact ⟨[.int .u8 x], l.map (Value.int .u8), rfl, rfl, ih⟩
    · have hj' : vs[k * n + j]? = some v := by
        rw [List.getElem?_take] at hj
        split at hj
        · rw [List.getElem?_drop] at hj; exact hj
        · cases hj
      rw [Nat.add_assoc]
      exact hc _ _ hj'

theorem Row.keep {A A' : Nat → Prop} {w w' : World} {xs : List Int} {ad : Option Addr} (h : Row (RelD A w (.int .u8)) A w xs ad) (h1 : ∀ k, k < w.heap.size → ¬ A k → ¬ A' k) (h2 : w.heap.size ≤ w'.heap.size) (h3 : ∀ k, k < w.heap.size → ¬ A k → ∀ o s, w'.cell? ⟨k, o, s⟩ = w.cell? ⟨k, o, s⟩) : Row (RelD A' w' (.int .u8)) A' w' xs ad :=
  Row.extC (φ := fun _ => none) (φ' := fun _ => none) ⟨fun _ _ h => h, h2, h1, h3⟩ (fun _ _ h => h) h


def loopRec (fn : FuncId) (tmps : Array Value) (t : Tmp) (assign body : Code) (D : Nat) (st : LoopState) (pe : Option Code) : Loop := { state := st, pending := pe, fn := fn, tmps := tmps, params := #[t], assign := assign, body := body, defers := D }

theorem look_last {t : Nat} {v : PV} : ∀ {tn : List Nat} {vs : List PV}, tn.length = vs.length → tn.all (fun i => !(Nat.beq t i)) = true → look (tn ++ [t]) (vs ++ [v]) t = v
  | [], [], _, _ => by simp [look]
  | k :: tn, u :: vs, h, hn => by
    simp only [List.all_cons, Bool.and_eq_true, Bool.not_eq_true'] at hn
    simp only [List.cons_append, look, hn.1, cond]
    exact look_last (by simpa using h) hn.2
  | [], _ :: _, h, _ => by simp at h
  | _ :: _, [], h, _ => by simp at h

theorem Held.cell {own : Bool} {A : Nat → Prop} {w : World} {blk base : Nat} {v : Value} (h : Held own A w blk base [v] 1) : blk < w.heap.size ∧ w.cell? ⟨blk, base, none⟩ = some v ∧ (own = false → ¬ A blk) := by
  obtain ⟨h1, h2⟩ := h
  refine ⟨h1, ?_⟩
  cases own with
  | false => exact ⟨by have := h2.2 0 v rfl; simpa using this, fun _ => h2.1⟩
  | true =>
    obtain ⟨_, c, e, fz, h3, _, _, h4⟩ := h2
    refine ⟨?_, fun h => by cases h⟩
    have := h4 0 v rfl
    unfold World.cell?
    simp only [h3]
    simpa using this

theorem hlOut_left {l r : List (Option Ob)} {o : Nat} (h : o < l.length) : hlOut (l ++ r) o = hlOut l o := by
  unfold hlOut; rw [List.getElem?_append_left h]
theorem hlOut_none {l : List (Option Ob)} {o : Nat} {x : Ob} (h : hlOut (l ++ [none, none]) o = some x) : o < l.length := by
  rcases Nat.lt_or_ge o l.length with h1 | h1
  · exact h1
  · unfold hlOut at h
    rw [List.getElem?_append_right h1] at h
    match hk : o - l.length with
    | 0 => rw [hk] at h; simp at h
    | 1 => rw [hk] at h; simp at h
    | k + 2 => rw [hk] at h; simp at h

set_option maxHeartbeats 1000000 in
theorem range_ok {P : Program} {gin gi : Sg} {outs : Outs} {O : Orc (outD ((.normal, gi) :: outs))} (hO : OrcOk P O) (hmix : P.follows .mixedOrders = true) {nt : Nat} {fx fx' : List Bool} (hsub : subB fx fx' = true)
    {body : Code} {p : Plan} (hp : PlanOk P nt fx' true p body) {t d tg : Tmp} (ht : t < nt) (hd : d < nt) (hj : jumpB outs = true)
    {rnd : gi.D → List Int → Option (outD ((.normal, gi) :: outs))} (hr : ∀ x c, rnd x c = rndF P O nt fx fx' body p t d x (.lf (.sl (.int .u8) c none)))
    {gf : FuncId} (hit : ChunkIter P gf) {pj : gin.D → gi.D} {xs : gin.D → List Int} {nn : gin.D → Int} {own1 own2 : Bool} {k1 : Nat}
    (htn : gin.tn = gi.tn ++ [tg]) (hnt : gi.tn.all (fun i => !(Nat.beq tg i)) = true) (hlt : gi.tn.length = gi.tt.length) (hos : gin.os.length = gi.os.length)
    (hv : ∀ y, gin.vals y = gi.vals (pj y) ++ [.lf (.fnc gf [.ptr k1 0 0 0 0 none, .ptr (k1 + 1) 0 0 0 0 none])])
    (hob : ∀ y, ∃ l, gin.objs y = l ++ [some (.box own1 [.lf (.sl (.int .u8) (xs y) none)]), some (.box own2 [.lf (.sc (.int .i64 (nn y)))])] ∧ gi.objs (pj y) = l ++ [none, none] ∧ l.length = k1)
    {id : Nat} {ty : TypeId} {pos : String} : SubOk P nt fx (.rangeFunc (.tmp tg) #[t] (asg id ty pos t d) body) ⟨gin, (.normal, gi) :: outs, rangeF gin gi outs rnd pj xs nn⟩ false := by
  intro y o hx rd hrd E hm φ A a w hR
  obtain rfl : rd = none := by
    rcases hrd with h | h
    · cases h
    · exact h
  have hx : rangeF gin gi outs rnd pj xs nn y = some o := hx
  unfold rangeF at hx
  split at hx
  case isFalse => cases hx
  rename_i hc
  obtain ⟨hn1, hn2, hl2⟩ := hc
  obtain ⟨n, hn⟩ : ∃ n : Nat, nn y = (n : Int) := ⟨(nn y).toNat, by omega⟩
  obtain ⟨l, ho1, ho2, hk1⟩ := hob y
  have hvl : gi.tn.length = (gi.vals (pj y)).length := by rw [hlt]; exact encPs_len.symm
  have htg : RelV φ A w (.lf (.fnc gf [.ptr k1 0 0 0 0 none, .ptr (k1 + 1) 0 0 0 0 none])) (a.tmps.getD tg undef) := by
    have := hR.tm tg
    rw [show (gin.st y).tm tg = look gin.tn (gin.vals y) tg from rfl, htn, hv, look_last hvl hnt] at this
    exact this
  simp only [RelV, RelL, RelLs] at htg
  obtain ⟨vs, hev, p1, vs1, rfl, ⟨b1, hb1, rfl, _⟩, p2, vs2, rfl, ⟨b2, hb2, rfl, _⟩, rfl⟩ := htg
  simp only [Nat.zero_mul, Nat.add_zero] at hev
  have hx1 : (gin.st y).ob k1 = some (.box own1 [.lf (.sl (.int .u8) (xs y) none)]) := by
    show hlOut (gin.objs y) k1 = _
    rw [ho1]; unfold hlOut; rw [List.getElem?_append_right (by omega), hk1, Nat.sub_self]; rfl
  have hx2 : (gin.st y).ob (k1 + 1) = some (.box own2 [.lf (.sc (.int .i64 (nn y)))]) := by
    show hlOut (gin.objs y) (k1 + 1) = _
    rw [ho1]; unfold hlOut; rw [List.getElem?_append_right (by omega), hk1, Nat.add_sub_cancel_left]; rfl
  obtain ⟨b1', hb1', ⟨vs1, ⟨v1, v1', e1, ⟨sv, rfl, hsv⟩, e1'⟩, hh1⟩, hreg1⟩ := hR.obs.ob _ _ hx1
  obtain ⟨b2', hb2', ⟨vs2, ⟨v2, v2', e2, ⟨iv, rfl, hiv⟩, e2'⟩, hh2⟩, hreg2⟩ := hR.obs.ob _ _ hx2
  rw [hb1] at hb1'; simp only [Option.some.injEq] at hb1'; subst hb1'
  rw [hb2] at hb2'; simp only [Option.some.injEq] at hb2'; subst hb2'
  have e1' : v1' = [] := e1'
  have e2' : v2' = [] := e2'
  subst e1'; subst e2'
  simp only [List.append_nil] at e1 e2
  subst e1; subst e2
  simp only [RelL] at hsv hiv
  obtain ⟨ad, c, rfl, _, hlc, hrow⟩ := hsv
  subst hiv
  obtain ⟨hB1, hcell1, hA1⟩ := hh1.cell
  obtain ⟨hB2, hcell2, hA2⟩ := hh2.cell
  obtain ⟨b, off, hbo⟩ : ∃ b off, 0 < (xs y).length → ad = some ⟨b, off, none⟩ := by
    rcases hrow with h | ⟨b, off, vs, e, _⟩
    · exact ⟨0, 0, fun h' => by rw [h] at h'; cases h'⟩
    · exact ⟨b, off, fun _ => e⟩
  -- what is dropped
  obtain ⟨A1, hA1d⟩ : ∃ A1 : Nat → Prop, A1 = fun k => A k ∧ k < w.heap.size ∧ k ≠ b1.blk ∧ k ≠ b2.blk := ⟨_, rfl⟩
  have hdrop1 : ∀ o x b, (gin.st y).ob o = some x → φ o = some b → Owns b x → o ≠ k1 → b.blk ≠ b1.blk := fun o x b h1 h2 h3 h4 he => by
    cases own1 with
    | true => exact h4 (hR.obs.inj o k1 x _ b b1 h1 hx1 h2 hb1 h3 rfl he)
    | false => exact hA1 rfl (he ▸ (hR.obs.lt h1 h2 h3).2)
  have hdrop2 : ∀ o x b, (gin.st y).ob o = some x → φ o = some b → Owns b x → o ≠ k1 + 1 → b.blk ≠ b2.blk := fun o x b h1 h2 h3 h4 he => by
    cases own2 with
    | true => exact h4 (hR.obs.inj o (k1 + 1) x _ b b2 h1 hx2 h2 hb2 h3 rfl he)
    | false => exact hA2 rfl (he ▸ (hR.obs.lt h1 h2 h3).2)
  refine wpIn_rangeFunc fun fn _ => ?_
  obtain ⟨L, hL⟩ : ∃ L, L = w.heap.size + 1 := ⟨_, rfl⟩
  obtain ⟨w1, hw1⟩ : ∃ w1, w1 = (w.alloc (.deferred (some []))).alloc (.loop (loopRec fn a.tmps t (asg id ty pos t d) body w.heap.size .ready none)) := ⟨_, rfl⟩
  have hs1 : w1.heap.size = w.heap.size + 2 := by rw [hw1]; simp
  have hh1' : ∀ k, k < w.heap.size → w1.heap[k]? = w.heap[k]? := fun k hk => by
    rw [hw1]; exact (Go.RowKit.Below.heap_alloc _ _ _ (by simp; omega)).trans (Go.RowKit.Below.heap_alloc _ _ _ hk)
  have hrec1 : w1.heap[L]? = some (.loop (loopRec fn a.tmps t (asg id ty pos t d) body w.heap.size .ready none)) := by
    rw [hw1, hL]; have := World.alloc_heap_new (w.alloc (.deferred (some []))) (.loop (loopRec fn a.tmps t (asg id ty pos t d) body w.heap.size .ready none)); rwa [World.size_alloc] at this
  have hdef1 : w1.heap[w.heap.size]? = some (.deferred (some [])) := by
    rw [hw1]; exact (Go.RowKit.Below.heap_alloc _ _ _ (by simp)).trans (World.alloc_heap_new w _)
  have hE : E.w0.heap.size ≤ w.heap.size := hR.frm.size
  have hxc : ExtC φ φ A A1 w w1 := ⟨fun _ _ h => h, by omega, fun _ _ h h' => h (hA1d ▸ h' : _ ∧ _).1, fun k hk _ u s => cell_of_heap (hh1' k hk) u s⟩
  have hR1 : R E nt φ A1 (gi.st (pj y)) { a with defers := mark w.heap.size :: a.defers } w1 := by
    refine ⟨?_, hR.size, fun i => ?_, ⟨fun u x hx => ?_, fun u u' x x' b b' h1 h2 => ?_, fun u hu => hR.obs.nx u (by show gin.os.length ≤ u; rw [hos]; exact hu)⟩, ?_, hR.inc⟩
    · obtain ⟨Ds, d1, d2, d3⟩ := hR.defers
      refine ⟨w.heap.size :: Ds, List.nodup_cons.2 ⟨fun h => by have := (d3 _ h).2.2.1; omega, d1⟩, by rw [d2]; rfl, fun D hD => ?_⟩
      rcases List.mem_cons.1 hD with rfl | hD
      · exact ⟨by rw [hA1d]; exact fun h => by omega, hE, by omega, hdef1⟩
      · obtain ⟨f1, f2, f3, f4⟩ := d3 D hD
        exact ⟨by rw [hA1d]; exact fun h => f1 h.1, f2, by omega, (hh1' D f3).trans f4⟩
    · rcases look_app (t := tg) (v := .lf (.fnc gf [.ptr k1 0 0 0 0 none, .ptr (k1 + 1) 0 0 0 0 none])) hvl i with h | h
      · have := (hR.tm i).extC hxc
        rw [show (gin.st y).tm i = look gin.tn (gin.vals y) i from rfl, htn, hv, ← h] at this
        exact this
      · rw [show (gi.st (pj y)).tm i = look gi.tn (gi.vals (pj y)) i from rfl, h]
        exact RelV_any ..
    · have hx : hlOut (gi.objs (pj y)) u = some x := hx
      rw [ho2] at hx
      have hu := hlOut_none hx
      have hx' : (gin.st y).ob u = some x := by
        show hlOut (gin.objs y) u = _
        rw [ho1, hlOut_left hu]; rw [hlOut_left hu] at hx; exact hx
      obtain ⟨b, hb, hrel, hreg⟩ := hR.obs.ob u x hx'
      refine ⟨b, hb, hrel.extC hxc (fun hO => ⟨?_, hh1' _ (hR.obs.lt hx' hb hO).1⟩), hreg⟩
      rw [hA1d]
      exact ⟨(hR.obs.lt hx' hb hO).2, (hR.obs.lt hx' hb hO).1, hdrop1 u x b hx' hb hO (by omega), hdrop2 u x b hx' hb hO (by omega)⟩
    · have h1 : hlOut (gi.objs (pj y)) u = some x := h1
      have h2 : hlOut (gi.objs (pj y)) u' = some x' := h2
      rw [ho2] at h1 h2
      have hu := hlOut_none h1
      have hu' := hlOut_none h2
      rw [hlOut_left hu] at h1
      rw [hlOut_left hu'] at h2
      exact hR.obs.inj u u' x x' b b' (by show hlOut (gin.objs y) u = _; rw [ho1, hlOut_left hu]; exact h1) (by show hlOut (gin.objs y) u' = _; rw [ho1, hlOut_left hu']; exact h2)
    · refine ⟨by omega, fun k hk hO => (hh1' k (by omega)).trans (hR.frm.heap k hk hO), fun k hk hA h' => hR.frm.out k hk hA (hA1d ▸ h' : _ ∧ _).1, fun k hk hA hO => ?_, ?_, ?_, ?_, hR.frm.gl⟩
      · have hAk := hR.frm.keep k hk hA hO
        rw [hA1d]
        refine ⟨hAk, by omega, fun he => ?_, fun he => ?_⟩
        · cases own1 with
          | true => rcases hreg1 rfl with h | h
                    · exact hO (he ▸ h)
                    · omega
          | false => exact hA1 rfl (he ▸ hAk)
        · cases own2 with
          | true => rcases hreg2 rfl with h | h
                    · exact hO (he ▸ h)
                    · omega
          | false => exact hA2 rfl (he ▸ hAk)
      · rw [hw1]; exact hR.frm.os
      · rw [hw1]; exact hR.frm.tape
      · rw [hw1]; exact hR.frm.output
  -- the rounds
  let aD : Act := { a with defers := mark w.heap.size :: a.defers }
  let INV : gi.D → World → Prop := fun x W => w1.heap.size ≤ W.heap.size ∧ (∀ k, k < w1.heap.size → ¬ A1 k → k ≠ L → W.heap[k]? = w1.heap[k]?) ∧ ∃ φ A, R E nt φ A (gi.st x) aD W ∧ ∀ k, k < w1.heap.size → ¬ A1 k → ¬ A k
  let J : Nat → World → Prop := fun k W => ∃ x, rangeN gi outs rnd ((chunkL n (xs y)).drop k) x = some o ∧ INV x W ∧ W.heap[L]? = some (.loop (loopRec fn a.tmps t (asg id ty pos t d) body w.heap.size .ready none))
  let Jx : World → Prop := fun W => ∃ o' c e, o = .inr o' ∧ ((c = .ret ∧ e = .ret) ∨ ∃ i, c = .exit i ∧ e = .exit i) ∧ W.heap[L]? = some (.loop (loopRec fn a.tmps t (asg id ty pos t d) body w.heap.size .done (some c))) ∧ atOutA E nt (fun k => k = L) outs o' e aD W
  have hA1L : ¬ A1 L := by rw [hA1d]; exact fun h => by omega
  have hLs : L < w1.heap.size := by omega
  have hne1 : ¬ A1 b1.blk := by rw [hA1d]; exact fun h => h.2.2.1 rfl
  have hne2 : ¬ A1 b2.blk := by rw [hA1d]; exact fun h => h.2.2.2 rfl
  have hrow1 : Row (RelD A1 w1 (.int .u8)) A1 w1 (xs y) ad := hrow.keep (fun k hk h h' => h (hA1d ▸ h' : _ ∧ _).1) (by omega) (fun k hk _ u s => cell_of_heap (hh1' k hk) u s)
  have hnt' : (nn y).toNat = n := by omega
  rw [hnt'] at hx
  have hJ0 : J 0 w1 := ⟨pj y, by simpa using hx, ⟨Nat.le_refl _, fun _ _ _ _ => rfl, φ, A1, hR1, fun _ _ h => h⟩, hrec1⟩
  have hI := hit.2 b1.blk b1.base b2.blk b2.base ad b off n (xs y).length c (by omega) (by omega) hl2 hlc hbo
  refine ⟨L, [mark w.heap.size], w1, { target := .fn (.func gf) ⟨[.pointer (some ⟨b1.blk, b1.base, none⟩), .pointer (some ⟨b2.blk, b2.base, none⟩)]⟩, args := #[.func (.yield L) #[] #[]] }, w1, gf,
    #[.func (.yield L) #[] #[]] ++ ⟨[.pointer (some ⟨b1.blk, b1.base, none⟩), .pointer (some ⟨b2.blk, b2.base, none⟩)]⟩, w1, ?_, ?_, fun _ _ => trivial, ?_, (fun h => by cases h), ?_⟩
  · rw [hw1, hL]; exact run_enterLoop_outer _ _ _ _ _
  · have hg : a.eval (.tmp tg) = .func (.func gf) #[] ⟨[.pointer (some ⟨b1.blk, b1.base, none⟩), .pointer (some ⟨b2.blk, b2.base, none⟩)]⟩ := hev
    simp only [resolve, hg]
    simp [go_sem]
  · simp [invoke, go_sem, hit.1]
  · refine (hI L J Jx ?_ ?_ ?_ w1 hJ0).mono ?_
    · rintro k W W' ⟨x, h1, ⟨h2, h3, φ', A', h4, h5⟩, h6⟩ hg
      exact ⟨x, h1, ⟨Nat.le_trans h2 hg.size, fun j hj hA hne => (hg.heap j (by omega)).trans (h3 j hj hA hne), φ', _, h4.grow hg, fun j hj hA h' => h5 j hj hA h'.1⟩, (hg.heap L (by omega)).trans h6⟩
    · rintro k W ⟨x, h1, ⟨h2, h3, _⟩, h6⟩
      have hB : ∀ B, B < w.heap.size → ¬ A1 B → W.heap[B]? = w.heap[B]? := fun B hB hA => (h3 B (by omega) hA (by omega)).trans (hh1' B hB)
      rw [← hn]
      exact ⟨(cell_of_heap (hB _ hB1 hne1) _ _).trans hcell1, (cell_of_heap (hB _ hB2 hne2) _ _).trans hcell2⟩
    · rintro k v W hkv ⟨x, h1, ⟨h2, h3, φ', A', h4, h5⟩, h6⟩
      rw [List.getElem?_map] at hkv
      have hk : k < chunkNo n (xs y).length := by
        rcases Nat.lt_or_ge k (chunkNo n (xs y).length) with h | h
        · exact h
        · rw [List.getElem?_eq_none (by simpa using h)] at hkv; cases hkv
      rw [List.getElem?_range hk] at hkv
      simp only [Option.map_some, Option.some.injEq] at hkv
      have hcl : k < (chunkL n (xs y)).length := by simpa [chunkL] using hk
      rw [List.drop_eq_getElem_cons hcl, rangeN_cons] at h1
      have hck : (chunkL n (xs y))[k] = chunks n (xs y) k := by simp [chunkL]
      rw [hck] at h1
      cases hrc : rnd x (chunks n (xs y) k) with
      | none => rw [hrc] at h1; cases h1
      | some r =>
      rw [hrc] at h1
      simp only [Option.bind_some] at h1
      have hys : a.tmps.size = nt := hR.size
      refine ⟨fn, _, asg id ty pos t d, body, run_yield h6 rfl, roundIn_of_wpIn trivial (asg_ok ⟨_, run_beginRound h6 rfl, ?_⟩)⟩
      obtain ⟨W2, hW2⟩ : ∃ W2, W2 = W.putObj L (.loop { loopRec fn a.tmps t (asg id ty pos t d) body w.heap.size .ready none with state := .busy }) := ⟨_, rfl⟩
      rw [← hW2]
      have hA'L : ¬ A' L := h5 L hLs hA1L
      have hEL : E.w0.heap.size ≤ L := by omega
      have hW2s : W2.heap.size = W.heap.size := by rw [hW2]; simp
      have hW2o : ∀ j, j ≠ L → W2.heap[j]? = W.heap[j]? := fun j hj => by rw [hW2]; exact World.putObj_heap_other hj
      have hR2 : R E nt φ' A' (gi.st x) aD W2 := by rw [hW2]; exact h4.other hA'L hEL h6 rfl (fun _ h => by cases h) rfl
      have hrow2 : Row (RelD A' W2 (.int .u8)) A' W2 (xs y) ad := hrow1.keep (fun j hj h => h5 j hj h) (by omega) (fun j hj hA u s => by
        by_cases e : j = L
        · subst e
          rw [cell_none (o := .loop { loopRec fn a.tmps t (asg id ty pos t d) body w.heap.size .ready none with state := .busy }) rfl (by rw [hW2]; exact World.putObj_heap_same (by omega)), cell_none rfl hrec1]
        · exact cell_of_heap ((hW2o j e).trans (h3 j hj hA e)) u s)
      have hval : RelV φ' A' W2 (.lf (.sl (.int .u8) (chunks n (xs y) k) none)) v := hkv ▸ chunk_val hk (by omega) hbo hrow2
      have hrun := round_run hO hmix hsub hp ht hd ((hr x _).symm.trans hrc) hm hR2 hval (some L)
      have hact : ({ tmps := ((#[t].zip #[v]).foldl (fun tmps (t, a) => tmps.setIfInBounds t a) a.tmps), defers := [] } : Act).put (some d) (((#[t].zip #[v]).foldl (fun tmps (t, a) => tmps.setIfInBounds t a) a.tmps).getD t undef) = { tmps := (aD.tmps.setIfInBounds t v).setIfInBounds d v, defers := [] } := by
        have : ((#[t].zip #[v]).foldl (fun tmps (t, a) => tmps.setIfInBounds t a) a.tmps) = a.tmps.setIfInBounds t v := by simp
        rw [this, getD_put a.tmps t t v (hys ▸ ht), if_pos rfl]
        rfl
      rw [show ({ tmps := (Array.foldl (fun tmps x => tmps.setIfInBounds x.1 x.2) (loopRec fn a.tmps t (asg id ty pos t d) body w.heap.size .ready none).tmps ((loopRec fn a.tmps t (asg id ty pos t d) body w.heap.size .ready none).params.zip #[v])), defers := [] } : Act).put (some d) ((Array.foldl (fun tmps x => tmps.setIfInBounds x.1 x.2) (loopRec fn a.tmps t (asg id ty pos t d) body w.heap.size .ready none).tmps ((loopRec fn a.tmps t (asg id ty pos t d) body w.heap.size .ready none).params.zip #[v])).getD t undef) = _ from hact]
      refine wpIn_mono hrun ?_
      rintro e a' W' ⟨g1, g2, g3⟩
      have hbusy : W'.heap[L]? = some (.loop { loopRec fn a.tmps t (asg id ty pos t d) body w.heap.size .ready none with state := .busy }) := (g2 L (by omega) hA'L).trans (by rw [hW2]; exact World.putObj_heap_same (by omega))
      have hLW : L < W'.heap.size := by omega
      cases r with
      | inl x2 =>
        obtain ⟨he, φ2, A2, f1, f2⟩ := g3
        have he : e = .normal := he
        subst he
        refine ⟨_, _, run_endRound none hbusy, .inl ⟨rfl, x2, h1, ⟨by simp; omega, fun j hj hA hne => ?_, φ2, A2, f1.other (f2 L ⟨by omega, hA'L⟩) hEL hbusy rfl (fun _ h => by cases h) rfl, fun j hj hA => f2 j ⟨by omega, h5 j hj hA⟩⟩, World.putObj_heap_same hLW⟩⟩
        exact (World.putObj_heap_other hne).trans ((g2 j (by omega) (h5 j hj hA)).trans ((hW2o j hne).trans (h3 j hj hA hne)))
      | inr o2 =>
        simp only [Sum.elim_inr, Option.some.injEq] at h1
        have g3 : atOutA E nt (fun k => k < W2.heap.size ∧ ¬ A' k) outs o2 e aD W' := g3
        rcases atOutA_jump hj g3 with rfl | ⟨i, rfl⟩
        · exact ⟨_, _, run_endRound (some .ret) hbusy, .inr ⟨rfl, o2, .ret, .ret, h1.symm, .inl ⟨rfl, rfl⟩, World.putObj_heap_same hLW, atOutA_mono (fun j hj => hj ▸ ⟨by omega, hA'L⟩) (atOutA_other (k := L) ⟨by omega, hA'L⟩ hEL rfl (fun _ h => by cases h) rfl g3 hbusy)⟩⟩
        · exact ⟨_, _, run_endRound (some (.exit i)) hbusy, .inr ⟨rfl, o2, .exit i, .exit i, h1.symm, .inr ⟨i, rfl, rfl⟩, World.putObj_heap_same hLW, atOutA_mono (fun j hj => hj ▸ ⟨by omega, hA'L⟩) (atOutA_other (k := L) ⟨by omega, hA'L⟩ hEL rfl (fun _ h => by cases h) rfl g3 hbusy)⟩⟩
    · rintro e W2 ⟨⟨v, rfl⟩, hJ | hJx⟩
      · obtain ⟨x, h1, ⟨h2, h3, φ', A', h4, h5⟩, h6⟩ := hJ
        rw [List.drop_eq_nil_of_le (by simp [chunkL]), rangeN_nil] at h1
        simp only [Option.some.injEq] at h1
        subst h1
        exact ⟨none, _, run_endLoop h6 (by simp [loopRec]), rfl, φ', A', h4.other (h5 L hLs hA1L) (by omega) h6 rfl (fun _ h => by cases h) rfl⟩
      · obtain ⟨o2, cd, e, rfl, hce, h6, g3⟩ := hJx
        have hEL : E.w0.heap.size ≤ L := by omega
        have g4 := atOutA_at (atOutA_other (E := E) (B := fun k => k = L) (k := L) (o' := .loop { loopRec fn a.tmps t (asg id ty pos t d) body w.heap.size .done (some cd) with state := .exhausted }) rfl hEL rfl (fun _ h => by cases h) rfl g3 h6)
        rcases hce with ⟨rfl, rfl⟩ | ⟨i, rfl, rfl⟩
        · exact ⟨some .ret, _, run_endLoop h6 (by simp [loopRec]), wpIn_ret g4⟩
        · exact ⟨some (.exit i), _, run_endLoop h6 (by simp [loopRec]), wpIn_exit g4⟩
end Go.Ev
