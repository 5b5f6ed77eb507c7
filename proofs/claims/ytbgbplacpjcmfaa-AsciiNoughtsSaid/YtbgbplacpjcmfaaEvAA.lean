/- Part of a proof about the given program: EvAA. -/
import Derived.Test.YtbgbplacpjcmfaaEvZ
import Derived.ProofKit
namespace Go.Ev

/-! # What came in, opened -/
/-- What a reading says of data beside its form. -/
def Wf : (s : Shape) → den s → Prop
  | .int k, n => k.min ≤ n ∧ n ≤ k.max
  | .bool, _ => True
  | .str, b => b.size ≤ 9223372036854775807
  | .pair a b, x => Wf a x.1 ∧ Wf b x.2
  | .slice a, xs => xs.length ≤ 9223372036854775807 ∧ ∀ x ∈ xs, Wf a x

def offsB (P : Program) : List Field → Nat → Bool
  | [], _ => true
  | f :: fs, o => Nat.beq f.offset o && offsB P fs (o + P.cellsOf f.type)
def allB {α : Type} (f : α → Bool) : List α → Bool
  | [] => true
  | x :: l => f x && allB f l
/-- A type's shape lies as its cells lie. -/
def fitB (P : Program) : Nat → TypeId → Bool
  | 0, _ => false
  | n + 1, t => match P.underlying t with
    | some (.slice e) => fitB P n e
    | some (.struct fs) => offsB P fs.toList 0 && allB (fun f => fitB P n f.type) fs.toList && allB (fun f => match shapeOf P n f.type with | some s => Nat.beq s.size (P.cellsOf f.type) | none => false) fs.toList &&
        (match shapeOf P (n + 1) t with | some s => Nat.beq s.size (P.cellsOf t) | none => false)
    | _ => true

theorem allB_mem {α : Type} {f : α → Bool} : ∀ {l : List α}, allB f l = true → ∀ x ∈ l, f x = true
  | [], _, x, hx => by cases hx
  | y :: l, h, x, hx => by
    simp only [allB, Bool.and_eq_true] at h
    rcases List.mem_cons.1 hx with e | e
    · rw [e]; exact h.1
    · exact allB_mem h.2 x e

theorem mapM_get {α β : Type} {f : α → Option β} : ∀ {l : List α} {ys : List β}, l.mapM f = some ys → ys.length = l.length ∧ ∀ (i : Nat) (x : α), l[i]? = some x → ∃ y, ys[i]? = some y ∧ f x = some y
  | [], ys, h => by
    simp at h; subst h; simp
  | x :: l, ys, h => by
    rw [List.mapM_cons] at h
    simp only [Option.bind_eq_bind, Option.bind_eq_some_iff, Option.pure_def, Option.some.injEq] at h
    obtain ⟨y, hy, zs, hzs, rfl⟩ := h
    obtain ⟨h1, h2⟩ := mapM_get hzs
    refine ⟨by simp [h1], fun i z hz => ?_⟩
    cases i with
    | zero => simp only [List.getElem?_cons_zero, Option.some.injEq] at hz ⊢; exact ⟨y, rfl, hz ▸ hy⟩
    | succ i => rw [List.getElem?_cons_succ] at hz ⊢; exact h2 i z hz

theorem mapM_mem {α β : Type} {f : α → Option β} {l : List α} {ys : List β} (h : l.mapM f = some ys) : ∀ y ∈ ys, ∃ x ∈ l, f x = some y := fun y hy => by
  obtain ⟨i, hi, e⟩ := List.mem_iff_getElem.1 hy
  obtain ⟨h1, h2⟩ := mapM_get h
  obtain ⟨z, hz, hf⟩ := h2 i l[i] (List.getElem?_eq_getElem (by omega))
  rw [List.getElem?_eq_getElem hi] at hz
  simp only [Option.some.injEq] at hz
  exact ⟨l[i], List.getElem_mem _, by rw [← e, hz]; exact hf⟩

section
variable {H : Type} {enc : TypeId × Value → H} {P : Program} {w : World} {base : Nat} {spare : Nat → Bool} {held : Bool}

def NoA : Nat → Prop := fun _ => False

theorem cells_row {a : Addr} {n : Nat} {vs : List Value} (h : w.cells? base a n = some vs) : vs.length = n ∧ ∀ (j : Nat) v, vs[j]? = some v → w.cell? (a.add j) = some v := by
  unfold World.cells? at h
  split at h
  · obtain ⟨h1, h2⟩ := mapM_get h
    rw [List.length_range] at h1
    refine ⟨h1, fun j v hj => ?_⟩
    have hlt := (List.getElem?_eq_some_iff.1 hj).1
    obtain ⟨y, hy, hf⟩ := h2 j j (by rw [List.getElem?_range (by omega)])
    rw [hj] at hy; simp only [Option.some.injEq] at hy
    rw [hf, hy]
  · cases h

theorem shape_cells {A : Nat → Prop} {s : Shape} {d : den s} {vs : List Value} (h : RelD A w s d vs) : vs.length = s.size := RelD.length A w s d vs h

/-- The fields of a struct. -/
theorem fields_open {fuel n : Nat} (ih : ∀ (t : TypeId) (s : Shape) (cs : List Value) (x : DataW H × List MemPlace), shapeOf P n t = some s → fitB P n t = true → DataW.trod enc P w base spare held fuel t cs = some x → (∀ p ∈ x.2, p.block < w.heap.size) → ∃ d, RelD NoA w s d cs ∧ Wf s d) :
    ∀ (fs : List Field) (s : Shape) (o : Nat) (cs : List Value) (xs : List (DataW H × List MemPlace)), shapeAll (shapeOf P n) fs = some s → offsB P fs o = true → allB (fun f => fitB P n f.type) fs = true →
      allB (fun f => match shapeOf P n f.type with | some s => Nat.beq s.size (P.cellsOf f.type) | none => false) fs = true →
      fs.mapM (fun f => DataW.trod enc P w base spare held fuel f.type ((cs.drop f.offset).take (P.cellsOf f.type))) = some xs → (∀ x ∈ xs, ∀ p ∈ x.2, p.block < w.heap.size) → cs.length = o + s.size → ∃ d, RelD NoA w s d (cs.drop o) ∧ Wf s d := by
  intro fs
  induction fs with
  | nil => intro s o cs xs h; simp [shapeAll] at h
  | cons f fs ihf =>
    intro s o cs xs h ho hf hz hx hb hl
    rw [List.mapM_cons] at hx
    simp only [Option.bind_eq_bind, Option.bind_eq_some_iff, Option.pure_def, Option.some.injEq] at hx
    obtain ⟨y, hy, ys, hys, rfl⟩ := hx
    simp only [offsB, Bool.and_eq_true] at ho
    simp only [allB, Bool.and_eq_true] at hf hz
    have hoff := Nat.eq_of_beq_eq_true ho.1
    cases fs with
    | nil =>
      have h : shapeOf P n f.type = some s := h
      have hsz := hz.1
      rw [h] at hsz
      have hsz := Nat.eq_of_beq_eq_true hsz
      rw [hoff, ← hsz, List.take_of_length_le (by simp; omega)] at hy
      exact ih f.type s _ y h hf.1 hy (hb y (List.mem_cons_self ..))
    | cons f2 fs =>
      have h : (match shapeOf P n f.type, shapeAll (shapeOf P n) (f2 :: fs) with | some x, some y => some (Shape.pair x y) | _, _ => none) = some s := h
      cases h1 : shapeOf P n f.type with
      | none => rw [h1] at h; simp at h
      | some s1 =>
        cases h2 : shapeAll (shapeOf P n) (f2 :: fs) with
        | none => rw [h1, h2] at h; simp at h
        | some s2 =>
          have e : s = .pair s1 s2 := by
            rw [h1, h2] at h
            simp only [Option.some.injEq] at h; exact h.symm
          subst e
          have hsz := hz.1
          rw [h1] at hsz
          have hsz := Nat.eq_of_beq_eq_true hsz
          simp only [Shape.size] at hl
          rw [hoff, ← hsz] at hy
          obtain ⟨d1, r1, w1⟩ := ih f.type s1 _ y h1 hf.1 hy (hb y (List.mem_cons_self ..))
          have ho2 := ho.2
          rw [← hsz] at ho2
          obtain ⟨d2, r2, w2⟩ := ihf s2 (o + s1.size) cs ys h2 ho2 hf.2 hz.2 hys (fun x hx => hb x (List.mem_cons_of_mem _ hx)) (by omega)
          refine ⟨(d1, d2), ⟨(cs.drop o).take s1.size, cs.drop (o + s1.size), ?_, r1, r2⟩, w1, w2⟩
          rw [← List.drop_drop, List.take_append_drop]

/-- The elements of a slice. -/
theorem elems_open {fuel n : Nat} {e : TypeId} {s : Shape} (hs : shapeOf P n e = some s) (hf : fitB P n e = true)
    (ih : ∀ (t : TypeId) (s : Shape) (cs : List Value) (x : DataW H × List MemPlace), shapeOf P n t = some s → fitB P n t = true → DataW.trod enc P w base spare held fuel t cs = some x → (∀ p ∈ x.2, p.block < w.heap.size) → ∃ d, RelD NoA w s d cs ∧ Wf s d) {a : Addr} :
    ∀ (len k : Nat) (xs : List (DataW H × List MemPlace)), (List.range' k len).mapM (fun i => (w.cells? base (a.add (i * P.cellsOf e)) (P.cellsOf e)).bind (DataW.trod enc P w base spare held fuel e)) = some xs → (∀ x ∈ xs, ∀ p ∈ x.2, p.block < w.heap.size) →
      ∃ (ds : List (den s)) (vs : List Value), ds.length = len ∧ Lift (RelD NoA w s) ds vs ∧ (∀ d ∈ ds, Wf s d) ∧ ∀ (j : Nat) v, vs[j]? = some v → w.cell? (a.add (k * s.size + j)) = some v := by
  intro len
  induction len with
  | zero => intro k xs _ _; exact ⟨[], [], rfl, rfl, (fun d hd => by cases hd), (fun j v h => by simp at h)⟩
  | succ len ihl =>
    intro k xs hx hb
    rw [List.range'_succ, List.mapM_cons] at hx
    simp only [Option.bind_eq_bind, Option.bind_eq_some_iff, Option.pure_def, Option.some.injEq] at hx
    obtain ⟨y, ⟨cs, hcs, hy⟩, ys, hys, rfl⟩ := hx
    obtain ⟨hcl, hcc⟩ := cells_row hcs
    obtain ⟨d, hd, wd⟩ := ih e s cs y hs hf hy (hb y (List.mem_cons_self ..))
    have hsz : P.cellsOf e = s.size := by rw [← hcl]; exact shape_cells hd
    obtain ⟨ds, vs, h1, h2, h3, h4⟩ := ihl (k + 1) ys hys (fun x hx => hb x (List.mem_cons_of_mem _ hx))
    refine ⟨d :: ds, cs ++ vs, by simp [h1], ⟨cs, vs, rfl, hd, h2⟩, fun x hx => ?_, fun j v hj => ?_⟩
    · rcases List.mem_cons.1 hx with h | h
      · rw [h]; exact wd
      · exact h3 x h
    · rcases Nat.lt_or_ge j cs.length with hlt | hge
      · rw [List.getElem?_append_left hlt] at hj
        have := hcc j v hj
        rw [hsz] at this
        rw [← this]
        congr 1
        unfold Addr.add
        by_cases hk : k * s.size = 0
        · rw [if_pos hk, hk]; simp
        · by_cases hj0 : j = 0
          · simp [hj0]
          · rw [if_neg hk, if_neg (by omega), if_neg hj0]; simp; omega
      · rw [List.getElem?_append_right hge] at hj
        have := h4 (j - cs.length) v hj
        rw [← this]
        congr 2
        rw [hcl, hsz] at hge ⊢
        rw [Nat.succ_mul]; omega

theorem trod_open : ∀ (n fuel : Nat) (t : TypeId) (s : Shape) (cs : List Value) (x : DataW H × List MemPlace), shapeOf P n t = some s → fitB P n t = true → DataW.trod enc P w base spare held fuel t cs = some x → (∀ p ∈ x.2, p.block < w.heap.size) →
    ∃ d, RelD NoA w s d cs ∧ Wf s d := by
  intro n
  induction n with
  | zero => intro fuel t s cs x h; cases h
  | succ n ihn =>
    intro fuel t s cs x hs hf hx hb
    cases fuel with
    | zero => cases hx
    | succ fuel =>
      unfold shapeOf at hs
      unfold fitB at hf
      unfold DataW.trod at hx
      cases hu : P.underlying t with
      | none => rw [hu] at hs; cases hs
      | some td =>
        rw [hu] at hs hf
        cases td with
        | int k =>
          simp only [Option.some.injEq] at hs; subst hs
          split at hx <;> simp_all
          rename_i k' n' _
          obtain ⟨⟨rfl, hw⟩, rfl⟩ := hx
          refine ⟨n', rfl, ?_⟩
          simpa [Lit.wf, Wf] using hw
        | bool =>
          simp only [Option.some.injEq] at hs; subst hs
          split at hx <;> try (simp_all; done)
          exact ⟨_, rfl, trivial⟩
        | string =>
          simp only [Option.some.injEq] at hs; subst hs
          split at hx <;> try (simp_all; done)
          split at hx
          · rename_i hm
            exact ⟨_, rfl, by simpa [Wf, maxLen] using hm⟩
          · cases hx
        | slice e =>
          simp only [] at hs hf
          cases hse : shapeOf P n e with
          | none => rw [hse] at hs; cases hs
          | some s' =>
            rw [hse] at hs
            simp only [Option.map_some, Option.some.injEq] at hs; subst hs
            split at hx <;> try (simp_all; done)
            · rename_i h1
              exact ⟨[], ⟨none, 0, rfl, Nat.le_refl _, .inl rfl⟩, Nat.zero_le _, fun x hx => by cases hx⟩
            · rename_i e' a len cap h1
              rw [hu] at h1
              simp only [Option.some.injEq, TypeDesc.slice.injEq] at h1
              subst h1
              simp only [] at hx
              split at hx
              · rename_i hc
                simp only [Option.bind_eq_some_iff, Option.map_eq_some_iff] at hx
                obtain ⟨elems, he, rest, hrest, rfl⟩ := hx
                rw [List.range_eq_range'] at he
                have hbm : ∀ x ∈ elems, ∀ p ∈ x.2, p.block < w.heap.size := fun x hx p hp => hb p (by
                  simp only [List.mem_append, List.mem_flatMap]
                  exact .inr ⟨x, .inl hx, hp⟩)
                obtain ⟨ds, vs, h1, h2, h3, h4⟩ := elems_open hse hf (fun t s cs x => ihn fuel t s cs x) len 0 elems he hbm
                have hml : len ≤ 9223372036854775807 := by
                  have : maxLen = 9223372036854775807 := by decide
                  omega
                refine ⟨ds, ⟨some a, cap, by rw [h1], by rw [h1]; exact hc.2.1, ?_⟩, by rw [h1]; exact hml, h3⟩
                by_cases h0 : ds = []
                · exact .inl h0
                · obtain ⟨ab, ao, asp⟩ := a
                  have hvl := Lift.length (RelD.length NoA w s') h2
                  have hpos := Shape.size_pos s'
                  have hne : vs ≠ [] := fun e => h0 (by
                    rw [e] at hvl
                    have h2 : ds.length * s'.size = 0 := by simpa using hvl.symm
                    exact List.eq_nil_of_length_eq_zero (by rcases Nat.mul_eq_zero.1 h2 with h | h <;> omega))
                  have hspot : asp = none := by
                    cases vs with
                    | nil => exact absurd rfl hne
                    | cons v vs =>
                      have := h4 0 v rfl
                      unfold World.cell? at this
                      simp only [Nat.zero_mul, Nat.add_zero, Addr.add, if_true] at this
                      split at this
                      · cases asp with
                        | none => rfl
                        | some _ => simp at this
                      · cases this
                  subst hspot
                  have hcells : CellsAt w ab ao vs := fun j v hj => by
                    have := h4 j v hj
                    rw [Nat.zero_mul, Nat.zero_add, addr_add] at this
                    exact this
                  exact .inr ⟨ab, ao, vs, rfl, (fun h => h), hcells.lt hne, h2, hcells⟩
              · cases hx
        | struct fs =>
          simp only [] at hs hf
          simp only [Bool.and_eq_true] at hf
          split at hx <;> try (simp_all; done)
          rename_i fs' h1
          rw [hu] at h1
          simp only [Option.some.injEq, TypeDesc.struct.injEq] at h1
          subst h1
          split at hx
          · rename_i hlen
            simp only [Option.map_eq_some_iff] at hx
            obtain ⟨xs, hxs, rfl⟩ := hx
            have hsz := hf.2
            rw [show shapeOf P (n + 1) t = some s from by unfold shapeOf; rw [hu]; exact hs] at hsz
            have hsz := Nat.eq_of_beq_eq_true hsz
            obtain ⟨d, hd, wd⟩ := fields_open (fun t s cs x => ihn fuel t s cs x) fs.toList s 0 _ xs hs hf.1.1.1 hf.1.1.2 hf.1.2 hxs (fun x hx p hp => hb p (List.mem_flatMap.2 ⟨x, hx, hp⟩)) (by rw [hlen, hsz]; omega)
            exact ⟨d, by simpa using hd, wd⟩
          · cases hx
        | _ => simp at hs
end
end Go.Ev
