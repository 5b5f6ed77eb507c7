/- Part of a proof about the given program: EvL. -/
import Derived.Test.YtbgbplacpjcmfaaEvK
namespace Go.Ev
variable {Rt : Type}

/-! ### append -/
/-- What the second argument shows. -/
def srcL (f : Nat → Option Ob) (s : Shape) (p : PV) : Option (List (den s)) :=
  match p with
  | .lf (.sc (.string b)) => match s with
    | .int .u8 => some (b.data.toList.map fun x => (x.toNat : Int))
    | _ => none
  | .lf (.sc (.slice none 0 0)) => some []
  | .lf l => match viewL f l with
    | some ⟨s', xs⟩ => if h : s'.beq s = true then some (castD h xs) else none
    | none => none
  | _ => none

/-- The first: what it shows, and which object goes. -/
def dstL (f : Nat → Option Ob) (s : Shape) (p : PV) : Option (List (den s) × Option Nat × Option Nat) :=
  match p with
  | .lf (.sc (.slice none 0 0)) => some ([], none, some 0)
  | .lf (.slr s' o off start len none none) => match f o with
    | some (.arr true s2 xs) => if h : s2.beq s = true then cond (Nat.beq off 0 && s'.beq s) (some (((castD h xs).drop start).take len, some o, none)) none else none
    | _ => none
  | .lf (.slr s' o off start len (some c) lim) => match viewL f (.slr s' o off start len (some c) lim) with
    | some ⟨s2, xs⟩ => if h : s2.beq s = true then some (castD h xs, none, some c) else none
    | none => none
  | .lf (.sl s' xs (some c)) => if h : s'.beq s = true then some (castD h xs, none, some c) else none
  | _ => none

def evAppend (P : Program) (t tx : TypeId) (p q : PV) (f : Nat → Option Ob) (nx : Nat) (K : PV → (Nat → Option Ob) → Nat → Option Rt) : Option Rt :=
  match P.underlying t with
  | some (.slice e) => match P.info? e, shapeOf P 9 e with
    | some ie, some s => match ie.zero with
      | some z => cond (Nat.beq ie.size s.size && zeroD s z.cells.toList && Nat.ble 1 ie.bytes && (match P.underlying tx with | some (.slice _) => true | some .string => true | _ => false))
          (match dstL f s p, srcL f s q with
            | some (olds, gone, ex), some news =>
              if olds.length + news.length ≤ 140737488355328 / ie.bytes then
                (match gone, ex with
                  | some o, _ => K (.lf (.slr s nx 0 0 (olds ++ news).length none none)) (updO (updO f o none) nx (some (.arr true s (olds ++ news)))) (nx + 1)
                  | none, some c => (if c < olds.length + news.length ∨ (c = 0 ∧ olds.length = 0) then K (.lf (.slr s nx 0 0 (olds ++ news).length none none)) (updO f nx (some (.arr true s (olds ++ news)))) (nx + 1) else none)
                  | none, none => none)
              else none
            | _, _ => none) none
      | none => none
    | _, _ => none
  | _ => none

theorem bytes_lift {A : Nat → Prop} {w : World} : ∀ l : List UInt8, Lift (RelD A w (.int .u8)) (l.map fun x => (x.toNat : Int)) (l.map fun b => Value.int .u8 b.toNat)
  | [] => rfl
  | b :: l => ⟨[.int .u8 b.toNat], _, rfl, rfl, bytes_lift l⟩

theorem srcL_sound {P : Program} {tx : TypeId} (hk : (match P.underlying tx with | some (.slice _) => true | some .string => true | _ => false) = true) {f : Nat → Option Ob} {s : Shape} {p : PV} {news : List (den s)} (h : srcL f s p = some news)
    {φ : Phi} {A : Nat → Prop} {w : World} (hf : RelObs φ A w f) {v : Value} (hv : RelV φ A w p v) : ∃ ns, Lift (RelD A w s) news ns ∧ Src P s.size tx v news.length ns w := by
  have kind : (∃ e', P.underlying tx = some (.slice e')) ∨ P.underlying tx = some .string := by
    split at hk
    · rename_i e he; exact .inl ⟨e, he⟩
    · rename_i he; exact .inr he
    · cases hk
  have nilSrc : ∀ ad c, Src P s.size tx (.slice ad 0 c) 0 [] w := fun ad c => by
    refine ⟨kind, fun _ => rfl, ?_, ?_, by simp, fun _ h => by cases h⟩ <;> cases ad <;> simp [Builtin.firstCells, loadCells, loadCellsFrom]
  unfold srcL at h
  split at h
  · rename_i b
    simp only [RelV, RelL] at hv
    split at h
    · simp only [Option.some.injEq] at h
      subst h
      refine ⟨_, bytes_lift _, ?_⟩
      rw [hv]
      have hl : (b.data.toList.map fun x => (x.toNat : Int)).length = b.size := by rw [List.length_map, Array.length_toList]; rfl
      rw [hl]
      exact ⟨kind, fun _ => rfl, firstCells_string b w, firstCells_string b w.drew, by rw [List.length_map, Array.length_toList]; simp only [Shape.size, Nat.mul_one]; rfl, fun u hu => by
        obtain ⟨_, _, rfl⟩ := List.mem_map.1 hu; rfl⟩
    · cases h
  · simp only [Option.some.injEq] at h
    subst h
    simp only [RelV, RelL] at hv
    rw [hv]
    exact ⟨[], rfl, nilSrc none 0⟩
  · rename_i l _ _
    split at h
    · rename_i s' xs hview
      split at h
      · rename_i hb
        have := Shape.eq_of_beq hb
        subst this
        rw [castD_self] at h
        simp only [Option.some.injEq] at h
        subst h
        simp only [RelV] at hv
        obtain ⟨ad, c, vs, e, hle, hl, hc⟩ := viewL_sound hview hf hv
        refine ⟨vs, hl, ?_⟩
        rw [e]
        rcases hc with rfl | ⟨b, off, rfl, hc⟩
        · rw [show vs = [] from hl]; exact nilSrc ad c
        · have hcs : ∀ j u, vs[j]? = some u → w.cell? ((⟨b, off, none⟩ : Addr).add j) = some u := fun j u hj => by rw [addr_add]; exact hc j u hj
          have hln := Lift.length (RelD.length A w _) hl
          exact ⟨kind, fun _ => rfl, run_firstCells_some w _ _ _ _ _ vs hln hcs, run_firstCells_some w.drew _ _ _ _ _ vs hln (by simpa using hcs), hln, one_Lift (fun x vs hx => one_D hx) hl⟩
      · cases h
    · cases h
  · cases h

theorem exec_append {P : Program} {o : Oper} {s x : Operand} {t tx : TypeId} (ho : o.op = .call { callee := .builtin .append, args := ⟨[s, x]⟩, argTypes := ⟨[t, tx]⟩ }) {ρm : Operand → Value} {w w' : World} {v : Value}
    (h : (Builtin.append_ #[t, tx] o.type #[ρm s, ρm x]).run P w = .ok v w') : (execOp ρm o).run P w = .ok (.value v) w' := by
  unfold execOp; rw [ho]
  simp only [resolve, invoke, builtin, run_bind', run_pure, List.map_toArray, List.map_cons, List.map_nil]
  rw [h]

theorem run_append_same {P : Program} {t tx ty e : TypeId} {i : TypeInfo} (ht : P.underlying t = some (.slice e)) (hi : P.info? e = some i) (ad : Option Addr) (n c : Nat) (hnc : n ≤ c) (x : Value) {w : World} (hs : Src P i.size tx x 0 [] w) :
    (Builtin.append_ #[t, tx] ty #[.slice ad n c, x]).run P w = .ok (.slice ad n c) w := by
  have hcl := hs.cells
  rcases hs.kind with ⟨e', hk⟩ | hk <;> cases ad <;> simp [Builtin.append_, run_underlying ht, run_underlying hk, sizeOf, typeInfo, hi, hs.len, hnc, hcl, storeCells]

theorem evAppend_sound {P : Program} {o : Oper} {t tx : TypeId} {x y : Operand} (ho : o.op = .call { callee := .builtin .append, args := ⟨[x, y]⟩, argTypes := ⟨[t, tx]⟩ }) {ρ : Operand → PV} {f : Nat → Option Ob} {nx : Nat} {K : PV → (Nat → Option Ob) → Nat → Option Rt} {r : Rt}
    (h : evAppend P t tx (ρ x) (ρ y) f nx K = some r) : Memd P o ρ f nx K r := by
  have hxm : x ∈ o.op.operands := by rw [ho]; simp [Op.operands, Call.operands]
  have hym : y ∈ o.op.operands := by rw [ho]; simp [Op.operands, Call.operands]
  generalize hp : ρ x = p at h
  unfold evAppend at h
  simp only [List.length_append] at h
  split at h
  · rename_i e hu
    split at h
    · rename_i ie s hie hsh
      split at h
      · rename_i z hz
        cases hc : (Nat.beq ie.size s.size && zeroD s z.cells.toList && Nat.ble 1 ie.bytes && (match P.underlying tx with | some (.slice _) => true | some .string => true | _ => false)) with
        | false => rw [hc] at h; cases h
        | true =>
          rw [hc] at h; simp only [cond] at h
          simp only [Bool.and_eq_true] at hc
          have hsz := Nat.eq_of_beq_eq_true hc.1.1.1
          have hzl : z.cells.size = s.size := by rw [← Array.length_toList]; exact zeroD_len hc.1.1.2
          have hb1 := Nat.le_of_ble_eq_true hc.1.2
          have hkind := hc.2
          split at h
          · rename_i olds gone ex news hd hsrc
            split at h
            · rename_i hlim
              have hbytes : (olds.length + news.length) * ie.bytes ≤ 140737488355328 := Nat.le_trans (Nat.mul_le_mul_right _ hlim) (Nat.div_mul_le_self _ _)
              have hn48 : olds.length + news.length ≤ 140737488355328 := Nat.le_trans (Nat.le_mul_of_pos_right _ hb1) hbytes
              -- a new row, whatever the first argument was
              have grow : ∀ {E : Env} {φ : Phi} {A : Nat → Prop} {w : World} {ρm : Operand → Value}, ROb E φ A f nx w → Frm E A w → ∀ {ad : Option Addr} {sCap : Nat} {os ns : List Value}, ρm x = .slice ad olds.length sCap → Lift (RelD A w s) olds os → Lift (RelD A w s) news ns →
                  (Builtin.firstCells ie.size olds.length (.slice ad olds.length sCap)).run P w.drew = .ok os.toArray w.drew → Src P ie.size tx (ρm y) news.length ns w → sCap < olds.length + news.length →
                  ∃ φ' A' w' nxt, (execOp ρm o).run P w = .ok nxt w' ∧ Step E φ φ' A A' w w' (updO f nx (some (.arr true s (olds ++ news)))) (nx + 1) ∧ ((∃ mv, nxt = .value mv ∧ RelV φ' A' w' (.lf (.slr s nx 0 0 (olds.length + news.length) none none)) mv) ∨ (nxt = .skip ∧ PV.lf (.slr s nx 0 0 (olds.length + news.length) none none) = anyV)) :=
                fun {E φ A w ρm} hR hF {ad sCap os ns} hx hlo hln hfc hS hlt => by
                  have hrun := run_append_grow_src (P := P) w t tx o.type e ie z hu hie hz ad olds.length sCap os hfc (ρm y) news.length ns hS hlt (by omega) (growslice_fits hlt hbytes)
                  have hge := grownCap_ge w (olds.length + news.length) sCap e
                  have hL := Lift.append hlo hln
                  have hlen := Lift.length (RelD.length A w s) hL
                  rw [List.length_append (as := olds)] at hlen
                  obtain ⟨φ', A', hs, hv⟩ := newArr_step hR hF w.drew rfl ⟨rfl, rfl, rfl⟩ hL ((os ++ ns).toArray ++ Builtin.zeroCells z.cells (grownCap w (olds.length + news.length) sCap e - (olds.length + news.length))) e (0, 0) (thawed_zero _) (cap := grownCap w (olds.length + news.length) sCap e)
                    (by rw [List.length_append]; exact hge) (by
                      rw [Array.size_append, size_zeroCells, hzl, List.size_toArray, hlen, ← Nat.add_mul, Nat.add_sub_cancel' hge]
                      exact Nat.le_refl _) (fun j v hj => by
                      have hjl := (List.getElem?_eq_some_iff.1 hj).1
                      rw [Array.getElem?_append_left (by simpa using hjl)]; simpa using hj)
                  rw [List.length_append] at hv
                  exact ⟨φ', A', _, _, exec_append ho (by rw [hx]; exact hrun), hs, .inl ⟨_, rfl, hv⟩⟩
              -- nothing is appended to nothing
              have nothing : ∀ {E : Env} {φ : Phi} {A : Nat → Prop} {w : World} {ρm : Operand → Value} {f' : Nat → Option Ob}, ROb E φ A f' nx w → Frm E A w → ∀ {ad : Option Addr} {ns : List Value}, ρm x = .slice ad 0 0 → olds = [] → news = [] → Lift (RelD A w s) news ns → Src P ie.size tx (ρm y) news.length ns w →
                  ∃ φ' A' w' nxt, (execOp ρm o).run P w = .ok nxt w' ∧ Step E φ φ' A A' w w' (updO f' nx (some (.arr true s (olds ++ news)))) (nx + 1) ∧ ((∃ mv, nxt = .value mv ∧ RelV φ' A' w' (.lf (.slr s nx 0 0 (olds.length + news.length) none none)) mv) ∨ (nxt = .skip ∧ PV.lf (.slr s nx 0 0 (olds.length + news.length) none none) = anyV)) :=
                fun {E φ A w ρm f'} hR hF {ad ns} hx ho0 hn0 hln hS => by
                  subst ho0; subst hn0
                  have hns : ns = [] := hln
                  subst hns
                  have hrun := run_append_same (P := P) (ty := o.type) hu hie ad 0 0 (Nat.le_refl _) (ρm y) hS
                  have hext : Ext φ (updP φ nx ⟨0, 0, 0, 0⟩) A A w w := ⟨fun i c hc => by
                    unfold updP
                    by_cases e : i = nx
                    · rw [e, hR.nx nx (Nat.le_refl _)] at hc; cases hc
                    · rw [if_neg e]; exact hc, Nat.le_refl _, fun _ _ h => h, fun _ _ _ => rfl⟩
                  refine ⟨updP φ nx ⟨0, 0, 0, 0⟩, A, w, _, exec_append ho (by rw [hx]; exact hrun), ⟨hext, ?_, hF⟩, .inl ⟨_, rfl, ?_⟩⟩
                  · refine ROb.special hR hext (fun i hi => ?_) nx _ ⟨0, 0, 0, 0⟩ (updO_same ..) (by simp [updP]) ⟨rfl, Nat.le_refl _, [], rfl, .inl rfl⟩ (fun h => absurd rfl h.2) (fun i y hi hy => by rwa [updO_ne _ _ hi] at hy) (fun i y c hi hy hc hO => ?_)
                    · unfold updP; rw [if_neg (by omega)]; exact hR.nx i (by omega)
                    · rw [updO_ne _ _ hi] at hy
                      exact ⟨(hR.lt hy hc hO).2, rfl, fun h => absurd rfl h.2⟩
                  · simp only [RelV, RelL]
                    exact ⟨⟨0, 0, 0, 0⟩, by simp [updP], ad, 0, rfl, Nat.le_refl _, rfl, Nat.le_refl _, .inl ⟨rfl, rfl⟩⟩
              -- an exact capacity
              have exact_ : ∀ c, dstL f s p = some (olds, none, some c) → (c = 0 ∧ olds.length = 0 ∨ c < olds.length + news.length) → MemSem P o ρ f nx (.lf (.slr s nx 0 0 (olds.length + news.length) none none)) (updO f nx (some (.arr true s (olds ++ news)))) (nx + 1) :=
                fun c hd2 hcase E φ A w ρm hR hF hr => by
                  have hx := hr x hxm; have hy := hr y hym
                  have hobs : RelObs φ A w f := fun o x hx => by obtain ⟨b, h1, h2, _⟩ := hR.ob o x hx; exact ⟨b, h1, h2⟩
                  rw [hp] at hx
                  obtain ⟨ns, hln, hS⟩ := srcL_sound hkind hsrc hobs hy
                  rw [← hsz] at hS
                  -- what the first argument shows
                  have hshow : ∃ ad os, ρm x = .slice ad olds.length c ∧ olds.length ≤ c ∧ Lift (RelD A w s) olds os ∧ (Builtin.firstCells ie.size olds.length (.slice ad olds.length c)).run P w.drew = .ok os.toArray w.drew := by
                    have ofView : ∀ {ad : Option Addr} {vs : List Value}, Lift (RelD A w s) olds vs → (olds = [] ∨ ∃ b off, ad = some ⟨b, off, none⟩ ∧ CellsAt w b off vs) → (Builtin.firstCells ie.size olds.length (.slice ad olds.length c)).run P w.drew = .ok vs.toArray w.drew := fun {ad vs} hl hc => by
                      rcases hc with h0 | ⟨b, off, rfl, hc⟩
                      · rw [h0] at hl ⊢
                        rw [show vs = [] from hl]
                        cases ad <;> simp [Builtin.firstCells, loadCells, loadCellsFrom]
                      · exact run_firstCells_some w.drew _ _ _ _ _ vs (by rw [hsz]; exact Lift.length (RelD.length A w s) hl) (fun j u hj => by rw [addr_add]; exact hc j u hj)
                    unfold dstL at hd2
                    split at hd2
                    · simp only [Option.some.injEq, Prod.mk.injEq] at hd2
                      obtain ⟨h1, _, h2⟩ := hd2
                      simp only [RelV, RelL] at hx
                      subst h1; subst h2
                      exact ⟨none, [], hx, Nat.le_refl _, rfl, by simp [Builtin.firstCells]⟩
                    · split at hd2
                      · split at hd2
                        · rename_i s' o' off start len _ _ _ _ _
                          cases hq : (Nat.beq off 0 && s'.beq s) with
                          | false => rw [hq] at hd2; cases hd2
                          | true => rw [hq] at hd2; simp [cond] at hd2
                        · cases hd2
                      · cases hd2
                    · rename_i s' o' off start len c' lim
                      split at hd2
                      · rename_i s2 xs hview
                        split at hd2
                        · rename_i hb
                          have := Shape.eq_of_beq hb
                          subst this
                          rw [castD_self] at hd2
                          simp only [Option.some.injEq, Prod.mk.injEq] at hd2
                          obtain ⟨h1, _, h2⟩ := hd2
                          subst h1; subst h2
                          simp only [RelV] at hx
                          obtain ⟨ad, c2, vs, e, hle, hl, hc⟩ := viewL_sound hview hobs hx
                          have hcc : c2 = c' := by
                            simp only [RelL] at hx
                            obtain ⟨b, _, ad', c3, e', _, h3, _⟩ := hx
                            rw [e] at e'
                            injection e' with _ _ h4
                            omega
                          subst hcc
                          exact ⟨ad, vs, e, hle, hl, ofView hl hc⟩
                        · cases hd2
                      · cases hd2
                    · rename_i s' xs c'
                      split at hd2
                      · rename_i hb
                        have := Shape.eq_of_beq hb
                        subst this
                        rw [castD_self] at hd2
                        simp only [Option.some.injEq, Prod.mk.injEq] at hd2
                        obtain ⟨h1, _, h2⟩ := hd2
                        subst h1; subst h2
                        simp only [RelV] at hx
                        obtain ⟨ad, c2, vs, e, hle, hl, hc⟩ := viewL_sound (f := f) rfl hobs hx
                        have hcc : c2 = c' := by
                          simp only [RelL] at hx
                          obtain ⟨ad', c3, e', h3, _⟩ := hx
                          rw [e] at e'
                          injection e' with _ _ h4
                          have := h3 c' rfl
                          omega
                        subst hcc
                        exact ⟨ad, vs, e, hle, hl, ofView hl hc⟩
                      · cases hd2
                    · cases hd2
                  obtain ⟨ad, os, e, hle, hlo, hfc⟩ := hshow
                  by_cases hlt : c < olds.length + news.length
                  · exact grow hR hF e hlo hln hfc hS hlt
                  · rcases hcase with ⟨h1, h2⟩ | h1
                    · subst h1
                      have ho0 : olds = [] := List.eq_nil_of_length_eq_zero h2
                      have hn0 : news = [] := List.eq_nil_of_length_eq_zero (by omega)
                      exact nothing hR hF (ad := ad) (by rw [e, ho0]; rfl) ho0 hn0 hln hS
                    · exact absurd h1 hlt
              split at h
              · rename_i _ o'
                refine ⟨_, _, _, h, fun E φ A w ρm hR hF hr => ?_⟩
                have hx := hr x hxm; have hy := hr y hym
                have hobs : RelObs φ A w f := fun o x hx => by obtain ⟨b, h1, h2, _⟩ := hR.ob o x hx; exact ⟨b, h1, h2⟩
                rw [hp] at hx
                obtain ⟨ns, hln, hS⟩ := srcL_sound hkind hsrc hobs hy
                rw [← hsz] at hS
                unfold dstL at hd
                split at hd
                · simp at hd
                · rename_i s' o2 off start len
                  split at hd
                  · rename_i s2 xs hfo
                    split at hd
                    · rename_i hb
                      have := Shape.eq_of_beq hb
                      subst this
                      rw [castD_self] at hd
                      cases hq : (Nat.beq off 0 && s'.beq s2) with
                      | false => rw [hq] at hd; cases hd
                      | true =>
                        rw [hq] at hd; simp only [cond, Option.some.injEq, Prod.mk.injEq] at hd
                        simp only [Bool.and_eq_true] at hq
                        have h0 := Nat.eq_of_beq_eq_true hq.1
                        have := Shape.eq_of_beq hq.2
                        subst this
                        subst h0
                        obtain ⟨h1, h2, _⟩ := hd
                        subst h2
                        simp only [RelV, RelL] at hx
                        obtain ⟨b, hb, ad, c, ev, hle, hcap, hlim2, had⟩ := hx
                        obtain ⟨b', hb', hrel, hreg⟩ := hR.ob _ _ hfo
                        rw [hb] at hb'; simp only [Option.some.injEq] at hb'; subst hb'
                        simp only [RelOb] at hrel
                        obtain ⟨hbl, hbc, vs, hl, hh⟩ := hrel
                        have holen : olds.length = len := by rw [← h1]; simp only [List.length_take, List.length_drop]; omega
                        have hdt : olds = (xs.take (start + len)).drop start := by rw [← h1, List.drop_take, Nat.add_sub_cancel_left]
                        obtain ⟨v1, v2, v3, evs, hl1, hl2⟩ := Lift.sub (RelD.length A w _) hl (l := start) (k := start + len) (by omega) (by omega)
                        rw [← hdt] at hl2
                        have hv2 := Lift.length (RelD.length A w _) hl2
                        rw [← holen] at ev hle
                        -- the row's own place, if it has one
                        by_cases hempty : c = 0 ∧ len = 0
                        · -- it has none: it is as nil
                          have ho0 : olds = [] := List.eq_nil_of_length_eq_zero (by omega)
                          have hR' : ROb E φ A (updO f o2 none) nx w := hR.drop _ (fun i y hy => by
                            by_cases e : i = o2
                            · rw [e, updO_same] at hy; cases hy
                            · rwa [updO_ne _ _ e] at hy)
                          by_cases hn0 : news = []
                          · exact nothing hR' hF (ad := ad) (by rw [ev, ho0, hempty.1]; rfl) ho0 hn0 hln hS
                          · have hv20 : v2 = [] := by rw [ho0] at hl2; exact hl2
                            obtain ⟨φ', A', w', nxt, h1, h2, h3⟩ := grow hR hF ev hl2 hln (by rw [ho0, hv20]; cases ad <;> simp [Builtin.firstCells, loadCells, loadCellsFrom]) hS (by
                              have : news.length ≠ 0 := fun h => hn0 (List.eq_nil_of_length_eq_zero h)
                              omega)
                            refine ⟨φ', A', w', nxt, h1, ⟨h2.ext, ?_, h2.frm⟩, h3⟩
                            refine h2.obs.drop _ (fun i y hy => ?_)
                            have hnx := hR.dom hfo
                            by_cases e : i = nx
                            · subst e; rwa [updO_same] at hy ⊢
                            · rw [updO_ne _ _ e] at hy ⊢
                              by_cases e' : i = o2
                              · rw [e', updO_same] at hy; cases hy
                              · rwa [updO_ne _ _ e'] at hy
                        · have had' : ad = some ⟨b.blk, b.base + 0 + start * s'.size, none⟩ := by
                            rcases had with h | h
                            · exact absurd h hempty
                            · exact h
                          have hh' : Held true A w b.blk b.base vs (b.cap * s'.size) := by
                            rcases hh with hh | hh
                            · omega
                            · exact hh
                          have hO : Owns b (.arr true s' xs) := ⟨rfl, by omega⟩
                          have hcells : CellsAt w b.blk (b.base + start * s'.size) v2 := by
                            have := hh'.cells
                            rw [evs] at this
                            have := this.sub
                            rwa [hl1] at this
                          by_cases hroom : olds.length + news.length ≤ c
                          · -- in place
                            have hh0 := hh'
                            obtain ⟨hblt, hAb, cs, e0, fz, c1, c2, c3, c4⟩ := hh'
                            have hnl := hS.newsLen
                            rw [hsz] at hnl
                            have hcs : (start + olds.length) * s'.size + news.length * s'.size ≤ b.cap * s'.size := by
                              rw [← Nat.add_mul]; exact Nat.mul_le_mul_right _ (by omega)
                            have hpos : b.base + 0 + start * s'.size + olds.length * ie.size = b.base + (start + olds.length) * s'.size := by
                              rw [hsz, Nat.add_zero, Nat.add_mul, Nat.add_assoc]
                            have hcell : ∀ j, j < cs.size → w.cell? ⟨b.blk, j, none⟩ = cs[j]? := fun j hj => by
                              unfold World.cell?; simp only [c1]; rfl
                            have hrun := run_append_room_src (P := P) w t tx o.type e ie hu hie b.blk (b.base + 0 + start * s'.size) olds.length c (ρm y) news.length ns hS hroom (fun j hj => by
                                rw [hpos, hcell _ (by omega), Array.getElem?_eq_getElem (by omega)]; rfl)
                              (fun j hj => by
                                rw [hpos]
                                unfold World.frozen?; simp only [c1]
                                have := c2.no (b.base + (start + olds.length) * s'.size + j) (by omega)
                                cases hdq : (decide (fz.1 ≤ b.base + (start + olds.length) * s'.size + j) && decide (b.base + (start + olds.length) * s'.size + j < fz.2)) with
                                | false => rfl
                                | true => simp only [Bool.and_eq_true, decide_eq_true_eq] at hdq; exact absurd hdq this)
                            rw [hpos] at hrun
                            obtain ⟨cs', hcs', hcl'⟩ := setCells_heap b.blk ns (b.base + (start + olds.length) * s'.size) w c1 (by omega)
                            have hcsz : cs'.size = cs.size := by
                              rw [← Array.length_toList, hcl']; simp only [List.length_append, List.length_take, List.length_drop, Array.length_toList]; omega
                            have hstep := step_take hR hF (x' := .arr true s' (olds ++ news)) (b' := ⟨b.blk, b.base + start * s'.size, olds.length + news.length, c⟩) hfo hb hO rfl (setCells_size b.blk ns (b.base + (start + olds.length) * s'.size) w) (fun k hk => setCells_other _ _ _ _ hk) (setCells_rest ..) (fun hext => by
                              refine ⟨by rw [List.length_append], by rw [List.length_append]; exact hroom, v2 ++ ns, (Lift.append hl2 hln).mono (fun y v hy => RelD.ext hext _ y v hy), .inr ⟨by rw [setCells_size]; exact hblt, hAb, cs', e0, fz, hcs', by rw [hcsz]; exact c2, ?_, fun j v hj => ?_⟩⟩
                              · have : start * s'.size + c * s'.size = b.cap * s'.size := by rw [← Nat.add_mul]; congr 1; omega
                                simp only []; omega
                              · have hg : cs'[b.base + start * s'.size + j]? = cs'.toList[b.base + start * s'.size + j]? := by simp
                                rw [hg, hcl']
                                have hmul : (start + olds.length) * s'.size = start * s'.size + olds.length * s'.size := Nat.add_mul ..
                                have hstart : start * s'.size ≤ b.cap * s'.size := Nat.mul_le_mul_right _ (by omega)
                                rcases Nat.lt_or_ge j v2.length with hj2 | hj2
                                · rw [List.getElem?_append_left hj2] at hj
                                  rw [List.getElem?_append_left (by simp; omega), List.getElem?_take, if_pos (by omega)]
                                  have hv := c4 (start * s'.size + j) v (by
                                    rw [evs, List.append_assoc, List.getElem?_append_right (by omega), hl1, Nat.add_sub_cancel_left, List.getElem?_append_left hj2]; exact hj)
                                  rw [← Nat.add_assoc] at hv
                                  simpa using hv
                                · rw [List.getElem?_append_right hj2] at hj
                                  rw [List.getElem?_append_right (by simp; omega)]
                                  have hjn := (List.getElem?_eq_some_iff.1 hj).1
                                  simp only [List.length_take, Array.length_toList]
                                  rw [Nat.min_eq_left (by omega), List.getElem?_append_left (by omega), show b.base + start * s'.size + j - (b.base + (start + olds.length) * s'.size) = j - v2.length by omega]
                                  exact hj)
                            refine ⟨_, A, _, _, exec_append ho (by rw [ev, had']; exact hrun), hstep, .inl ⟨_, rfl, ?_⟩⟩
                            simp only [RelV, RelL]
                            refine ⟨⟨b.blk, b.base + start * s'.size, olds.length + news.length, c⟩, by simp [updP], _, _, rfl, hroom, rfl, by simp, .inr (by simp)⟩
                          · -- no room
                            obtain ⟨φ', A', w', nxt, h1, h2, h3⟩ := grow hR hF ev hl2 hln (by
                              rw [had']
                              exact run_firstCells_some w.drew _ _ _ _ _ v2 (by rw [hsz]; exact hv2) (fun j u hj => by rw [addr_add]; exact hcells j u hj)) hS (by omega)
                            refine ⟨φ', A', w', nxt, h1, ⟨h2.ext, ?_, h2.frm⟩, h3⟩
                            refine h2.obs.drop _ (fun i y hy => ?_)
                            by_cases e : i = nx
                            · subst e; rwa [updO_same] at hy ⊢
                            · rw [updO_ne _ _ e] at hy ⊢
                              by_cases e' : i = o2
                              · rw [e', updO_same] at hy; cases hy
                              · rwa [updO_ne _ _ e'] at hy
                    · cases hd
                  · cases hd
                · split at hd
                  · split at hd
                    · simp at hd
                    · cases hd
                  · cases hd
                · split at hd
                  · simp at hd
                  · cases hd
                · cases hd
              · rename_i c
                split at h
                · rename_i hlt
                  exact ⟨_, _, _, h, exact_ c hd (hlt.symm)⟩
                · cases h
              · cases h
            · cases h
          · cases h
      · cases h
    · cases h
  · cases h
end Go.Ev
