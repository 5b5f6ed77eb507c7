/- Part of a proof about the given program: EvL3. -/
import Derived.Test.YtbgbplacpjcmfaaEvL
namespace Go.Ev
variable {Rt : Type}

/-! # copy into a row of one's own -/
def evCopy (P : Program) (t : TypeId) (p q : PV) (f : Nat → Option Ob) (nx : Nat) (K : PV → (Nat → Option Ob) → Nat → Option Rt) : Option Rt :=
  match p, q with
  | .lf (.slr s o 0 start len _ none), .lf l => match P.underlying t with
    | some (.slice e) => match P.info? e, f o, viewL f l with
      | some ie, some (.arr true s' xs), some ⟨s2, ys⟩ => if h : s2.beq s' = true then
          cond (Nat.beq ie.size s'.size && s'.beq s)
            (if Nat.min ys.length len = 0 then K (sc (.int .i64 0)) f nx
             else K (sc (.int .i64 ((Nat.min ys.length len : Nat) : Int))) (updO f o (some (.arr true s' (xs.take start ++ ((castD h ys).take (Nat.min ys.length len) ++ xs.drop (start + Nat.min ys.length len)))))) nx) none
        else none
      | _, _, _ => none
    | _ => none
  | _, _ => none

theorem exec_copy {P : Program} {o : Oper} {s x : Operand} {ats : Array TypeId} (ho : o.op = .call { callee := .builtin .copy, args := ⟨[s, x]⟩, argTypes := ats }) {ρm : Operand → Value} {w w' : World} {v : Value}
    (h : (Builtin.copy_ ats o.type #[ρm s, ρm x]).run P w = .ok v w') : (execOp ρm o).run P w = .ok (.value v) w' := by
  unfold execOp; rw [ho]
  simp only [resolve, invoke, builtin, run_bind', run_pure, List.map_toArray, List.map_cons, List.map_nil]
  rw [h]

theorem run_copyHeld {P : Program} {t tx ty e : TypeId} {i : TypeInfo} (ht : P.underlying t = some (.slice e)) (hi : P.info? e = some i) {w : World} {b pos dLen dCap : Nat} {ad : Option Addr} {n c : Nat} {cs : List Value} {cur : Array Value} {ce : TypeId} {fz : Nat × Nat}
    (hb : w.heap[b]? = some (.cells cur ce fz)) (hz : Thawed cur.size fz) (hcs : (Builtin.firstCells i.size (Nat.min n dLen) (.slice ad n c)).run P w = .ok cs.toArray w) (hin : pos + cs.length ≤ cur.size) (h1 : ∀ u ∈ cs, u.oneCell' = true) :
    (Builtin.copy_ #[t, tx] ty #[.slice (some ⟨b, pos, none⟩) dLen dCap, .slice ad n c]).run P w = .ok (goInt (Nat.min n dLen)) (w.setCells b pos cs) := by
  have hcell : ∀ j, j < cur.size → w.cell? ⟨b, j, none⟩ = cur[j]? := fun j hj => by
    unfold World.cell?; simp only [hb]; rfl
  have hst := run_storeCells_cells (P := P) b pos cs 0 w (fun j hj => by
      rw [hcell _ (by omega), Array.getElem?_eq_getElem (by omega)]; rfl)
    (fun j hj => by
      unfold World.frozen?; simp only [hb]
      have := hz.no (pos + 0 + j) (by omega)
      cases hd : (decide (fz.1 ≤ pos + 0 + j) && decide (pos + 0 + j < fz.2)) with
      | false => rfl
      | true => simp only [Bool.and_eq_true, decide_eq_true_eq] at hd; exact absurd hd this) h1
  rw [Nat.add_zero] at hst
  simp [Builtin.copy_, run_und ht, Builtin.lenOf, run_size hi, hcs, hst]

theorem run_copyNone {P : Program} {t tx ty e : TypeId} {i : TypeInfo} (ht : P.underlying t = some (.slice e)) (hi : P.info? e = some i) {w : World} {dLen dCap : Nat} {ad ad' : Option Addr} {n c : Nat} (hn : Nat.min n dLen = 0) :
    (Builtin.copy_ #[t, tx] ty #[.slice ad' dLen dCap, .slice ad n c]).run P w = .ok (goInt 0) w := by
  cases ad' <;> cases ad <;> simp [Builtin.copy_, run_und ht, Builtin.lenOf, run_size hi, hn, Builtin.firstCells, loadCells, loadCellsFrom, storeCells]

theorem lift_take {α : Type} {R : α → List Value → Prop} {n : Nat} (hR : ∀ x v, R x v → v.length = n) {xs : List α} {vs : List Value} (h : Lift R xs vs) {k : Nat} (hk : k ≤ xs.length) : Lift R (xs.take k) (vs.take (k * n)) ∧ Lift R (xs.drop k) (vs.drop (k * n)) := by
  rw [← List.take_append_drop k xs] at h
  obtain ⟨v1, v2, e, h1, h2⟩ := Lift.split h
  have hl := Lift.length hR h1
  rw [List.length_take, Nat.min_eq_left hk] at hl
  subst e
  rw [List.take_left' hl, List.drop_left' hl]
  exact ⟨h1, h2⟩

theorem evCopy_sound {P : Program} {o : Oper} {t tx : TypeId} {x y : Operand} (ho : o.op = .call { callee := .builtin .copy, args := ⟨[x, y]⟩, argTypes := ⟨[t, tx]⟩ }) {ρ : Operand → PV} {f : Nat → Option Ob} {nx : Nat} {K : PV → (Nat → Option Ob) → Nat → Option Rt} {r : Rt}
    (h : evCopy P t (ρ x) (ρ y) f nx K = some r) : Memd P o ρ f nx K r := by
  have hxm : x ∈ o.op.operands := by rw [ho]; simp [Op.operands, Call.operands]
  have hym : y ∈ o.op.operands := by rw [ho]; simp [Op.operands, Call.operands]
  generalize hp : ρ x = p at h
  generalize hq : ρ y = q at h
  unfold evCopy at h
  split at h
  · rename_i s o' start len cp l
    split at h
    · rename_i e hu
      split at h
      · rename_i ie s' xs s2 ys hie hfo hview
        split at h
        · rename_i hb2
          have e2 := Shape.eq_of_beq hb2
          subst e2
          rw [castD_self] at h
          cases hc : (Nat.beq ie.size s2.size && s2.beq s) with
          | false => rw [hc] at h; cases h
          | true =>
            rw [hc] at h; simp only [cond] at h
            simp only [Bool.and_eq_true] at hc
            have hsz := Nat.eq_of_beq_eq_true hc.1
            have e3 := Shape.eq_of_beq hc.2
            subst e3
            split at h
            · rename_i h0
              refine ⟨_, _, _, h, fun E φ A w ρm hR hF hr => ?_⟩
              have hx := hr x hxm
              have hy := hr y hym
              rw [hp] at hx; rw [hq] at hy
              simp only [RelV, RelL] at hx
              simp only [RelV] at hy
              obtain ⟨b, hb, ad, c, ex, _⟩ := hx
              obtain ⟨ad2, c2, vs2, ey, _⟩ := viewL_sound hview (fun o x hx => by obtain ⟨b, h1, h2, _⟩ := hR.ob o x hx; exact ⟨b, h1, h2⟩) hy
              refine ⟨φ, A, w, _, exec_copy ho (v := .int .i64 0) ?_, ⟨Ext.refl φ A w, hR, hF⟩, .inl ⟨_, rfl, RelV_sc ..⟩⟩
              rw [ex, ey]
              exact run_copyNone hu hie h0
            · rename_i h0
              refine ⟨_, _, _, h, fun E φ A w ρm hR hF hr => ?_⟩
              have hx := hr x hxm
              have hy := hr y hym
              rw [hp] at hx; rw [hq] at hy
              simp only [RelV, RelL] at hx
              simp only [RelV] at hy
              obtain ⟨b, hb, ad, c, ex, hlc, hcap, hlim, had⟩ := hx
              obtain ⟨ad2, c2, vs2, ey, hle2, hl2, hc2⟩ := viewL_sound hview (fun o x hx => by obtain ⟨b, h1, h2, _⟩ := hR.ob o x hx; exact ⟨b, h1, h2⟩) hy
              obtain ⟨b', hb', hrel, hreg⟩ := hR.ob _ _ hfo
              rw [hb] at hb'; simp only [Option.some.injEq] at hb'; subst hb'
              simp only [RelOb] at hrel
              obtain ⟨hlen, hcp, vs, hl, hh⟩ := hrel
              generalize hk : Nat.min ys.length len = k at h0 ⊢
              have hk1 : k ≤ ys.length := by rw [← hk]; exact Nat.min_le_left _ _
              have hk2 : k ≤ len := by rw [← hk]; exact Nat.min_le_right _ _
              have hlim' : start + len ≤ xs.length := by rw [← hlen]; exact hlim
              rcases hh with hh | hh
              · omega
              · rcases had with ⟨_, hz⟩ | had
                · omega
                · have hvl : vs.length = xs.length * s2.size := Lift.length (RelD.length A w s2) hl
                  have hul : vs2.length = ys.length * s2.size := Lift.length (RelD.length A w s2) hl2
                  obtain ⟨t1, t2⟩ := lift_take (RelD.length A w s2) hl (k := start) (by omega)
                  obtain ⟨_, t4⟩ := lift_take (RelD.length A w s2) hl (k := start + k) (by omega)
                  obtain ⟨t5, _⟩ := lift_take (RelD.length A w s2) hl2 hk1
                  have hkl : (vs2.take (k * s2.size)).length = k * s2.size := by
                    rw [List.length_take, hul]; exact Nat.min_eq_left (Nat.mul_le_mul_right _ hk1)
                  have hmul : start * s2.size + k * s2.size ≤ xs.length * s2.size := by rw [← Nat.add_mul]; exact Nat.mul_le_mul_right _ (by omega)
                  have hcm : xs.length * s2.size ≤ b.cap * s2.size := Nat.mul_le_mul_right _ hcp
                  have hw := held_write hh (by omega) (pos := start * s2.size) (ns := vs2.take (k * s2.size)) (by rw [hkl]; omega) (A' := A) hh.2.1
                  obtain ⟨hblt, hAb, cc, ce, fz, h1, h2, h3, h4⟩ := hh
                  have hone : ∀ u ∈ vs2.take (k * s2.size), u.oneCell' = true := one_Lift (fun x vs hx => one_D hx) t5
                  have hsrc : (Builtin.firstCells ie.size (Nat.min ys.length len) (.slice ad2 ys.length c2)).run P w = .ok (vs2.take (k * s2.size)).toArray w := by
                    rw [hk]
                    rcases hc2 with hnil | ⟨b2, off2, rfl, hcells⟩
                    · rw [hnil] at hk1; simp at hk1; omega
                    · refine run_firstCells_some w _ _ _ _ _ _ (by rw [hkl, hsz]) (fun j u hj => ?_)
                      rw [addr_add]
                      rw [List.getElem?_take] at hj
                      split at hj
                      · exact hcells j u hj
                      · cases hj
                  have hrun := run_copyHeld (P := P) (tx := tx) (ty := o.type) hu hie (pos := b.base + start * s2.size) (dLen := len) (dCap := c) h1 h2 hsrc (by rw [hkl]; omega) hone
                  rw [hk] at hrun
                  refine ⟨φ, A, w.setCells b.blk (b.base + start * s2.size) (vs2.take (k * s2.size)), .value (goInt k), exec_copy ho (v := goInt k) ?_, ?_, .inl ⟨_, rfl, RelV_sc ..⟩⟩
                  · rw [ex, ey, had]
                    exact hrun
                  · refine step_write hR hF hfo hb ⟨rfl, by omega⟩ (setCells_size ..) (fun k hk => setCells_other _ _ _ _ hk) (setCells_rest ..) (fun hext => ?_)
                    simp only [RelOb]
                    have hnl : (xs.take start ++ (ys.take k ++ xs.drop (start + k))).length = xs.length := by
                      simp only [List.length_append, List.length_take, List.length_drop]; omega
                    refine ⟨by rw [hnl]; exact hlen, by rw [hnl]; exact hcp, _, Lift.mono (fun y v hy => RelD.ext hext s2 y v hy) (Lift.append t1 (Lift.append t5 t4)), .inr ?_⟩
                    rw [hkl] at hw
                    rw [Nat.add_mul]
                    exact hw
        · cases h
      · cases h
    · cases h
  · cases h
end Go.Ev
