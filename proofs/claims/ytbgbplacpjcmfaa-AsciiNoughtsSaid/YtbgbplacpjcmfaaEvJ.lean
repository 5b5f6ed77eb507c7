/- Part of a proof about the given program: EvJ. -/
import Derived.Test.YtbgbplacpjcmfaaEvI
namespace Go.Ev
variable {Rt : Type}

/-! ### stores -/
def okG : List Seg → Bool
  | [] => true
  | .lf l :: g => leafOk l && okG g
  | .many .. :: g => okG g

theorem one_leaf {φ : Phi} {A : Nat → Prop} {w : World} {l : Lf} {v : Value} (h : leafOk l = true) (hr : RelL φ A w l v) : v.oneCell' = true := by
  cases l <;> simp only [leafOk] at h <;> simp only [RelL] at hr
  case any => cases h
  case anyb => obtain ⟨b, e⟩ := hr; rw [e]; rfl
  case sc u => subst hr; cases v <;> first | rfl | cases h
  case ptr => obtain ⟨b, _, e, _⟩ := hr; rw [e]; rfl
  case sl => obtain ⟨a, c, e, _⟩ := hr; rw [e]; rfl
  case dp => obtain ⟨b, o, vs, e, _⟩ := hr; rw [e]; rfl
  case slr => obtain ⟨b, _, a, c, e, _⟩ := hr; rw [e]; rfl
  case fnc => obtain ⟨vs, e, _⟩ := hr; rw [e]; rfl
  case ifc => obtain ⟨u, e, _⟩ := hr; rw [e]; rfl
  case mp => obtain ⟨b, _, e⟩ := hr; rw [e]; rfl

theorem one_D {A : Nat → Prop} {w : World} : ∀ {s : Shape} {d : den s} {vs : List Value}, RelD A w s d vs → ∀ v ∈ vs, v.oneCell' = true
  | .int _, _, _, h, v, hv => by rw [show _ = _ from h] at hv; simp only [List.mem_singleton] at hv; rw [hv]; rfl
  | .bool, _, _, h, v, hv => by rw [show _ = _ from h] at hv; simp only [List.mem_singleton] at hv; rw [hv]; rfl
  | .str, _, _, h, v, hv => by rw [show _ = _ from h] at hv; simp only [List.mem_singleton] at hv; rw [hv]; rfl
  | .pair a b, d, _, ⟨v1, v2, e, h1, h2⟩, v, hv => by
    rw [e, List.mem_append] at hv
    rcases hv with hv | hv
    · exact one_D h1 v hv
    · exact one_D h2 v hv
  | .slice a, _, _, ⟨ad, c, e, _, _⟩, v, hv => by rw [e] at hv; simp only [List.mem_singleton] at hv; rw [hv]; rfl

theorem one_Lift {α : Type} {R : α → List Value → Prop} (hR : ∀ x vs, R x vs → ∀ v ∈ vs, v.oneCell' = true) : ∀ {xs : List α} {vs : List Value}, Lift R xs vs → ∀ v ∈ vs, v.oneCell' = true
  | [], _, h, v, hv => by rw [show _ = _ from h] at hv; cases hv
  | _ :: _, _, ⟨v1, v2, e, h1, h2⟩, v, hv => by
    rw [e, List.mem_append] at hv
    rcases hv with hv | hv
    · exact hR _ _ h1 v hv
    · exact one_Lift hR h2 v hv

theorem one_G {φ : Phi} {A : Nat → Prop} {w : World} : ∀ {g : List Seg} {vs : List Value}, okG g = true → RelG φ A w g vs → ∀ v ∈ vs, v.oneCell' = true
  | [], _, _, h, v, hv => by rw [show _ = _ from h] at hv; cases hv
  | .lf l :: g, _, hk, ⟨v1, v2, e, ⟨u, e1, hu⟩, h2⟩, v, hv => by
    simp only [okG, Bool.and_eq_true] at hk
    rw [e, e1] at hv
    simp only [List.cons_append, List.nil_append, List.mem_cons] at hv
    rcases hv with rfl | hv
    · exact one_leaf hk.1 hu
    · exact one_G hk.2 h2 v hv
  | .many s xs n :: g, _, hk, ⟨v1, v2, e, ⟨_, hl⟩, h2⟩, v, hv => by
    rw [e, List.mem_append] at hv
    rcases hv with hv | hv
    · exact one_Lift (fun x vs hx => one_D hx) hl v hv
    · exact one_G (g := g) (by simpa only [okG] using hk) h2 v hv

theorem segsOf_ok {p : PV} {g : List Seg} {φ : Phi} {A : Nat → Prop} {w : World} {v : Value} (h : segsOf p = some g) (hk : okG g = true) (hr : RelV φ A w p v) : ∀ u ∈ v.cells.toList, u.oneCell' = true :=
  one_G hk (segsOf_rel h hr)

/-- What is there after a store. -/
def storeOb (x : Ob) (off sz idx inner : Nat) (lim : Option Nat) (gs : List Seg) : Option Ob :=
  match x with
  | .box true g => cond (Nat.beq sz 0)
      (match putG g (off + inner) gs with | some g' => some (.box true g') | none => none)
      (match lim, takeG g off, dropG g off with
        | some n, some g1, some (.many s xs m :: g2) => cond (Nat.beq m n && Nat.beq s.size sz)
            (match putG (toSegs s (xs.getD idx (zero s))) inner gs with
              | some es => match ofSegs s es with
                | some d => some (.box true (g1 ++ (.many s (xs.set idx d) m :: g2)))
                | none => none
              | none => none) none
        | _, _, _ => none)
  | .arr true s xs => match lim with
      | none => cond (Nat.beq off 0 && Nat.beq s.size sz)
          (match putG (toSegs s (xs.getD idx (zero s))) inner gs with
            | some es => match ofSegs s es with
              | some d => some (.arr true s (xs.set idx d))
              | none => none
            | none => none) none
      | some _ => none
  | _ => none

def evStore (P : Program) (t : TypeId) (p q : PV) (f : Nat → Option Ob) (nx : Nat) (K : PV → (Nat → Option Ob) → Nat → Option Rt) : Option Rt :=
  match p, segsOf q, P.info? t with
  | .lf (.ptr o off sz idx inner lim), some gs, some i => cond (okG gs && Nat.beq (cellsG gs) i.size)
      (match f o with
        | some x => match storeOb x off sz idx inner lim gs with
          | some x' => K anyV (updO f o (some x')) nx
          | none => none
        | none => none) none
  | _, _, _ => none

/-- The machine's side: cells of a held row are written. -/
theorem run_storeHeld {P : Program} {t : TypeId} {i : TypeInfo} (hi : P.info? t = some i) {w : World} {b pos : Nat} {v : Value} {c : Array Value} {e : TypeId} {fz : Nat × Nat} (hb : w.heap[b]? = some (.cells c e fz)) (hz : Thawed c.size fz)
    (hsz : v.cells.size = i.size) (hin : pos + v.cells.size ≤ c.size) (h1 : ∀ u ∈ v.cells.toList, u.oneCell' = true) :
    (Instr.storeAt t (.pointer (some ⟨b, pos, none⟩)) v).run P w = .ok () (w.setCells b pos v.cells.toList) := by
  have hcell : ∀ j, j < c.size → w.cell? ⟨b, j, none⟩ = c[j]? := fun j hj => by
    unfold World.cell?; simp only [hb]; rfl
  have hst := run_storeCells_cells (P := P) b pos v.cells.toList 0 w (fun j hj => by
      rw [hcell _ (by simp only [Array.length_toList] at hj; omega), Array.getElem?_eq_getElem (by simp only [Array.length_toList] at hj; omega)]; rfl)
    (fun j hj => by
      unfold World.frozen?; simp only [hb]
      have := hz.no (pos + 0 + j) (by simp only [Array.length_toList] at hj; omega)
      cases hd : (decide (fz.1 ≤ pos + 0 + j) && decide (pos + 0 + j < fz.2)) with
      | false => rfl
      | true => simp only [Bool.and_eq_true, decide_eq_true_eq] at hd; exact absurd hd this) h1
  unfold Instr.storeAt
  simp only [run_bind', Instr.sureAddr, run_pure]
  unfold storeVar
  simp only [run_bind', run_size hi, hsz, ne_eq, not_true_eq_false, if_false]
  rw [Nat.add_zero] at hst
  exact hst

theorem exec_store {P : Program} {o : Oper} {t : TypeId} {a x : Operand} (ho : o.op = .store t a x) {ρm : Operand → Value} {w w' : World} (h : (Instr.storeAt t (ρm a) (ρm x)).run P w = .ok () w') : (execOp ρm o).run P w = .ok .skip w' := by
  unfold execOp; rw [ho]; simp only []; rw [run_bind', h]; rfl

/-- A row in a held block, written in the middle. -/
theorem held_write {A : Nat → Prop} {w : World} {blk base n : Nat} {vs : List Value} (h : Held true A w blk base vs n) (hvn : vs.length ≤ n) {pos : Nat} {ns : List Value} (hp : pos + ns.length ≤ vs.length) {A' : Nat → Prop}
    (hA : A' blk) : Held true A' (w.setCells blk (base + pos) ns) blk base (vs.take pos ++ (ns ++ vs.drop (pos + ns.length))) n := by
  obtain ⟨hb, _, c, e, fz, h1, h2, h3, h4⟩ := h
  obtain ⟨c', hc', hl⟩ := setCells_heap blk ns (base + pos) w h1 (by omega)
  have hcs : c'.size = c.size := by
    rw [← Array.length_toList, hl]; simp only [List.length_append, List.length_take, List.length_drop, Array.length_toList]; omega
  refine ⟨by rw [setCells_size]; exact hb, hA, c', e, fz, hc', by rw [hcs]; exact h2, by omega, fun j v hj => ?_⟩
  have hg : c'[base + j]? = c'.toList[base + j]? := by simp
  rw [hg, hl]
  rcases Nat.lt_or_ge j pos with hj1 | hj1
  · rw [List.getElem?_append_left (by simp; omega)] at hj ⊢
    rw [List.getElem?_take, if_pos hj1] at hj
    rw [List.getElem?_take, if_pos (by omega)]
    have := h4 j v hj
    simpa only [Array.getElem?_toList] using this
  · rw [List.getElem?_append_right (by simp; omega)] at hj ⊢
    simp only [List.length_take, Array.length_toList] at hj ⊢
    rw [Nat.min_eq_left (by omega)] at hj ⊢
    rcases Nat.lt_or_ge (j - pos) ns.length with hj2 | hj2
    · rw [List.getElem?_append_left (by omega)] at hj ⊢
      rw [show base + j - (base + pos) = j - pos by omega]; exact hj
    · rw [List.getElem?_append_right (by omega)] at hj ⊢
      rw [List.getElem?_drop] at hj ⊢
      have := h4 _ v hj
      rw [show base + pos + ns.length + (base + j - (base + pos) - ns.length) = base + (pos + ns.length + (j - pos - ns.length)) by omega]
      simpa using this

theorem RelG_len {φ : Phi} {A : Nat → Prop} {w : World} {g : List Seg} {vs vs' : List Value} (h : RelG φ A w g vs) (h' : RelG φ A w g vs') : vs.length = vs'.length := by rw [cellsG_rel h, cellsG_rel h']

theorem toSegs_cells {φ : Phi} {A : Nat → Prop} {w : World} {s : Shape} {d : den s} {vs : List Value} (h : RelG φ A w (toSegs s d) vs) : cellsG (toSegs s d) = vs.length := (cellsG_rel h).symm

theorem take_mid {α : Type} (a b c d e : List α) (k : Nat) (h : k ≤ c.length) : (a ++ ((b ++ c ++ d) ++ e)).take (a.length + (b.length + k)) = a ++ (b ++ c.take k) := by
  rw [List.append_assoc (b ++ c), List.append_assoc b]
  rw [List.take_append, List.take_of_length_le (by omega), Nat.add_sub_cancel_left, List.take_append, List.take_of_length_le (by omega), Nat.add_sub_cancel_left, List.take_append,
    show k - c.length = 0 by omega, List.take_zero, List.append_nil]
theorem drop_mid {α : Type} (a b c d e : List α) (k : Nat) (h : k ≤ c.length) : (a ++ ((b ++ c ++ d) ++ e)).drop (a.length + (b.length + k)) = c.drop k ++ (d ++ e) := by
  rw [List.append_assoc (b ++ c), List.append_assoc b]
  rw [List.drop_append, List.drop_of_length_le (by omega), Nat.add_sub_cancel_left, List.nil_append, List.drop_append, List.drop_of_length_le (by omega), Nat.add_sub_cancel_left, List.nil_append, List.drop_append,
    show k - c.length = 0 by omega, List.drop_zero]

theorem evStore_sound {P : Program} {o : Oper} {t : TypeId} {a x : Operand} (ho : o.op = .store t a x) {ρ : Operand → PV} {f : Nat → Option Ob} {nx : Nat} {K : PV → (Nat → Option Ob) → Nat → Option Rt} {r : Rt} (h : evStore P t (ρ a) (ρ x) f nx K = some r) : Memd P o ρ f nx K r := by
  generalize hp : ρ a = p at h
  unfold evStore at h
  split at h
  · rename_i o' off sz idx inner lim gs i hgs hi
    cases hc : (okG gs && Nat.beq (cellsG gs) i.size) with
    | false => rw [hc] at h; cases h
    | true =>
      rw [hc] at h; simp only [cond] at h
      simp only [Bool.and_eq_true] at hc
      have hok := hc.1
      have hsize := Nat.eq_of_beq_eq_true hc.2
      split at h
      · rename_i ob hfo
        split at h
        · rename_i ob' hst
          refine ⟨_, _, _, h, fun E φ A w ρm hR hF hr => ?_⟩
          have ha := hr a (by rw [ho]; simp [Op.operands])
          have hx := hr x (by rw [ho]; simp [Op.operands])
          rw [hp] at ha; simp only [RelV, RelL] at ha
          obtain ⟨b, hb, hav, hidx⟩ := ha
          have hgv := segsOf_rel hgs hx
          have hone := segsOf_ok hgs hok hx
          have hcl : (ρm x).cells.size = i.size := by rw [← hsize, ← cellsG_rel hgv, Array.length_toList]
          obtain ⟨b', hb', hrel, hreg⟩ := hR.ob _ _ hfo
          rw [hb] at hb'; simp only [Option.some.injEq] at hb'; subst hb'
          -- one proof for whatever is written at 'pos' of the object's row
          have fin : ∀ {vs : List Value} {n pos : Nat}, Held true A w b.blk b.base vs n → vs.length ≤ n → pos + (ρm x).cells.toList.length ≤ vs.length → ρm a = .pointer (some ⟨b.blk, b.base + pos, none⟩) → Owns b ob →
              (∀ w' : World, Ext φ φ A A w w' → Held true A w' b.blk b.base (vs.take pos ++ ((ρm x).cells.toList ++ vs.drop (pos + (ρm x).cells.toList.length))) n → RelOb φ A w' b ob') →
              ∃ φ' A' w' nxt, (execOp ρm o).run P w = .ok nxt w' ∧ Step E φ φ' A A' w w' (updO f o' (some ob')) nx ∧ ((∃ mv, nxt = .value mv ∧ RelV φ' A' w' anyV mv) ∨ (nxt = .skip ∧ anyV = anyV)) := fun {vs n pos} hh hvn hpl hav' hO hnew => by
            have hw := held_write hh hvn (ns := (ρm x).cells.toList) hpl (A' := A) hh.2.1
            have hh0 := hh
            obtain ⟨hblt, hAb, c, e, fz, h1, h2, h3, h4⟩ := hh
            have hrun := run_storeHeld (P := P) hi (pos := b.base + pos) (v := ρm x) h1 h2 hcl (by simp only [Array.length_toList] at hpl; omega) hone
            refine ⟨φ, A, _, _, exec_store ho (by rw [hav']; exact hrun), ?_, .inr ⟨rfl, rfl⟩⟩
            exact step_write hR hF hfo hb hO (setCells_size ..) (fun k hk => setCells_other _ _ _ _ hk) (setCells_rest ..) (fun hext => hnew _ hext hw)
          unfold storeOb at hst
          split at hst
          · rename_i g
            simp only [RelOb] at hrel
            obtain ⟨vs, hg, hh⟩ := hrel
            cases hz : Nat.beq sz 0 with
            | true =>
              rw [hz] at hst; simp only [cond] at hst
              have hz' := Nat.eq_of_beq_eq_true hz
              subst hz'
              split at hst
              · rename_i g' hput
                simp only [Option.some.injEq] at hst
                subst hst
                have hpl : off + inner + (ρm x).cells.toList.length ≤ vs.length := by
                  have h0 := hput
                  unfold putG at h0
                  split at h0
                  · rename_i a' b' ha' hb'
                    have := dropG_cells hb' hg
                    rw [cellsG_rel hgv]; exact this
                  · cases h0
                refine fin hh (Nat.le_refl _) hpl (by rw [hav]; congr 3; omega) rfl (fun w' hext hw' => ?_)
                simp only [RelOb]
                have hl : (vs.take (off + inner) ++ ((ρm x).cells.toList ++ vs.drop (off + inner + (ρm x).cells.toList.length))).length = vs.length := by
                  simp only [List.length_append, List.length_take, List.length_drop]; omega
                exact ⟨_, (putG_rel hput hg hgv).ext hext, by rw [hl]; exact hw'⟩
              · cases hst
            | false =>
              rw [hz] at hst; simp only [cond] at hst
              split at hst
              · rename_i n g1 s xs m g2 hg1 hg2
                cases hcc : (Nat.beq m n && Nat.beq s.size sz) with
                | false => rw [hcc] at hst; cases hst
                | true =>
                  rw [hcc] at hst; simp only [] at hst
                  simp only [Bool.and_eq_true] at hcc
                  have hmn := Nat.eq_of_beq_eq_true hcc.1
                  have hsz := Nat.eq_of_beq_eq_true hcc.2
                  split at hst
                  · rename_i es hes
                    split at hst
                    · rename_i d hd
                      simp only [Option.some.injEq] at hst
                      subst hst
                      have hin : idx < n := by
                        rcases hidx with h0 | h0
                        · rw [h0] at hz; cases hz
                        · exact h0
                      have hdr := dropG_rel hg2 hg
                      have hln := dropG_cells hg2 hg
                      obtain ⟨v1, v2, ev, ⟨hlen, hl⟩, hrest⟩ := hdr
                      obtain ⟨u1, u2, u3, eu, hu1, hud⟩ := Lift.get (RelD.length A w s) (zero s) hl (i := idx) (by omega)
                      have hesr := putG_rel hes (toSegs_rel (φ := φ) hud) hgv
                      have hD := ofSegs_rel hd hesr
                      have hset := Lift.set (RelD.length A w s) hl (i := idx) (by omega) hD
                      have hul : u2.length = s.size := RelD.length A w s _ _ hud
                      have hil : inner + (ρm x).cells.toList.length ≤ s.size := by
                        have h0 := hes
                        unfold putG at h0
                        split at h0
                        · rename_i a' b' ha' hb'
                          have := dropG_cells hb' (toSegs_rel (φ := φ) hud)
                          rw [cellsG_rel hgv, ← hul]; exact this
                        · cases h0
                      have hvl : v1.length = m * s.size := by rw [Lift.length (RelD.length A w s) hl, hlen]
                      have hmul : idx * s.size + s.size ≤ m * s.size := by rw [← Nat.succ_mul]; exact Nat.mul_le_mul_right _ (by omega)
                      have hvs : vs = vs.take off ++ ((u1 ++ u2 ++ u3) ++ v2) := by rw [← eu, ← ev, List.take_append_drop]
                      have hvlen : vs.length = off + (m * s.size + v2.length) := by
                        have := congrArg List.length ev
                        simp only [List.length_drop, List.length_append, hvl] at this
                        omega
                      refine fin (pos := off + (idx * s.size + inner)) hh (Nat.le_refl _) (by rw [hvlen]; omega) (by rw [hav, ← hsz]; congr 3; omega) rfl (fun w' hext hw' => ?_)
                      simp only [RelOb]
                      have hl2 : (vs.take (off + (idx * s.size + inner)) ++ ((ρm x).cells.toList ++ vs.drop (off + (idx * s.size + inner) + (ρm x).cells.toList.length))).length = vs.length := by
                        simp only [List.length_append, List.length_take, List.length_drop]; omega
                      refine ⟨_, RelG.ext hext ?_, by rw [hl2]; exact hw'⟩
                      have hu3 : (u1 ++ u2 ++ u3).length = m * s.size := by rw [← eu, hvl]
                      have heq : vs.take (off + (idx * s.size + inner)) ++ ((ρm x).cells.toList ++ vs.drop (off + (idx * s.size + inner) + (ρm x).cells.toList.length)) =
                          vs.take off ++ ((v1.take (idx * s.size) ++ ((u2.take inner ++ ((ρm x).cells.toList ++ u2.drop (inner + (ρm x).cells.toList.length))) ++ v1.drop (idx * s.size + s.size))) ++ v2) := by
                        have hto : (vs.take off).length = off := by rw [List.length_take]; omega
                        have e1 : vs.take (off + (idx * s.size + inner)) = vs.take off ++ (u1 ++ u2.take inner) := by
                          have := take_mid (vs.take off) u1 u2 u3 v2 inner (by omega)
                          rw [← hvs, hto, hu1] at this; exact this
                        have e2 : vs.drop (off + (idx * s.size + inner) + (ρm x).cells.toList.length) = u2.drop (inner + (ρm x).cells.toList.length) ++ (u3 ++ v2) := by
                          have := drop_mid (vs.take off) u1 u2 u3 v2 (inner + (ρm x).cells.toList.length) (by omega)
                          rw [← hvs, hto, hu1] at this
                          rw [← this]; congr 1; omega
                        have e3 : v1.take (idx * s.size) = u1 := by rw [eu, List.append_assoc, List.take_append, hu1, Nat.sub_self, List.take_zero, List.append_nil, List.take_of_length_le (by omega)]
                        have e4 : v1.drop (idx * s.size + s.size) = u3 := by rw [eu, List.drop_append, List.length_append, hu1, hul, Nat.sub_self, List.drop_zero, List.drop_of_length_le (by rw [List.length_append, hu1, hul]; exact Nat.le_refl _), List.nil_append]
                        rw [e1, e2, e3, e4]
                        simp only [List.append_assoc]
                      rw [heq]
                      exact RelG.append (takeG_rel hg1 hg) ⟨_, _, rfl, ⟨by rw [List.length_set]; exact hlen, hset⟩, hrest⟩
                    · cases hst
                  · cases hst
              · cases hst
          · rename_i s xs
            simp only [RelOb] at hrel
            obtain ⟨hlen, hcap, vs, hl, hh⟩ := hrel
            split at hst
            · cases hcc : (Nat.beq off 0 && Nat.beq s.size sz) with
              | false => rw [hcc] at hst; cases hst
              | true =>
                rw [hcc] at hst; simp only [cond] at hst
                simp only [Bool.and_eq_true] at hcc
                have h0 := Nat.eq_of_beq_eq_true hcc.1
                have hsz := Nat.eq_of_beq_eq_true hcc.2
                subst h0
                split at hst
                · rename_i es hes
                  split at hst
                  · rename_i d hd
                    simp only [Option.some.injEq] at hst
                    subst hst
                    have hin : idx < xs.length := by
                      rcases hidx with h0 | h0
                      · have := s.size_pos; omega
                      · rw [← hlen]; exact h0
                    rcases hh with hh | hh
                    · omega
                    · obtain ⟨u1, u2, u3, eu, hu1, hud⟩ := Lift.get (RelD.length A w s) (zero s) hl hin
                      have hesr := putG_rel hes (toSegs_rel (φ := φ) hud) hgv
                      have hD := ofSegs_rel hd hesr
                      have hset := Lift.set (RelD.length A w s) hl hin hD
                      have hul : u2.length = s.size := RelD.length A w s _ _ hud
                      have hil : inner + (ρm x).cells.toList.length ≤ s.size := by
                        have h0 := hes
                        unfold putG at h0
                        split at h0
                        · rename_i a' b' ha' hb'
                          have := dropG_cells hb' (toSegs_rel (φ := φ) hud)
                          rw [cellsG_rel hgv, ← hul]; exact this
                        · cases h0
                      have hvl : vs.length = xs.length * s.size := Lift.length (RelD.length A w s) hl
                      have hmul : idx * s.size + s.size ≤ xs.length * s.size := by rw [← Nat.succ_mul]; exact Nat.mul_le_mul_right _ hin
                      have hcm : xs.length * s.size ≤ b.cap * s.size := Nat.mul_le_mul_right _ hcap
                      refine fin (pos := idx * s.size + inner) hh (by omega) (by omega) (by rw [hav, ← hsz]; rfl) ⟨rfl, by omega⟩ (fun w' hext hw' => ?_)
                      simp only [RelOb]
                      refine ⟨by rw [List.length_set]; exact hlen, by rw [List.length_set]; exact hcap, _, Lift.mono (fun y v hy => RelD.ext hext s y v hy) hset, .inr ?_⟩
                      have heq : vs.take (idx * s.size + inner) ++ ((ρm x).cells.toList ++ vs.drop (idx * s.size + inner + (ρm x).cells.toList.length)) =
                          vs.take (idx * s.size) ++ ((u2.take inner ++ ((ρm x).cells.toList ++ u2.drop (inner + (ρm x).cells.toList.length))) ++ vs.drop (idx * s.size + s.size)) := by
                        have e1 : vs.take (idx * s.size + inner) = u1 ++ u2.take inner := by
                          have := take_mid [] u1 u2 u3 [] inner (by omega)
                          simp only [List.nil_append, List.append_nil, List.length_nil, Nat.zero_add, ← eu, hu1] at this; exact this
                        have e2 : vs.drop (idx * s.size + inner + (ρm x).cells.toList.length) = u2.drop (inner + (ρm x).cells.toList.length) ++ u3 := by
                          have := drop_mid [] u1 u2 u3 [] (inner + (ρm x).cells.toList.length) (by omega)
                          simp only [List.nil_append, List.append_nil, List.length_nil, Nat.zero_add, ← eu, hu1] at this
                          rw [← this]; congr 1; omega
                        have e3 : vs.take (idx * s.size) = u1 := by rw [eu, List.append_assoc, List.take_append, hu1, Nat.sub_self, List.take_zero, List.append_nil, List.take_of_length_le (by omega)]
                        have e4 : vs.drop (idx * s.size + s.size) = u3 := by rw [eu, List.drop_append, List.length_append, hu1, hul, Nat.sub_self, List.drop_zero, List.drop_of_length_le (by rw [List.length_append, hu1, hul]; exact Nat.le_refl _), List.nil_append]
                        rw [e1, e2, e3, e4]
                        simp only [List.append_assoc]
                      rw [← heq]; exact hw'
                  · cases hst
                · cases hst
            · cases hst
          · cases hst
        · cases h
      · cases h
  · cases h
end Go.Ev
