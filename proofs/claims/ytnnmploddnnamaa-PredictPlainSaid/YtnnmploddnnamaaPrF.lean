/- Part of a proof about the given program: PrF. -/
import Derived.Test.YtnnmploddnnamaaPrE
namespace Go.Ev.Pre
set_option maxRecDepth 100000

/-! ## The laws -/
theorem f12_eqn : f12 () = some (true, ()) := by kernel_rfl

theorem uL_isB {fr s : Nat} : ∀ {l : List (List Int)} {ab z : List Int}, uL fr s ab l = some z → IsB z
  | [], _, z, h => by simp only [uL, Option.some.injEq] at h; rw [← h]; exact IsB.nil
  | c :: l, ab, z, h => by
    rw [uL_cons] at h
    split at h
    · cases h
    · cases hu : uL fr s (rowOf fr s ab c) l with
      | none => rw [hu] at h; cases h
      | some z' =>
        rw [hu] at h
        simp only [Option.map_some, Option.some.injEq] at h
        rw [← h]
        exact IsB.append uGo_isB (uL_isB hu)
theorem undoF_isB {p c bb w : Int} {b : List Int} (hb : IsB b) : IsB (undoF p c bb w b).2 := by
  unfold undoF
  split
  · exact IsB.nil
  split
  · exact IsB.nil
  split
  · exact hb
  split
  · exact IsB.nil
  cases hu : uL (frOf p) (stepN c bb) [] (chunkL (rowN c bb w + frOf p) b) with
  | none => exact IsB.nil
  | some z => exact uL_isB hu
theorem dR_isB {fr s : Nat} {tag : Int} (ht : 0 ≤ tag ∧ tag ≤ 4) : ∀ {l : List (List Int)} {ab : List Int}, IsB (dR fr s tag ab l).flatten
  | [], _ => IsB.nil
  | c :: l, ab => by
    rw [dR_cons, List.flatten_cons]
    refine IsB.append ?_ (dR_isB ht)
    unfold dRow
    refine IsB.append ?_ dGo_isB
    split
    · exact IsB.one (by omega)
    · exact IsB.nil
theorem doF_isB {p c bb w tag : Int} {b : List Int} (hb : IsB b) : IsB (doF p c bb w tag b).2 := by
  unfold doF
  split
  · exact IsB.nil
  split
  · exact IsB.nil
  split
  · exact IsB.nil
  split
  · exact hb
  split
  · exact IsB.nil
  exact dR_isB (by omega)

theorem does_true {p c bb w tag : Int} {b : List Int} (hb : IsB b) : f3 (p, c, bb, w, tag, b, ()) = some (true, ()) := by
  unfold f3
  dsimp only
  by_cases hl : b.length > 500
  · rw [if_pos (decide_eq_true (by omega))]
  rw [if_neg (fun h => hl (by have := of_decide_eq_true h; omega)), f7_eqn (by omega), Option.bind_some]
  dsimp only
  repeat rw [full]
  rw [f8_eqn hb, Option.bind_some]
  dsimp only
  rw [f9_eqn hb, Option.bind_some]
  dsimp only
  rw [f10_eqn hb, Option.bind_some]
  dsimp only
  rw [f11_eqn hb, Option.bind_some]
  dsimp only
  rw [f12_eqn, Option.bind_some]
  dsimp only
  rw [if_pos rfl, if_pos (by simp), f13_eqn, Option.bind_some, f14_eqn, Option.bind_some]
  dsimp only
  rw [if_pos (by simp)]
  have h1516 : ∃ n : Nat, f15 (p, c, bb, w, ()) = some ((n : Int), ()) ∧ f16 (p, c, bb, w, ()) = some ((n : Int), ()) := by
    by_cases h : chk p c bb w = 1
    · exact ⟨0, f15_no h, f16_no h⟩
    · exact ⟨_, f15_is (chk_ok h) h, f16_is (chk_ok h) h⟩
  obtain ⟨n, h15, h16⟩ := h1516
  rw [h15, Option.bind_some, h16, Option.bind_some]
  dsimp only
  rw [if_pos (by simp)]
  repeat rw [full]
  simp

/-- What was done is undone. -/
theorem undo_do {p c bb w tag : Int} {b : List Int} (hb : IsB b) (hl : b.length ≤ 2000) (h : (doF p c bb w tag b).1 = 0) : undoF p c bb w (doF p c bb w tag b).2 = (0, b) := by
  unfold doF at h ⊢
  by_cases h1 : chk p c bb w = 0
  · obtain ⟨hok, _⟩ := chk_zero h1
    have hr := hok.row
    have hf := frOf_le p
    rw [if_neg (by omega : ¬ chk p c bb w ≠ 0)] at h ⊢
    by_cases h2 : tag < 0 ∨ 4 < tag
    · rw [if_pos h2] at h; cases h
    rw [if_neg h2, if_neg (by omega)] at h ⊢
    by_cases h3 : p = 1
    · rw [if_pos h3]
      unfold undoF
      rw [if_neg (by omega : ¬ chk p c bb w ≠ 0), if_neg (by dsimp only; omega), if_pos h3]
    rw [if_neg h3] at h ⊢
    by_cases h4 : b.length % rowN c bb w = 0
    · rw [if_neg (by omega : ¬ b.length % rowN c bb w ≠ 0)] at h ⊢
      dsimp only
      have hcl := chunkL_len hr.1 b h4
      have hdl := dR_len (fr := frOf p) (s := stepN c bb) (tag := tag) hf (ab := []) hcl
      have hfl := flat_len hdl
      rw [dR_no] at hfl
      have hbl := flat_len hcl
      rw [chunkL_flat hr.1] at hbl
      have hb2 : (chunkL (rowN c bb w) b).length * (rowN c bb w + frOf p) ≤ 2 * b.length := by
        have e1 : (chunkL (rowN c bb w) b).length * (rowN c bb w + frOf p) ≤ (chunkL (rowN c bb w) b).length * (2 * rowN c bb w) := Nat.mul_le_mul_left _ (by omega)
        rw [Nat.mul_left_comm, ← hbl] at e1
        exact e1
      unfold undoF
      rw [if_neg (by omega : ¬ chk p c bb w ≠ 0), if_neg (by rw [hfl]; omega), if_neg h3, if_neg (by rw [hfl, Nat.mul_mod_left]; omega), chunkL_of (by omega) _ hdl, uL_dR hf (by omega) (fun d hd => (chunk_ok hr.1 hb d hd).1), chunkL_flat hr.1]
    · rw [if_pos h4] at h; cases h
  · rw [if_pos h1] at h; exact absurd h h1
/-- What was undone is done again. -/
theorem do_undo {p c bb w t : Int} {b : List Int} (hb : IsB b) (ht : 0 ≤ t ∧ t ≤ 4) (h : (undoF p c bb w b).1 = 0) :
    (doF p c bb w t (undoF p c bb w b).2).1 = 0 ∧ Ok p c bb w ∧ (p > 2 → b.length % (rowN c bb w + 1) = 0) ∧ ((p > 2 → ∀ x ∈ chunkL (rowN c bb w + 1) b, x.getD 0 0 = t) → (doF p c bb w t (undoF p c bb w b).2).2 = b) := by
  unfold undoF at h ⊢
  by_cases h1 : chk p c bb w = 0
  · obtain ⟨hok, _⟩ := chk_zero h1
    have hr := hok.row
    have hf := frOf_le p
    have hfp : p > 2 → frOf p = 1 := fun hp => by unfold frOf; rw [if_pos (by have := hok.p; omega)]
    rw [if_neg (by omega : ¬ chk p c bb w ≠ 0)] at h ⊢
    by_cases h2 : 1048576 < b.length
    · rw [if_pos h2] at h; cases h
    rw [if_neg h2] at h ⊢
    by_cases h3 : p = 1
    · rw [if_pos h3]
      unfold doF
      rw [if_neg (by omega : ¬ chk p c bb w ≠ 0), if_neg (by omega : ¬ (t < 0 ∨ 4 < t)), if_neg h2, if_pos h3]
      exact ⟨rfl, hok, fun h => by omega, fun _ => rfl⟩
    rw [if_neg h3] at h ⊢
    by_cases h4 : b.length % (rowN c bb w + frOf p) = 0
    · rw [if_neg (by omega : ¬ b.length % (rowN c bb w + frOf p) ≠ 0)] at h ⊢
      cases hu : uL (frOf p) (stepN c bb) [] (chunkL (rowN c bb w + frOf p) b) with
      | none => rw [hu] at h; cases h
      | some z =>
        dsimp only
        have hcl := chunkL_len (n := rowN c bb w + frOf p) (by omega) b h4
        have hzl := uL_len hcl hu
        have hbl := flat_len hcl
        rw [chunkL_flat (by omega)] at hbl
        have hz2 : z.length ≤ b.length := by rw [hzl, hbl]; exact Nat.mul_le_mul_left _ (by omega)
        unfold doF
        rw [if_neg (by omega : ¬ chk p c bb w ≠ 0), if_neg (by omega : ¬ (t < 0 ∨ 4 < t)), if_neg (by omega), if_neg h3, if_neg (by rw [hzl, Nat.mul_mod_left]; omega)]
        refine ⟨rfl, hok, fun hp => hfp hp ▸ h4, fun hh => ?_⟩
        dsimp only
        rw [dR_uL hf hr.1 (fun d hd => (chunk_ok (by omega) hb d hd).1) hcl (fun e d hd => ?_) hu, chunkL_flat (by omega)]
        have hp2 : p > 2 := by unfold frOf at e; split at e <;> omega
        rw [hfp hp2] at hd
        exact hh hp2 d hd
    · rw [if_pos h4] at h; cases h
  · rw [if_pos h1] at h; exact absurd h h1
theorem undoF_bad {p c bb w : Int} {b : List Int} (h : (undoF p c bb w b).1 ≠ 0) : (undoF p c bb w b).2 = [] := by
  unfold undoF at h ⊢
  split
  · rfl
  rename_i h1
  rw [if_neg h1] at h
  split
  · rfl
  rename_i h2
  rw [if_neg h2] at h
  split
  · rename_i h3; rw [if_pos h3] at h; exact absurd rfl h
  rename_i h3
  rw [if_neg h3] at h
  split
  · rfl
  rename_i h4
  rw [if_neg h4] at h
  cases hu : uL (frOf p) (stepN c bb) [] (chunkL (rowN c bb w + frOf p) b) with
  | none => rfl
  | some z => rw [hu] at h; exact absurd rfl h

theorem l4_3_eqn {b x : List Int} {p c bb w tag : Int} {m : Nat} (hb : IsB b) (hl : b.length ≤ 2000) (hm : 2 ≤ m) (hm2 : m ≤ 5000000) (hp : p > 2) : ∀ (k i : Nat), b.length - i < k → i ≤ b.length → (b.length - i) % m = 0 →
    loopN g4_3 o4_3 b4_3 k (tag, b, x, 0, (m : Int), (i : Int), p, c, bb, w, ()) = if ∀ y ∈ chunkL m (b.drop i), y.getD 0 0 = max 0 (min tag 4) then some (.inl (b, x, 0, ())) else some (.inr (.inl (true, ())))
  | 0, _, h, _, _ => by omega
  | k + 1, i, h, hi, hmod => by
    rw [loopN_succ]
    unfold b4_3
    dsimp only
    by_cases hc : i < b.length
    · have hne : b.drop i ≠ [] := by intro e; have := congrArg List.length e; rw [List.length_drop, List.length_nil] at this; omega
      have hge : m ≤ b.length - i := by
        rcases Nat.lt_or_ge (b.length - i) m with h1 | h1
        · rw [Nat.mod_eq_of_lt h1] at hmod; omega
        · exact h1
      have hx := hb.get i
      have hhead : ((b.drop i).take m).getD 0 0 = b.getD i 0 := by
        rw [List.getD_eq_getElem?_getD, List.getD_eq_getElem?_getD, List.getElem?_take, if_pos (by omega), List.getElem?_drop, Nat.add_zero]
      rw [if_pos (decide_eq_true (by omega)), if_pos (decide_eq_true hp), if_neg (fun h => by have := of_decide_eq_true h; omega), if_pos (by omega), if_pos (by omega), Int.toNat_natCast, wrap_i64 (n := b.getD i 0) (by omega), chunkL_cons (by omega) hne]
      by_cases ht : b.getD i 0 = max 0 (min tag 4)
      · rw [if_neg (fun h => bne_iff_ne.1 h ht), wrap_i64 (by omega), Option.bind_some, Sum.elim_inl, show (i : Int) + m = ((i + m : Nat) : Int) by omega]
        have ih := l4_3_eqn (x := x) (c := c) (bb := bb) (w := w) (tag := tag) hb hl hm hm2 hp k (i + m) (by omega) (by omega) (by rw [show b.length - (i + m) = b.length - i - m by omega, ← Nat.mod_eq_sub_mod hge]; exact hmod)
        refine ih.trans ?_
        rw [← List.drop_drop]
        have e : (∀ y ∈ (b.drop i).take m :: chunkL m ((b.drop i).drop m), y.getD 0 0 = max 0 (min tag 4)) ↔ ∀ y ∈ chunkL m ((b.drop i).drop m), y.getD 0 0 = max 0 (min tag 4) :=
          ⟨fun h y hy => h y (List.mem_cons_of_mem _ hy), fun h y hy => by
            rcases List.mem_cons.1 hy with rfl | hy
            · rw [hhead]; exact ht
            · exact h y hy⟩
        by_cases hall : ∀ y ∈ chunkL m ((b.drop i).drop m), y.getD 0 0 = max 0 (min tag 4)
        · rw [if_pos hall, if_pos (e.2 hall)]
        · rw [if_neg hall, if_neg (fun h => hall (e.1 h))]
      · rw [if_pos (bne_iff_ne.2 ht), f12_eqn, Option.bind_some]
        dsimp only
        rw [if_pos rfl, if_pos (by decide), Option.bind_some, Sum.elim_inr, if_neg (fun h => ht (by have := h _ (List.mem_cons_self ..); rwa [hhead] at this)), decide_eq_true (by omega)]
    · have e1 : i = b.length := by omega
      subst e1
      rw [if_neg (fun h => by have := of_decide_eq_true h; omega), List.drop_length, chunkL_nil _ (by omega), if_pos (fun y hy => by cases hy)]
      rfl

theorem back_true {p c bb w tag : Int} {b : List Int} (hb : IsB b) : f4 (p, c, bb, w, tag, b, ()) = some (true, ()) := by
  unfold f4
  dsimp only
  by_cases hl : b.length > 2000
  · rw [if_pos (decide_eq_true (by omega))]
  rw [if_neg (fun h => hl (by have := of_decide_eq_true h; omega)), f10_eqn hb, Option.bind_some]
  dsimp only
  repeat rw [full]
  rw [f8_eqn (doF_isB hb), Option.bind_some]
  dsimp only
  repeat rw [full]
  have h41 : b4_1 (tag, b, (doF p c bb w tag b).1, (undoF p c bb w (doF p c bb w tag b).2).2, (undoF p c bb w (doF p c bb w tag b).2).1, p, c, bb, w, ()) = some (.inl (tag, b, false, p, c, bb, w, ())) := by
    unfold b4_1
    dsimp only
    by_cases h1 : (doF p c bb w tag b).1 = 0
    · rw [undo_do hb (by omega) h1, if_pos (beq_iff_eq.2 h1), if_neg (by simp)]
      simp
    · rw [if_neg (fun h => h1 (beq_iff_eq.1 h))]
  rw [h41, Option.bind_some, Sum.elim_inl]
  dsimp only
  rw [if_neg (by decide), f8_eqn hb, Option.bind_some]
  dsimp only
  by_cases hg : (undoF p c bb w b).1 = 0
  · obtain ⟨d1, hok, d2, d3⟩ := do_undo (t := max 0 (min tag 4)) hb (by omega) hg
    have hr := hok.row
    rw [if_neg (by simpa using hg)]
    repeat rw [full]
    rw [f10_eqn (undoF_isB hb), Option.bind_some]
    dsimp only
    repeat rw [full]
    have hc1 : chk p c bb w ≠ 1 := by
      intro e
      unfold undoF at hg
      rw [if_pos (by omega)] at hg
      dsimp only at hg
      omega
    rw [f15_is hok hc1, Option.bind_some]
    dsimp only
    rw [wrap_i64 (by omega), d1, show ((rowN c bb w : Int) + 1) = ((rowN c bb w + 1 : Nat) : Int) by omega]
    generalize hX : l4_3 _ = X
    by_cases hp : p > 2
    · have hR := l4_3_eqn (x := (doF p c bb w (max 0 (min tag 4)) (undoF p c bb w b).2).2) (c := c) (bb := bb) (w := w) (tag := tag) (m := rowN c bb w + 1) hb (by omega) (by omega) (by omega) hp 18446744073709551616 0 (by omega) (by omega) (by simpa using d2 hp)
      rw [List.drop_zero] at hR
      rw [show X = _ from hX.symm.trans hR]
      by_cases hall : ∀ y ∈ chunkL (rowN c bb w + 1) b, y.getD 0 0 = max 0 (min tag 4)
      · rw [if_pos hall, Option.bind_some, Sum.elim_inl, f12_eqn, Option.bind_some]
        dsimp only
        rw [if_pos rfl, if_pos (by decide), d3 (fun _ => hall)]
        simp
      · rw [if_neg hall, Option.bind_some]; rfl
    · have hR : X = some (.inl (b, (doF p c bb w (max 0 (min tag 4)) (undoF p c bb w b).2).2, 0, ())) := by
        rw [← hX]
        unfold l4_3
        rw [show (18446744073709551616 : Nat) = 18446744073709551615 + 1 from rfl, loopN_succ]
        unfold b4_3
        dsimp only
        by_cases hc : 0 < b.length
        · rw [if_pos (decide_eq_true (by omega)), if_neg (fun h => hp (of_decide_eq_true h))]; rfl
        · rw [if_neg (fun h => hc (by have := of_decide_eq_true h; omega))]; rfl
      rw [hR, Option.bind_some, Sum.elim_inl, f12_eqn, Option.bind_some]
      dsimp only
      rw [if_pos rfl, if_pos (by decide), d3 (fun h => absurd h hp)]
      simp
  · rw [if_pos (by simpa using hg), undoF_bad hg]
    repeat rw [full]
    have h42 : b4_2 ([], ()) = some (.inl (true, ())) := by
      unfold b4_2
      rw [f12_eqn]
      rfl
    generalize hX : b4_2 _ = X
    rw [show X = _ from hX.symm.trans h42]
    rfl
end Go.Ev.Pre
