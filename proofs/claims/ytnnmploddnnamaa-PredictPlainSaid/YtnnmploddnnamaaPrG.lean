/- Part of a proof about the given program: PrG. -/
import Derived.Test.YtnnmploddnnamaaPrF
namespace Go.Ev.Pre
set_option maxRecDepth 100000

/-! ## Rows of noughts, and rows that stand again and again -/
theorem tells_zero (t : Int) : tells t 0 0 0 = 0 := by
  unfold tells
  repeat' split
  all_goals first | rfl | omega
theorem getD_zero {l : List Int} (h : ∀ x ∈ l, x = 0) (k : Nat) : l.getD k 0 = 0 := by
  rw [List.getD_eq_getElem?_getD]
  cases hg : l[k]? with
  | none => rfl
  | some x => exact h x (List.mem_of_getElem? hg)
theorem back_zero {l : List Int} (h : ∀ x ∈ l, x = 0) (s k : Nat) : back l s k = 0 := by
  unfold back
  split
  · rfl
  · exact getD_zero h _
theorem dGo_zero {s : Nat} {t : Int} {ab : List Int} (ha : ∀ x ∈ ab, x = 0) : ∀ (xs pre : List Int), (∀ x ∈ xs, x = 0) → (∀ x ∈ pre, x = 0) → dGo s t ab pre xs = xs
  | [], _, _, _ => rfl
  | x :: xs, pre, h, hp => by
    have h0 := h x (List.mem_cons_self ..)
    subst h0
    unfold dGo told
    rw [back_zero hp, getD_zero ha, back_zero ha, tells_zero, dGo_zero ha xs _ (fun y hy => h y (List.mem_cons_of_mem _ hy)) (fun y hy => by
      rcases List.mem_append.1 hy with h1 | h1
      · exact hp y h1
      · exact List.mem_singleton.1 h1)]
    rfl
theorem mem_rep {n : Nat} : ∀ x ∈ List.replicate n (0 : Int), x = 0 := fun _ h => List.eq_of_mem_replicate h
theorem dR_zero {s n : Nat} {t : Int} : ∀ (r : Nat) (ab : List Int), (∀ x ∈ ab, x = 0) → dR 1 s t ab (List.replicate r (List.replicate n 0)) = List.replicate r (t :: List.replicate n 0)
  | 0, _, _ => rfl
  | r + 1, ab, h => by
    rw [List.replicate_succ, dR_cons, dR_zero r _ mem_rep, List.replicate_succ]
    unfold dRow
    rw [if_pos rfl, if_pos rfl, dGo_zero h _ _ mem_rep (fun _ h => by cases h)]
    rfl
theorem dGo_up {s : Nat} {row : List Int} (hr : IsB row) : ∀ (xs pre : List Int), pre ++ xs = row → dGo s 2 row pre xs = List.replicate xs.length 0
  | [], _, _ => rfl
  | x :: xs, pre, h => by
    unfold dGo told
    have e : row.getD pre.length 0 = x := by rw [← h]; simp [List.getD_eq_getElem?_getD]
    rw [e, show tells 2 (back pre s pre.length) x (back row s pre.length) = x from rfl, dGo_up hr xs (pre ++ [x]) (by rw [List.append_assoc]; exact h), Int.sub_self]
    rfl
theorem dGo_top {s : Nat} : ∀ (xs pre : List Int), IsB xs → dGo s 2 [] pre xs = xs
  | [], _, _ => rfl
  | x :: xs, pre, h => by
    have hx := h x (List.mem_cons_self ..)
    unfold dGo told
    rw [show tells 2 (back pre s pre.length) (([] : List Int).getD pre.length 0) (back [] s pre.length) = 0 from rfl, dGo_top xs _ (fun y hy => h y (List.mem_cons_of_mem _ hy)), show (x - 0) % 256 = x by omega]
theorem dR_up {s : Nat} {row : List Int} (hr : IsB row) : ∀ r : Nat, dR 1 s 2 row (List.replicate r row) = List.replicate r (2 :: List.replicate row.length 0)
  | 0 => rfl
  | r + 1 => by
    rw [List.replicate_succ, dR_cons, dR_up hr r, List.replicate_succ]
    unfold dRow
    rw [if_pos rfl, if_pos rfl, dGo_up hr row [] rfl]
    rfl
theorem dR_first {s : Nat} {row : List Int} (hr : IsB row) : ∀ r : Nat, dR 1 s 2 [] (List.replicate (r + 1) row) = (2 :: row) :: List.replicate r (2 :: List.replicate row.length 0) := fun r => by
  rw [List.replicate_succ, dR_cons, dR_up hr r]
  unfold dRow
  rw [if_pos rfl, if_pos rfl, dGo_top row [] hr]
  rfl
theorem flat_get {n : Nat} (hn : 1 ≤ n) : ∀ (l : List (List Int)) (i : Nat), (∀ c ∈ l, c.length = n) → l.flatten.getD i 0 = (l.getD (i / n) []).getD (i % n) 0
  | [], i, _ => by simp
  | c :: l, i, h => by
    have hc := h c (List.mem_cons_self ..)
    rw [List.flatten_cons]
    rcases Nat.lt_or_ge i n with h1 | h1
    · rw [Nat.div_eq_of_lt h1, Nat.mod_eq_of_lt h1, List.getD_cons_zero, List.getD_eq_getElem?_getD, List.getD_eq_getElem?_getD, List.getElem?_append_left (by omega)]
    · obtain ⟨j, rfl⟩ : ∃ j, i = n + j := ⟨i - n, by omega⟩
      rw [Nat.add_div_left _ (by omega), Nat.add_mod_left, List.getD_cons_succ, List.getD_eq_getElem?_getD, List.getElem?_append_right (by omega), hc, Nat.add_sub_cancel_left, ← List.getD_eq_getElem?_getD, flat_get hn l j (fun d hd => h d (List.mem_cons_of_mem _ hd))]
theorem chunk_rep {n : Nat} (hn : 1 ≤ n) (r : Nat) : chunkL n (List.replicate (r * n) (0 : Int)) = List.replicate r (List.replicate n 0) := by
  have := chunkL_of hn (List.replicate r (List.replicate n (0 : Int))) (fun c hc => by rw [List.eq_of_mem_replicate hc, List.length_replicate])
  rw [← this]
  congr 1
  rw [List.flatten_replicate_replicate]
theorem isB_rep (n : Nat) : IsB (List.replicate n (0 : Int)) := fun x hx => by rw [mem_rep x hx]; omega

theorem doF_zero {c bb w t : Int} {r : Nat} (hok : Ok 10 c bb w) (hr : r ≤ 20) (hn : rowN c bb w ≤ 200) (ht : 0 ≤ t ∧ t ≤ 4) : doF 10 c bb w t (List.replicate (r * rowN c bb w) 0) = (0, (List.replicate r (t :: List.replicate (rowN c bb w) 0)).flatten) := by
  have hb : r * rowN c bb w ≤ 20 * 200 := Nat.mul_le_mul hr hn
  unfold doF
  rw [if_neg (by rw [ok_chk hok (fun h => by cases h)]; decide), if_neg (by omega), if_neg (by rw [List.length_replicate]; omega), if_neg (by decide), if_neg (by rw [List.length_replicate, Nat.mul_mod_left]; decide), chunk_rep hok.row.1]
  have e := dR_zero (s := stepN c bb) (n := rowN c bb w) (t := t) r [] (fun _ h => by cases h)
  rw [show frOf 10 = 1 from rfl, e]

theorem ok_other {p q c bb w : Int} (h : chk p c bb w = 0) (hq : q = 1 ∨ q = 10) : Ok q c bb w ∧ chk q c bb w = 0 := by
  obtain ⟨⟨_, h1, h2, h3, h4, h5⟩, _⟩ := chk_zero h
  have hk : Ok q c bb w := ⟨by omega, h1, h2, h3, h4, h5⟩
  exact ⟨hk, ok_chk hk (fun e => by omega)⟩

theorem l5_1_eqn {b x : List Int} {e f g rows tag : Int} {n r : Nat} (hr : r ≤ 20) (hn : n ≤ 200) (ht : 0 ≤ tag ∧ tag ≤ 4) {y z : List Int} (hy : y = (List.replicate r (0 :: List.replicate n 0)).flatten) (hz : z = (List.replicate r (tag :: List.replicate n 0)).flatten) :
    l5_1 (b, rows, tag, (n : Int), x, e, y, f, z, g, 0, ()) = some (.inl (b, rows, (n : Int), x, e, y, f, z, g, ())) := by
  have hyl : y.length = r * (n + 1) := by rw [hy, flat_len (n := n + 1) (fun c hc => by rw [List.eq_of_mem_replicate hc]; simp), List.length_replicate]
  have hzl : z.length = r * (n + 1) := by rw [hz, flat_len (n := n + 1) (fun c hc => by rw [List.eq_of_mem_replicate hc]; simp), List.length_replicate]
  have hb : r * (n + 1) ≤ 20 * 201 := Nat.mul_le_mul hr (by omega)
  have hyg : ∀ i, y.getD i 0 = 0 := fun i => getD_zero (fun x hx => by
    rw [hy] at hx
    obtain ⟨c, hc, hx⟩ := List.mem_flatten.1 hx
    rw [List.eq_of_mem_replicate hc] at hx
    rcases List.mem_cons.1 hx with h | h
    · exact h
    · exact mem_rep x h) i
  have hzg : ∀ i, i < z.length → z.getD i 0 = if i % (n + 1) = 0 then tag else 0 := fun i hi => by
    rw [hz, flat_get (n := n + 1) (by omega) _ _ (fun c hc => by rw [List.eq_of_mem_replicate hc]; simp)]
    have hd : i / (n + 1) < r := by rw [Nat.div_lt_iff_lt_mul (by omega)]; omega
    have e1 : (List.replicate r (tag :: List.replicate n (0 : Int))).getD (i / (n + 1)) [] = tag :: List.replicate n 0 := by
      rw [List.getD_eq_getElem?_getD, List.getElem?_replicate, if_pos hd]; rfl
    rw [e1]
    cases hm : i % (n + 1) with
    | zero => rfl
    | succ k => rw [List.getD_cons_succ, getD_zero mem_rep, if_neg (by omega)]
  clear hy hz
  have h := loop_rule (g := g5_1) (outs := o5_1) (body := b5_1)
    (fun q => ∃ i : Nat, i ≤ y.length ∧ q = (b, rows, tag, (n : Int), x, e, y, f, z, g, (i : Int), ()))
    (fun q => y.length - q.2.2.2.2.2.2.2.2.2.2.1.toNat)
    (fun o => o = .inl (b, rows, (n : Int), x, e, y, f, z, g, ())) ?_ 18446744073709551616 (b, rows, tag, (n : Int), x, e, y, f, z, g, 0, ()) ⟨0, by omega, rfl⟩ (by dsimp only; omega)
  · obtain ⟨o, h1, h2⟩ := h
    subst h2
    exact h1
  · rintro q ⟨i, hi, rfl⟩
    unfold b5_1
    dsimp only
    by_cases hc : i < y.length
    · left
      have hzi := hzg i (by omega)
      refine ⟨(b, rows, tag, (n : Int), x, e, y, f, z, g, ((i + 1 : Nat) : Int), ()), ?_, ⟨i + 1, by omega, rfl⟩, by dsimp only; omega⟩
      rw [if_pos (decide_eq_true (by omega)), if_pos (decide_eq_true (by omega)), if_pos (by omega), if_pos (by omega), Int.toNat_natCast, hyg, if_neg (by decide), if_pos (by omega), if_pos (by omega), wrap_i64 (n := (i : Int) + 1) (by omega), wrap_i64 (n := (n : Int) + 1) (by omega)]
      have em : Int.tmod (i : Int) ((n : Int) + 1) = ((i % (n + 1) : Nat) : Int) := by rw [Int.tmod_eq_emod_of_nonneg (by omega), show (n : Int) + 1 = ((n + 1 : Nat) : Int) by omega, ← Int.natCast_emod]
      rw [em]
      by_cases h1 : z.getD i 0 = 0
      · rw [if_neg (fun h => bne_iff_ne.1 h h1)]
        rfl
      · have h2 : i % (n + 1) = 0 := by
          by_cases h3 : i % (n + 1) = 0
          · exact h3
          · rw [if_neg h3] at hzi; exact absurd hzi h1
        rw [if_pos h2] at hzi
        rw [if_pos (bne_iff_ne.2 h1), if_neg (by omega), if_neg (by rw [h2]; decide), if_pos (by omega), if_pos (by omega), hzi, wrap_i64 (by omega), if_neg (by simp)]
        rfl
    · right
      rw [if_neg (fun h => by have := of_decide_eq_true h; omega)]
      exact ⟨_, rfl, rfl⟩

theorem plain_true {p c bb w rows tag : Int} {b : List Int} (hb : IsB b) : f5 (p, c, bb, w, b, rows, tag, ()) = some (true, ()) := by
  obtain ⟨n, h15, hn1, hn2⟩ : ∃ n : Nat, f15 (p, c, bb, w, ()) = some ((n : Int), ()) ∧ n ≤ 4194304 ∧ (chk p c bb w ≠ 1 → n = rowN c bb w) := by
    by_cases h : chk p c bb w = 1
    · exact ⟨0, f15_no h, by omega, fun h' => absurd h h'⟩
    · exact ⟨rowN c bb w, f15_is (chk_ok h) h, (chk_ok h).row.2, fun _ => rfl⟩
  unfold f5
  dsimp only
  rw [h15, Option.bind_some, f12_eqn]
  dsimp only
  simp only [Option.bind_some]
  by_cases c1 : b.length > 2000
  · rw [if_pos (decide_eq_true (by omega))]
  rw [if_neg (fun h => c1 (by have := of_decide_eq_true h; omega))]
  by_cases c2 : rows < 0
  · rw [if_pos (decide_eq_true c2)]
  rw [if_neg (fun h => c2 (of_decide_eq_true h))]
  by_cases c3 : rows > 20
  · rw [if_pos (decide_eq_true c3)]
  rw [if_neg (fun h => c3 (of_decide_eq_true h))]
  by_cases c4 : (n : Int) > 200
  · rw [if_pos (decide_eq_true c4)]
  rw [if_neg (fun h => c4 (of_decide_eq_true h))]
  by_cases c5 : tag < 0
  · rw [if_pos (decide_eq_true c5)]
  rw [if_neg (fun h => c5 (of_decide_eq_true h))]
  by_cases c6 : tag > 4
  · rw [if_pos (decide_eq_true c6)]
  rw [if_neg (fun h => c6 (of_decide_eq_true h)), f13_eqn, Option.bind_some]
  dsimp only
  by_cases c7 : chk p c bb w = 0
  · rw [if_neg (fun h => bne_iff_ne.1 h c7)]
    obtain rfl := hn2 (by omega)
    by_cases c8 : (rowN c bb w : Int) < 1
    · rw [if_pos (decide_eq_true c8)]
    rw [if_neg (fun h => c8 (of_decide_eq_true h)), f8_eqn hb, Option.bind_some]
    have hu : undoF 1 c bb w b = (0, b) := by
      unfold undoF
      rw [if_neg (by rw [(ok_other c7 (.inl rfl)).2]; decide), if_neg (by omega), if_pos rfl]
    rw [hu]
    dsimp only
    obtain ⟨r, rfl⟩ : ∃ r : Nat, rows = (r : Int) := ⟨rows.toNat, by omega⟩
    have hrn : r * rowN c bb w ≤ 20 * 200 := Nat.mul_le_mul (by omega) (by omega)
    have hw : IntKind.wrap .i64 ((r : Int) * (rowN c bb w : Int)) = ((r * rowN c bb w : Nat) : Int) := by
      rw [Int.natCast_mul] at *
      refine wrap_i64 ?_
      have := Int.natCast_mul r (rowN c bb w)
      omega
    have hok := (ok_other c7 (.inr rfl)).1
    have hd0 := doF_zero (t := 0) (r := r) hok (by omega) (by omega) (by omega)
    have hdt := doF_zero (t := tag) (r := r) hok (by omega) (by omega) (by omega)
    rw [hw, if_pos (by omega), if_pos (by omega), if_pos (by omega), Int.toNat_natCast, List.drop_zero, List.take_of_length_le (by rw [List.length_replicate]; omega), f10_eqn (isB_rep _), hd0, Option.bind_some]
    dsimp only
    rw [if_pos (by omega), if_pos (by omega), if_pos (by omega), f10_eqn (isB_rep _), hdt, Option.bind_some]
    dsimp only
    repeat rw [full]
    have hl := l5_1_eqn (b := b) (x := b) (e := 0) (f := 0) (g := 0) (rows := (r : Int)) (tag := tag) (n := rowN c bb w) (r := r) (by omega) (by omega) (by omega) rfl rfl
    have hyl : (List.replicate r ((0 : Int) :: List.replicate (rowN c bb w) 0)).flatten.length = r * (rowN c bb w + 1) := by rw [flat_len (n := rowN c bb w + 1) (fun c hc => by rw [List.eq_of_mem_replicate hc]; simp), List.length_replicate]
    have hzl : (List.replicate r (tag :: List.replicate (rowN c bb w) 0)).flatten.length = r * (rowN c bb w + 1) := by rw [flat_len (n := rowN c bb w + 1) (fun c hc => by rw [List.eq_of_mem_replicate hc]; simp), List.length_replicate]
    generalize (List.replicate r ((0 : Int) :: List.replicate (rowN c bb w) 0)).flatten = y at hl hyl
    generalize (List.replicate r (tag :: List.replicate (rowN c bb w) 0)).flatten = z at hl hzl
    generalize hX : l5_1 _ = X
    rw [show X = _ from hX.symm.trans hl, Option.bind_some, Sum.elim_inl]
    dsimp only
    have hw2 : IntKind.wrap .i64 ((r : Int) * IntKind.wrap .i64 ((rowN c bb w : Int) + 1)) = ((r * (rowN c bb w + 1) : Nat) : Int) := by
      rw [wrap_i64 (n := (rowN c bb w : Int) + 1) (by omega)]
      have e1 : (r : Int) * ((rowN c bb w : Int) + 1) = ((r * (rowN c bb w + 1) : Nat) : Int) := by rw [Int.natCast_mul]; rfl
      have e2 : r * (rowN c bb w + 1) ≤ 20 * 201 := Nat.mul_le_mul (by omega) (by omega)
      rw [e1]
      exact wrap_i64 (by omega)
    rw [hw2, hyl, hzl]
    simp
  · rw [if_pos (bne_iff_ne.2 c7)]

theorem l6_1_eqn {row : List Int} {m : Nat} (hm : m ≤ 20) (hr : row.length ≤ 200) {p c bb w : Int} : l6_1 (row, (m : Int), 0, p, c, bb, w, [], ()) = some (.inl (row, (m : Int), p, c, bb, w, (List.replicate m row).flatten, ())) := by
  have h := loop_rule (g := g6_1) (outs := o6_1) (body := b6_1)
    (fun q => ∃ i : Nat, i ≤ m ∧ q = (row, (m : Int), (i : Int), p, c, bb, w, (List.replicate i row).flatten, ()))
    (fun q => m - q.2.2.1.toNat)
    (fun o => o = .inl (row, (m : Int), p, c, bb, w, (List.replicate m row).flatten, ())) ?_ 18446744073709551616 (row, (m : Int), 0, p, c, bb, w, [], ()) ⟨0, by omega, rfl⟩ (by dsimp only; omega)
  · obtain ⟨o, h1, h2⟩ := h
    subst h2
    exact h1
  · rintro q ⟨i, hi, rfl⟩
    have hl : (List.replicate i row).flatten.length ≤ 20 * 200 := by
      rw [flat_len (n := row.length) (fun c hc => by rw [List.eq_of_mem_replicate hc]), List.length_replicate]
      exact Nat.mul_le_mul (by omega) hr
    have hs : (List.replicate (i + 1) row).flatten = (List.replicate i row).flatten ++ row := by
      rw [List.replicate_succ', List.flatten_append]; simp
    generalize hq : (List.replicate i row).flatten = l at hl hs ⊢
    unfold b6_1
    dsimp only
    by_cases hc : i < m
    · left
      refine ⟨(row, (m : Int), ((i + 1 : Nat) : Int), p, c, bb, w, l ++ row, ()), ?_, ⟨i + 1, by omega, by rw [hs]⟩, by dsimp only; omega⟩
      repeat rw [full]
      rw [if_pos (decide_eq_true (by omega)), if_pos (by omega), if_pos rfl, wrap_i64 (by omega)]
      repeat rw [full]
      rfl
    · right
      have e : i = m := by omega
      subst e
      rw [if_neg (fun h => by have := of_decide_eq_true h; omega), if_pos rfl, hq]
      repeat rw [full]
      exact ⟨_, rfl, rfl⟩

/-- What stands at a place. -/
def upAt (row : List Int) (i : Nat) : Int := if i % (row.length + 1) = 0 then 2 else if i < row.length + 1 then row.getD (i % (row.length + 1) - 1) 0 else 0
theorem l6_2_eqn {row x : List Int} (hr : row.length ≤ 200) (hx : x.length ≤ 5000) (hg : ∀ i, i < x.length → x.getD i 0 = upAt row i) : l6_2 (row, x, 0, ()) = some (.inl ()) := by
  have h := loop_rule (g := g6_2) (outs := o6_2) (body := b6_2)
    (fun q => ∃ i : Nat, i ≤ x.length ∧ q = (row, x, (i : Int), ()))
    (fun q => x.length - q.2.2.1.toNat)
    (fun o => o = .inl ()) ?_ 18446744073709551616 (row, x, 0, ()) ⟨0, by omega, rfl⟩ (by dsimp only; omega)
  · obtain ⟨o, h1, h2⟩ := h
    subst h2
    exact h1
  · rintro q ⟨i, hi, rfl⟩
    unfold b6_2
    dsimp only
    by_cases hc : i < x.length
    · left
      have hxi := hg i hc
      unfold upAt at hxi
      refine ⟨(row, x, ((i + 1 : Nat) : Int), ()), ?_, ⟨i + 1, by omega, rfl⟩, by dsimp only; omega⟩
      have em : Int.tmod (i : Int) ((row.length : Int) + 1) = ((i % (row.length + 1) : Nat) : Int) := by rw [Int.tmod_eq_emod_of_nonneg (by omega), show (row.length : Int) + 1 = ((row.length + 1 : Nat) : Int) by omega, ← Int.natCast_emod]
      have hm : i % (row.length + 1) < row.length + 1 := Nat.mod_lt _ (by omega)
      rw [if_pos (decide_eq_true (by omega)), wrap_i64 (n := (row.length : Int) + 1) (by omega), if_neg (by omega), em]
      by_cases h1 : i % (row.length + 1) = 0
      · rw [if_pos h1] at hxi
        rw [if_pos (by rw [h1]; decide), if_pos (by omega), if_pos (by omega), Int.toNat_natCast, hxi, if_neg (by decide), wrap_i64 (by omega)]
        rfl
      · rw [if_neg h1] at hxi
        rw [if_neg (fun h => h1 (by have := beq_iff_eq.1 h; omega))]
        by_cases h2 : i < row.length + 1
        · rw [if_pos h2] at hxi
          rw [if_pos (decide_eq_true (by omega)), wrap_i64 (n := ((i % (row.length + 1) : Nat) : Int) - 1) (by omega), if_pos (by omega), if_pos (by omega), if_pos (by omega), if_pos (by omega), Int.toNat_natCast, hxi, show (((i % (row.length + 1) : Nat) : Int) - 1).toNat = i % (row.length + 1) - 1 by omega, if_neg (fun h => bne_iff_ne.1 h rfl), wrap_i64 (by omega)]
          rfl
        · rw [if_neg h2] at hxi
          rw [if_neg (fun h => h2 (by have := of_decide_eq_true h; omega)), if_pos (by omega), if_pos (by omega), Int.toNat_natCast, hxi, if_neg (by decide), wrap_i64 (by omega)]
          rfl
    · right
      rw [if_neg (fun h => by have := of_decide_eq_true h; omega)]
      exact ⟨_, rfl, rfl⟩

theorem up_true {row : List Int} {many : Int} (hr : IsB row) : f6 (row, many, ()) = some (true, ()) := by
  unfold f6
  dsimp only
  rw [f12_eqn]
  simp only [Option.bind_some]
  by_cases c1 : (row.length : Int) < 1
  · rw [if_pos (decide_eq_true c1)]
  rw [if_neg (fun h => c1 (of_decide_eq_true h))]
  by_cases c2 : (row.length : Int) > 200
  · rw [if_pos (decide_eq_true c2)]
  rw [if_neg (fun h => c2 (of_decide_eq_true h))]
  by_cases c3 : many < 0
  · rw [if_pos (decide_eq_true c3)]
  rw [if_neg (fun h => c3 (of_decide_eq_true h))]
  by_cases c4 : many > 20
  · rw [if_pos (decide_eq_true c4)]
  rw [if_neg (fun h => c4 (of_decide_eq_true h))]
  obtain ⟨m, rfl⟩ : ∃ m : Nat, many = (m : Int) := ⟨many.toNat, by omega⟩
  rw [l6_1_eqn (by omega) (by omega), Option.bind_some, Sum.elim_inl]
  dsimp only
  repeat rw [full]
  have hok : Ok 12 1 8 (row.length : Int) := ⟨by omega, by omega, by omega, by omega, by omega, by omega⟩
  have hck := ok_chk hok (fun h => by cases h)
  have hrow : rowN 1 8 (row.length : Int) = row.length := by unfold rowN; omega
  have hbl : (List.replicate m row).flatten.length = m * row.length := by rw [flat_len (n := row.length) (fun c hc => by rw [List.eq_of_mem_replicate hc]), List.length_replicate]
  have hbb : IsB (List.replicate m row).flatten := fun x hx => by
    obtain ⟨c, hc, hx⟩ := List.mem_flatten.1 hx
    rw [List.eq_of_mem_replicate hc] at hx
    exact hr x hx
  have hml : m * row.length ≤ 20 * 200 := Nat.mul_le_mul (by omega) (by omega)
  have hdo : doF 12 1 8 (row.length : Int) 2 (List.replicate m row).flatten = (0, (dR 1 1 2 [] (List.replicate m row)).flatten) := by
    unfold doF
    rw [if_neg (by rw [hck]; decide), if_neg (by decide), if_neg (by omega), if_neg (by decide), hrow, if_neg (by rw [hbl, Nat.mul_mod_left]; decide), chunkL_of (by omega) _ (fun c hc => by rw [List.eq_of_mem_replicate hc])]
    rfl
  rw [f10_eqn hbb, hdo, Option.bind_some]
  dsimp only
  repeat rw [full]
  have hdl := dR_len (fr := 1) (s := 1) (n := row.length) (tag := 2) (by omega) (ab := []) (l := List.replicate m row) (fun c hc => by rw [List.eq_of_mem_replicate hc])
  have hxl := flat_len hdl
  rw [dR_no, List.length_replicate] at hxl
  have hml2 : m * (row.length + 1) ≤ 20 * 201 := Nat.mul_le_mul (by omega) (by omega)
  have hxg : ∀ i, i < (dR 1 1 2 [] (List.replicate m row)).flatten.length → (dR 1 1 2 [] (List.replicate m row)).flatten.getD i 0 = upAt row i := fun i hi => by
    rw [hxl] at hi
    rw [flat_get (n := row.length + 1) (by omega) _ _ hdl]
    have hd : i / (row.length + 1) < m := by rw [Nat.div_lt_iff_lt_mul (by omega)]; omega
    have hm0 : 0 < m := Nat.lt_of_le_of_lt (Nat.zero_le _) hd
    obtain ⟨r, rfl⟩ : ∃ r, m = r + 1 := ⟨m - 1, by omega⟩
    rw [dR_first hr]
    unfold upAt
    by_cases h2 : i < row.length + 1
    · rw [Nat.div_eq_of_lt h2, List.getD_cons_zero, if_pos h2]
      cases hm : i % (row.length + 1) with
      | zero => rfl
      | succ k => rw [List.getD_cons_succ, if_neg (by omega), Nat.add_sub_cancel]
    · have hd1 : 1 ≤ i / (row.length + 1) := by rw [Nat.le_div_iff_mul_le (by omega)]; omega
      obtain ⟨j, hj⟩ : ∃ j, i / (row.length + 1) = j + 1 := ⟨i / (row.length + 1) - 1, by omega⟩
      rw [hj, List.getD_cons_succ, if_neg h2]
      have e1 : (List.replicate r ((2 : Int) :: List.replicate row.length 0)).getD j [] = 2 :: List.replicate row.length 0 := by
        rw [List.getD_eq_getElem?_getD, List.getElem?_replicate, if_pos (by omega)]; rfl
      rw [e1]
      cases hm : i % (row.length + 1) with
      | zero => rfl
      | succ k => rw [List.getD_cons_succ, getD_zero mem_rep, if_neg (by omega)]
  have hw : IntKind.wrap .i64 ((m : Int) * IntKind.wrap .i64 ((row.length : Int) + 1)) = ((m * (row.length + 1) : Nat) : Int) := by
    rw [wrap_i64 (n := (row.length : Int) + 1) (by omega)]
    have e1 : (m : Int) * ((row.length : Int) + 1) = ((m * (row.length + 1) : Nat) : Int) := by rw [Int.natCast_mul]; rfl
    rw [e1]
    exact wrap_i64 (by omega)
  rw [if_neg (by decide), hw, hxl, if_neg (fun h => bne_iff_ne.1 h rfl), l6_2_eqn (by omega) (by omega) hxg]
  rfl
end Go.Ev.Pre
