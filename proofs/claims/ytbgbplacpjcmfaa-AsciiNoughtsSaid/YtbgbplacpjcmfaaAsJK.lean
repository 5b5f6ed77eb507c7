/- Part of a proof about the given program: AsJK. -/
import Derived.Test.YtbgbplacpjcmfaaAsBH
namespace Go.Ev.Asc
set_option maxRecDepth 100000
open Go.Proofs

/-! # What was told is got -/
theorem chunkL_nil : chunkL 4 ([] : List Int) = [] := rfl
theorem chunkL_cons {xs : List Int} (h : xs ≠ []) : chunkL 4 xs = xs.take 4 :: chunkL 4 (xs.drop 4) := by
  have h1 : 1 ≤ xs.length := List.length_pos_iff.2 h
  have e : chunkNo 4 xs.length = chunkNo 4 (xs.length - 4) + 1 := by unfold chunkNo; omega
  unfold chunkL
  rw [e, List.range_succ_eq_map, List.map_cons, List.map_map, List.length_drop]
  congr 1
  apply List.map_congr_left
  intro k _
  simp only [chunks, Function.comp_apply, List.drop_drop]
  rw [show k.succ * 4 = 4 + k * 4 by omega]
theorem chunkL_ind (C : List Int → Prop) (h0 : C []) (h1 : ∀ xs, xs ≠ [] → C (xs.drop 4) → C xs) : ∀ xs, C xs := by
  intro xs
  generalize hm : xs.length = m
  induction m using Nat.strongRecOn generalizing xs with
  | ind m ih =>
    by_cases e : xs = []
    · rw [e]; exact h0
    · exact h1 xs e (ih _ (by rw [List.length_drop]; have := List.length_pos_iff.2 e; omega) _ rfl)
theorem putA_chunks (b : List Int) : putA b = (chunkL 4 b).flatMap groupA := by
  unfold putA putB chunkL
  rw [List.flatMap_map]
theorem putA_nil : putA [] = [] := rfl
theorem putA_cons {b : List Int} (h : b ≠ []) : putA b = groupA (b.take 4) ++ putA (b.drop 4) := by
  rw [putA_chunks, putA_chunks, chunkL_cons h, List.flatMap_cons]

/-! ## White turns nothing -/
theorem scanH_white {w : Int} (hw : white w = true) (hd : dig w < 0) : ∀ (A ds B : List Int), scanH ds (A ++ w :: B) = scanH ds (A ++ B)
  | [], ds, B => by rw [List.nil_append, scanH_cons, if_pos hd, if_pos hw, List.nil_append]
  | c :: A, ds, B => by
    rw [List.cons_append, List.cons_append, scanH_cons, scanH_cons, scanH_white hw hd A ds B, scanH_white hw hd A (ds ++ [dig c]) B]
theorem getL_white {w : Int} (hw : white w = true) : ∀ (A out row B : List Int), getL out row (A ++ w :: B) = getL out row (A ++ B)
  | [], out, row, B => by rw [List.nil_append, getL_cons, if_pos hw, List.nil_append]
  | c :: A, out, row, B => by
    rw [List.cons_append, List.cons_append, getL_cons, getL_cons, getL_white hw A out row B, getL_white hw A (out ++ [0, 0, 0, 0]) row B, getL_white hw A (out ++ fourB (num (row ++ [c - 33]))) [] B, getL_white hw A out (row ++ [c - 33]) B]

/-! ## Sixteens -/
theorem cutC_at : ∀ (L r : List Int), (∀ x ∈ L, x ≠ 62) → cutC (L ++ 62 :: r) = some L
  | [], r, _ => by rw [List.nil_append, cutC_cons, if_pos rfl]
  | c :: L, r, h => by rw [List.cons_append, cutC_cons, if_neg (h c (List.mem_cons_self ..)), cutC_at L r (fun x hx => h x (List.mem_cons_of_mem _ hx))]; rfl
def digs : List Int → List Int
  | [] => []
  | x :: xs => x / 16 :: x % 16 :: digs xs
theorem digs_nibs : ∀ {b : List Int}, IsB b → nibs (digs b) = b
  | [], _ => by simp [digs, nibs]
  | x :: b, h => by
    have hx := h x (List.mem_cons_self ..)
    simp only [digs, nibs, digs_nibs (fun y hy => h y (List.mem_cons_of_mem _ hy))]
    rw [show 16 * (x / 16) + x % 16 = x by omega]
theorem dig_hexDig {y : Int} (h : 0 ≤ y ∧ y < 16) : dig (hexDig y) = y := by
  unfold dig hexDig
  split <;> (repeat' split) <;> omega
theorem scanH_hex : ∀ {b : List Int} (ds : List Int), IsB b → scanH ds (hexA b) = some (ds ++ digs b)
  | [], ds, _ => by simp [hexA, scanH, digs]
  | x :: b, ds, h => by
    have hx := h x (List.mem_cons_self ..)
    simp only [hexA, digs]
    rw [scanH_cons, dig_hexDig (by omega), if_neg (by omega), scanH_cons, dig_hexDig (by omega), if_neg (by omega), scanH_hex _ (fun y hy => h y (List.mem_cons_of_mem _ hy))]
    simp
theorem hexA_no62 : ∀ {b : List Int}, IsB b → ∀ x ∈ hexA b, x ≠ 62
  | [], _, x, hx => by cases hx
  | y :: b, h, x, hx => by
    have hy := h y (List.mem_cons_self ..)
    have e : ∀ z : Int, 0 ≤ z ∧ z < 16 → hexDig z ≠ 62 := fun z hz => by unfold hexDig; split <;> omega
    simp only [hexA, List.mem_cons] at hx
    rcases hx with rfl | rfl | hx
    · exact e _ (by omega)
    · exact e _ (by omega)
    · exact hexA_no62 (fun z hz => h z (List.mem_cons_of_mem _ hz)) x hx
theorem unhexF_of {t L b : List Int} {most : Int} (hb : IsB b) (hm : 0 ≤ most ∧ most ≤ 1048576) (hc : cutC t = some L) (hs : scanH [] L = some (digs b)) : unhexF t most = if most < b.length then ([], 2) else (b, 0) := by
  unfold unhexF
  rw [if_neg (by omega), hc]
  dsimp only
  rw [hs]
  dsimp only
  rw [digs_nibs hb]

/-! ## Eighty-fives -/
theorem cutD_at : ∀ (L r : List Int), (∀ x ∈ L, x ≠ 126) → cutD (L ++ 126 :: 62 :: r) = some L
  | [], r, _ => by rw [List.nil_append, cutD_cons, if_pos ⟨rfl, rfl⟩]
  | c :: L, r, h => by rw [List.cons_append, cutD_cons, if_neg (fun e => h c (List.mem_cons_self ..) e.1), cutD_at L r (fun x hx => h x (List.mem_cons_of_mem _ hx))]; rfl
theorem groupA_sign {p : List Int} : ∀ x ∈ groupA p, x = 122 ∨ (33 ≤ x ∧ x ≤ 117) := fun x hx => by
  unfold groupA at hx
  split at hx
  · exact .inl (List.mem_singleton.1 hx)
  · have := List.mem_of_mem_take hx
    simp only [fiveA, List.mem_cons, List.not_mem_nil, or_false, sign] at this
    omega
theorem putA_no126 (b : List Int) : ∀ x ∈ putA b, x ≠ 126 := fun x hx => by
  rw [putA_chunks] at hx
  obtain ⟨p, _, hx⟩ := List.mem_flatMap.1 hx
  have := groupA_sign x hx
  omega
theorem step_sign {out row cs : List Int} {c : Int} (h : 33 ≤ c ∧ c ≤ 117) : getL out row (c :: cs) = if row.length = 4 then (if 4294967295 < num (row ++ [c - 33]) then none else getL (out ++ fourB (num (row ++ [c - 33]))) [] cs) else getL out (row ++ [c - 33]) cs := by
  have hw : white c = false := by
    unfold white
    simp only [Bool.or_eq_false_iff, decide_eq_false_iff_not]
    omega
  rw [getL_cons, hw, if_neg (by decide), if_neg (by omega), if_neg (by omega)]
/-- The digits of a number. -/
theorem num_five {N : Int} (h : 0 ≤ N ∧ N < 4294967296) : num [sign N 4 - 33, sign N 3 - 33, sign N 2 - 33, sign N 1 - 33, sign N 0 - 33] = N := by
  obtain ⟨a0, _, a1⟩ := div85 h.1 0
  obtain ⟨b0, _, b1⟩ := div85 h.1 1
  obtain ⟨c0, _, c1⟩ := div85 h.1 2
  obtain ⟨d0, _, d1⟩ := div85 h.1 3
  obtain ⟨e0, _, _⟩ := div85 h.1 4
  unfold num numK numK numK numK numK numK sign
  simp only [List.getD_cons_zero, List.getD_cons_succ]
  rw [Int.pow_zero, Int.ediv_one] at a1 ⊢
  omega
theorem five_digits {N : Int} (h : 0 ≤ N ∧ N < 4294967296) : ∃ r0 r1 r2 r3 r4 : Int, (0 ≤ r0 ∧ r0 < 85) ∧ (0 ≤ r1 ∧ r1 < 85) ∧ (0 ≤ r2 ∧ r2 < 85) ∧ (0 ≤ r3 ∧ r3 < 85) ∧ (0 ≤ r4 ∧ r4 < 85) ∧ N = (((r4 * 85 + r3) * 85 + r2) * 85 + r1) * 85 + r0 ∧
    N / 85 ^ 0 % 85 = r0 ∧ N / 85 ^ 1 % 85 = r1 ∧ N / 85 ^ 2 % 85 = r2 ∧ N / 85 ^ 3 % 85 = r3 ∧ N / 85 ^ 4 % 85 = r4 := by
  have e := num_five h
  refine ⟨_, _, _, _, _, ?_, ?_, ?_, ?_, ?_, ?_, rfl, rfl, rfl, rfl, rfl⟩
  · omega
  · omega
  · omega
  · omega
  · omega
  · unfold num numK numK numK numK numK numK sign at e
    simp only [List.getD_cons_zero, List.getD_cons_succ] at e
    omega
theorem sign_ok (N : Int) (j : Nat) : 33 ≤ sign N j ∧ sign N j ≤ 117 := by unfold sign; omega
theorem fourB_word {a b c d : Int} (ha : 0 ≤ a ∧ a < 256) (hb : 0 ≤ b ∧ b < 256) (hc : 0 ≤ c ∧ c < 256) (hd : 0 ≤ d ∧ d < 256) : fourB (((a * 256 + b) * 256 + c) * 256 + d) = [a, b, c, d] := by
  unfold fourB
  rw [show (((a * 256 + b) * 256 + c) * 256 + d) / 16777216 % 256 = a by omega, show (((a * 256 + b) * 256 + c) * 256 + d) / 65536 % 256 = b by omega, show (((a * 256 + b) * 256 + c) * 256 + d) / 256 % 256 = c by omega, show (((a * 256 + b) * 256 + c) * 256 + d) % 256 = d by omega]
theorem get_group {p out cs : List Int} (hp : IsB p) (h4 : p.length = 4) : getL out [] (groupA p ++ cs) = getL (out ++ p) [] cs := by
  have hw := wordK_range hp 4
  rw [show (256 : Int) ^ 4 = 4294967296 by decide] at hw
  match p, h4, hp with
  | [a, b, c, d], _, hp =>
    have ha := hp a (by simp); have hb := hp b (by simp); have hc := hp c (by simp); have hd := hp d (by simp)
    have hN : wordK [a, b, c, d] 4 = ((a * 256 + b) * 256 + c) * 256 + d := by simp [wordK]
    unfold groupA
    by_cases hz : wordK [a, b, c, d] 4 = 0
    · rw [if_pos ⟨hz, rfl⟩, List.singleton_append, getL_cons, if_neg (by decide), if_pos ⟨rfl, rfl⟩]
      rw [hN] at hz
      rw [show a = 0 by omega, show b = 0 by omega, show c = 0 by omega, show d = 0 by omega]
    · rw [if_neg (fun h => hz h.1)]
      have hF := fourB_word ha hb hc hd
      rw [← hN] at hF
      generalize wordK [a, b, c, d] 4 = N at hw hF
      show getL out [] (sign N 4 :: sign N 3 :: sign N 2 :: sign N 1 :: sign N 0 :: cs) = _
      rw [step_sign (sign_ok N 4), if_neg (by simp), step_sign (sign_ok N 3), if_neg (by simp), step_sign (sign_ok N 2), if_neg (by simp), step_sign (sign_ok N 1), if_neg (by simp), step_sign (sign_ok N 0), if_pos (by simp)]
      simp only [List.nil_append, List.cons_append]
      rw [num_five hw, if_neg (by omega), hF]
theorem get_last {p out : List Int} (hp : IsB p) (h1 : 1 ≤ p.length) (h3 : p.length ≤ 3) : ∃ q, getL out [] (groupA p) = some q ∧ fin q.1 q.2 = some (out ++ p) := by
  have hw := wordK_range hp 4
  rw [show (256 : Int) ^ 4 = 4294967296 by decide] at hw
  have hg : groupA p = (fiveA (wordK p 4)).take (p.length + 1) := by
    unfold groupA
    rw [if_neg (fun h => by omega)]
  rw [hg]
  obtain ⟨r0, r1, r2, r3, r4, q0, q1, q2, q3, q4, hS, z0, z1, z2, z3, z4⟩ := five_digits hw
  match p, h1, h3, hp with
  | [a], _, _, hp =>
    have ha := hp a (by simp)
    have hN : wordK [a] 4 = ((a * 256) * 256) * 256 := by simp [wordK]
    generalize wordK [a] 4 = N at hw hN hS z0 z1 z2 z3 z4
    refine ⟨(out, [sign N 4 - 33, sign N 3 - 33]), ?_, ?_⟩
    · show getL out [] [sign N 4, sign N 3] = _
      rw [step_sign (sign_ok N 4), if_neg (by simp), step_sign (sign_ok N 3), if_neg (by simp)]
      rfl
    · have hn : num [sign N 4 - 33, sign N 3 - 33] = ((r4 * 85 + r3) * 85 + 84) * 7225 + 7224 := by
        unfold num numK numK numK numK numK numK sign
        simp only [List.getD_cons_zero, List.getD_cons_succ, List.getD_nil, z3, z4]
        omega
      rw [hN] at hS
      clear z0 z1 z2 z3 z4 hw hN
      obtain ⟨Y, hY⟩ : ∃ Y, ((r4 * 85 + r3) * 85 + 84) * 7225 + 7224 = Y := ⟨_, rfl⟩
      have y1 : a * 16777216 ≤ Y := by omega
      have y2 : Y < a * 16777216 + 16777216 := by omega
      rw [hY] at hn
      clear hY hS
      unfold fin
      dsimp only
      rw [if_neg (by simp), if_neg (by simp), hn, if_neg (by omega)]
      simp only [List.length_cons, List.length_nil, Nat.reduceAdd, Nat.reduceSub, fourB, List.take_succ_cons, List.take_zero]
      rw [show Y / 16777216 % 256 = a by omega]
  | [a, b], _, _, hp =>
    have ha := hp a (by simp); have hb := hp b (by simp)
    have hN : wordK [a, b] 4 = ((a * 256 + b) * 256) * 256 := by simp [wordK]
    generalize wordK [a, b] 4 = N at hw hN hS z0 z1 z2 z3 z4
    refine ⟨(out, [sign N 4 - 33, sign N 3 - 33, sign N 2 - 33]), ?_, ?_⟩
    · show getL out [] [sign N 4, sign N 3, sign N 2] = _
      rw [step_sign (sign_ok N 4), if_neg (by simp), step_sign (sign_ok N 3), if_neg (by simp), step_sign (sign_ok N 2), if_neg (by simp)]
      rfl
    · have hn : num [sign N 4 - 33, sign N 3 - 33, sign N 2 - 33] = ((r4 * 85 + r3) * 85 + r2) * 7225 + 7224 := by
        unfold num numK numK numK numK numK numK sign
        simp only [List.getD_cons_zero, List.getD_cons_succ, List.getD_nil, z2, z3, z4]
        omega
      rw [hN] at hS
      clear z0 z1 z2 z3 z4 hw hN
      obtain ⟨Y, hY⟩ : ∃ Y, ((r4 * 85 + r3) * 85 + r2) * 7225 + 7224 = Y := ⟨_, rfl⟩
      have y1 : (a * 256 + b) * 65536 ≤ Y := by omega
      have y2 : Y < (a * 256 + b) * 65536 + 65536 := by omega
      rw [hY] at hn
      clear hY hS
      unfold fin
      dsimp only
      rw [if_neg (by simp), if_neg (by simp), hn, if_neg (by omega)]
      simp only [List.length_cons, List.length_nil, Nat.reduceAdd, Nat.reduceSub, fourB, List.take_succ_cons, List.take_zero]
      rw [show Y / 16777216 % 256 = a by omega, show Y / 65536 % 256 = b by omega]
  | [a, b, c], _, _, hp =>
    have ha := hp a (by simp); have hb := hp b (by simp); have hc := hp c (by simp)
    have hN : wordK [a, b, c] 4 = ((a * 256 + b) * 256 + c) * 256 := by simp [wordK]
    generalize wordK [a, b, c] 4 = N at hw hN hS z0 z1 z2 z3 z4
    refine ⟨(out, [sign N 4 - 33, sign N 3 - 33, sign N 2 - 33, sign N 1 - 33]), ?_, ?_⟩
    · show getL out [] [sign N 4, sign N 3, sign N 2, sign N 1] = _
      rw [step_sign (sign_ok N 4), if_neg (by simp), step_sign (sign_ok N 3), if_neg (by simp), step_sign (sign_ok N 2), if_neg (by simp), step_sign (sign_ok N 1), if_neg (by simp)]
      rfl
    · have hn : num [sign N 4 - 33, sign N 3 - 33, sign N 2 - 33, sign N 1 - 33] = (((r4 * 85 + r3) * 85 + r2) * 85 + r1) * 85 + 84 := by
        unfold num numK numK numK numK numK numK sign
        simp only [List.getD_cons_zero, List.getD_cons_succ, List.getD_nil, z1, z2, z3, z4]
        omega
      rw [hN] at hS
      clear z0 z1 z2 z3 z4 hw hN
      obtain ⟨Y, hY⟩ : ∃ Y, (((r4 * 85 + r3) * 85 + r2) * 85 + r1) * 85 + 84 = Y := ⟨_, rfl⟩
      have y1 : ((a * 256 + b) * 256 + c) * 256 ≤ Y := by omega
      have y2 : Y < ((a * 256 + b) * 256 + c) * 256 + 256 := by omega
      rw [hY] at hn
      clear hY hS
      unfold fin
      dsimp only
      rw [if_neg (by simp), if_neg (by simp), hn, if_neg (by omega)]
      simp only [List.length_cons, List.length_nil, Nat.reduceAdd, Nat.reduceSub, fourB, List.take_succ_cons, List.take_zero]
      rw [show Y / 16777216 % 256 = a by omega, show Y / 65536 % 256 = b by omega, show Y / 256 % 256 = c by omega]
theorem get_put : ∀ (b out : List Int), IsB b → (getL out [] (putA b)).bind (fun p => fin p.1 p.2) = some (out ++ b) := by
  intro b
  refine chunkL_ind (fun b => ∀ out, IsB b → (getL out [] (putA b)).bind (fun p => fin p.1 p.2) = some (out ++ b)) (fun out _ => by rw [putA_nil]; simp [getL, fin]) (fun b hne ih out hb => ?_) b
  have hl := List.length_pos_iff.2 hne
  rw [putA_cons hne]
  rcases Nat.lt_or_ge b.length 4 with h | h
  · have e : b.drop 4 = [] := List.drop_of_length_le (by omega)
    rw [e, putA_nil, List.append_nil, List.take_of_length_le (by omega)]
    obtain ⟨q, h1, h2⟩ := get_last (out := out) hb hl (by omega)
    rw [h1]
    exact h2
  · rw [get_group (hb.take 4) (by rw [List.length_take]; omega), ih _ (hb.drop 4), List.append_assoc, List.take_append_drop]
theorem getF_of {t L b : List Int} {most : Int} (hm : 0 ≤ most ∧ most ≤ 1048576) (hc : cutD t = some L) (hs : (getL [] [] L).bind (fun p => fin p.1 p.2) = some b) : getF t most = if most < b.length then ([], 2) else (b, 0) := by
  unfold getF
  rw [if_neg (by omega), hc]
  dsimp only
  rw [hs]
end Go.Ev.Asc
namespace Go.Ev.Asc
set_option maxRecDepth 100000
open Go.Proofs

theorem hexA_isB {b : List Int} (hb : IsB b) : IsB (hexA b) := hexA_range hb
theorem putA_isB (b : List Int) : IsB (putA b) := putB_range b _
theorem unhex_in {b R : List Int} {i : Nat} {most : Int} (hb : IsB b) (hm : 0 ≤ most ∧ most ≤ 1048576) (W : List Int) (hW : W = [] ∨ W = [32, 10]) : unhexF (List.take i (hexA b) ++ W ++ (List.drop i (hexA b) ++ [62]) ++ R) most = if most < b.length then ([], 2) else (b, 0) := by
  have hn : ∀ x ∈ List.take i (hexA b) ++ W ++ List.drop i (hexA b), x ≠ 62 := fun x hx => by
    rcases List.mem_append.1 hx with h | h
    · rcases List.mem_append.1 h with h | h
      · exact hexA_no62 hb x (List.mem_of_mem_take h)
      · rcases hW with rfl | rfl
        · cases h
        · simp at h; omega
    · exact hexA_no62 hb x (List.mem_of_mem_drop h)
  have hc := cutC_at _ R hn
  refine unhexF_of (L := List.take i (hexA b) ++ W ++ List.drop i (hexA b)) hb hm (by rw [← hc]; simp) ?_
  have e : scanH [] (List.take i (hexA b) ++ List.drop i (hexA b)) = some (digs b) := by rw [List.take_append_drop, scanH_hex [] hb]; rfl
  rcases hW with rfl | rfl
  · rw [List.append_nil]; exact e
  · rw [List.append_assoc, List.cons_append, scanH_white (by decide) (by decide), List.cons_append, scanH_white (by decide) (by decide), List.nil_append]
    exact e
theorem get_in {b R : List Int} {k : Nat} {most : Int} (hb : IsB b) (hm : 0 ≤ most ∧ most ≤ 1048576) (W : List Int) (hW : W = [] ∨ W = [9]) : getF (List.take k (putA b) ++ W ++ (List.drop k (putA b) ++ [126, 62]) ++ R) most = if most < b.length then ([], 2) else (b, 0) := by
  have hn : ∀ x ∈ List.take k (putA b) ++ W ++ List.drop k (putA b), x ≠ 126 := fun x hx => by
    rcases List.mem_append.1 hx with h | h
    · rcases List.mem_append.1 h with h | h
      · exact putA_no126 b x (List.mem_of_mem_take h)
      · rcases hW with rfl | rfl
        · cases h
        · simp at h; omega
    · exact putA_no126 b x (List.mem_of_mem_drop h)
  have hc := cutD_at _ R hn
  refine getF_of (L := List.take k (putA b) ++ W ++ List.drop k (putA b)) hm (by rw [← hc]; simp) ?_
  have e : (getL [] [] (List.take k (putA b) ++ List.drop k (putA b))).bind (fun p => fin p.1 p.2) = some b := by rw [List.take_append_drop, get_put b [] hb]; rfl
  rcases hW with rfl | rfl
  · rw [List.append_nil]; exact e
  · rw [List.append_assoc, List.cons_append, getL_white (by decide), List.nil_append]
    exact e
theorem back_true {b : List Int} (hb : IsB b) (at' : Int) (rest : ByteArray) : f5 (b, at', rest, ()) = some (true, ()) := by
  obtain ⟨R, hR, rfl⟩ := str_any rest
  unfold f5
  dsimp only
  rw [str_size]
  by_cases h1 : b.length > 500
  · rw [if_pos (decide_eq_true (by omega))]
  rw [if_neg (fun h => h1 (by have := of_decide_eq_true h; omega))]
  by_cases h2 : R.length > 300
  · rw [if_pos (decide_eq_true (by omega))]
  rw [if_neg (fun h => h2 (by have := of_decide_eq_true h; omega))]
  by_cases h3 : at' < 0
  · rw [if_pos (decide_eq_true h3)]
  rw [if_neg (fun h => h3 (of_decide_eq_true h)), f10_eqn hb (by omega), Option.bind_some, f12_eqn hb (by omega), Option.bind_some]
  obtain ⟨a, rfl⟩ : ∃ a : Nat, at' = (a : Int) := ⟨at'.toNat, by omega⟩
  have hxl := hexA_len b
  have hpl : (putA b).length ≤ 5 * b.length := by
    have := putB_len b (chunkNo 4 b.length)
    have e : chunkNo 4 b.length ≤ b.length := by unfold chunkNo; omega
    unfold putA
    omega
  have hXl : (hexA b ++ [62]).length = 2 * b.length + 1 := by simp [hxl]
  have hYl : (putA b ++ [126, 62]).length = (putA b).length + 2 := by simp
  obtain ⟨i, hi, hi2⟩ : ∃ i : Nat, Int.tmod (a : Int) (((hexA b ++ [62]).length : Nat) : Int) = (i : Int) ∧ i ≤ (hexA b).length := by
    refine ⟨a % (2 * b.length + 1), ?_, ?_⟩
    · rw [hXl, Int.tmod_eq_emod_of_nonneg (by omega)]; omega
    · have := Nat.mod_lt a (show 0 < 2 * b.length + 1 by omega); omega
  obtain ⟨k, hk, hk2⟩ : ∃ k : Nat, Int.tmod (a : Int) ((((putA b).length + 1 : Nat) : Nat) : Int) = (k : Int) ∧ k ≤ (putA b).length := by
    refine ⟨a % ((putA b).length + 1), ?_, ?_⟩
    · rw [Int.tmod_eq_emod_of_nonneg (by omega), ← Int.natCast_emod]
    · have := Nat.mod_lt a (show 0 < (putA b).length + 1 by omega); omega
  have ew : IntKind.wrap .i64 ((((putA b ++ [126, 62]).length : Nat) : Int) - 1) = (((putA b).length + 1 : Nat) : Int) := by rw [hYl, wrap_i64 (by omega)]; omega
  dsimp only
  simp only [show ByteArray.mk #[32, 10] = bytesStr [32, 10] from rfl, show ByteArray.mk #[9] = bytesStr [9] from rfl, str_size, ew, hi, hk, Int.toNat_natCast, str_cut, str_cat, List.drop_zero, List.take_length]
  have hLX : List.length (List.drop i (hexA b ++ [62])) = 2 * b.length + 1 - i := by rw [List.length_drop, hXl]
  have hTX : List.length (List.take i (hexA b ++ [62])) = i := by rw [List.length_take, hXl]; omega
  have hLY : List.length (List.drop k (putA b ++ [126, 62])) = (putA b).length + 2 - k := by rw [List.length_drop, hYl]
  have hTY : List.length (List.take k (putA b ++ [126, 62])) = k := by rw [List.length_take, hYl]; omega
  rw [if_neg (fun h => by have := of_decide_eq_true h; omega), if_neg (fun h => by have := of_decide_eq_true h; omega), if_neg (by omega), if_neg (by omega)]
  simp only [List.length_append, hLX, hTX, hLY, hTY, hxl, List.length_cons, List.length_nil]
  repeat rw [if_pos (by omega)]
  have t1 : List.take i (hexA b ++ [62]) = List.take i (hexA b) := List.take_append_of_le_length hi2
  have t2 : List.drop i (hexA b ++ [62]) = List.drop i (hexA b) ++ [62] := List.drop_append_of_le_length hi2
  have t3 : List.take k (putA b ++ [126, 62]) = List.take k (putA b) := List.take_append_of_le_length hk2
  have t4 : List.drop k (putA b ++ [126, 62]) = List.drop k (putA b) ++ [126, 62] := List.drop_append_of_le_length hk2
  have u := unhex_in (R := R) (i := i) (most := 500) hb (by omega) [32, 10] (.inr rfl)
  have g := get_in (R := R) (k := k) (most := 500) hb (by omega) [9] (.inr rfl)
  rw [if_neg (by omega)] at u g
  have b1 : IsB (List.take i (hexA b) ++ [32, 10] ++ (List.drop i (hexA b) ++ [62]) ++ R) := IsB.append (IsB.append (IsB.append ((hexA_isB hb).take i) (fun x hx => by simp at hx; omega)) (IsB.append ((hexA_isB hb).drop i) (IsB.one (by omega)))) hR
  have b2 : IsB (List.take k (putA b) ++ [9] ++ (List.drop k (putA b) ++ [126, 62]) ++ R) := IsB.append (IsB.append (IsB.append ((putA_isB b).take k) (IsB.one (by omega))) (IsB.append ((putA_isB b).drop k) (fun x hx => by simp at hx; omega))) hR
  rw [t1, t2, t3, t4, f14_eqn b1 (by simp; omega), u, Option.bind_some]
  dsimp only
  repeat rw [if_pos (by omega)]
  rw [f16_eqn b2 (by simp; omega), g, Option.bind_some, f9_eqn, Option.bind_some]
  dsimp only
  rw [if_pos rfl, if_pos (by decide), if_pos (by decide), if_pos (by simp)]
  simp

/-! ## How many -/
theorem putA_size : ∀ b : List Int, b.length / 4 + (if b.length % 4 = 0 then 0 else b.length % 4 + 1) ≤ (putA b).length ∧ (putA b).length ≤ b.length / 4 * 5 + (if b.length % 4 = 0 then 0 else b.length % 4 + 1) := by
  refine chunkL_ind _ (by simp [putA_nil]) (fun b hne ih => ?_)
  have hl := List.length_pos_iff.2 hne
  rw [putA_cons hne, List.length_append]
  rw [List.length_drop] at ih
  have ht : (b.take 4).length = min 4 b.length := List.length_take
  rcases Nat.lt_or_ge b.length 4 with h | h
  · have e : b.drop 4 = [] := List.drop_of_length_le (by omega)
    have hg : (groupA (b.take 4)).length = b.length + 1 := by
      unfold groupA
      rw [if_neg (fun h2 => by omega), List.length_take, ht]
      simp [fiveA]; omega
    rw [e, putA_nil, hg, if_neg (by omega)]
    simp only [List.length_nil]
    omega
  · have hg : 1 ≤ (groupA (b.take 4)).length ∧ (groupA (b.take 4)).length ≤ 5 := by
      refine ⟨?_, groupA_len _⟩
      unfold groupA
      split
      · simp
      · rw [List.length_take]; simp [fiveA]; omega
    have e1 : (b.length - 4) % 4 = b.length % 4 := by omega
    have e2 : b.length / 4 = (b.length - 4) / 4 + 1 := by omega
    rw [e1] at ih
    rw [e2]
    split at ih <;> rename_i hm
    · rw [if_pos hm]; omega
    · rw [if_neg hm]; omega
theorem sizes_true {b : List Int} (hb : IsB b) (most : Int) : f6 (b, most, ()) = some (true, ()) := by
  unfold f6
  dsimp only
  by_cases h1 : b.length > 500
  · rw [if_pos (decide_eq_true (by omega))]
  rw [if_neg (fun h => h1 (by have := of_decide_eq_true h; omega))]
  by_cases h2 : most < 0
  · rw [if_pos (decide_eq_true h2)]
  rw [if_neg (fun h => h2 (of_decide_eq_true h))]
  by_cases h3 : most > 1048576
  · rw [if_pos (decide_eq_true h3)]
  rw [if_neg (fun h => h3 (of_decide_eq_true h)), f10_eqn hb (by omega), Option.bind_some, f12_eqn hb (by omega), Option.bind_some]
  dsimp only
  have et : Int.tmod ((b.length : Nat) : Int) 4 = ((b.length % 4 : Nat) : Int) := by rw [Int.tmod_eq_emod_of_nonneg (by omega)]; omega
  have ed : IntKind.wrap .i64 (Int.tdiv ((b.length : Nat) : Int) 4) = ((b.length / 4 : Nat) : Int) := by rw [Int.tdiv_eq_ediv_of_nonneg (by omega), wrap_i64 (by omega)]; omega
  obtain ⟨left, hleft, hb6⟩ : ∃ left : Nat, left = (if b.length % 4 = 0 then 0 else b.length % 4 + 1) ∧ ∀ (x y : ByteArray), b6_1 (most, (b.length : Int), x, y, ((b.length % 4 : Nat) : Int), ()) = some (.inl (most, (b.length : Int), x, y, (left : Int), ())) := by
    refine ⟨_, rfl, fun x y => ?_⟩
    unfold b6_1
    dsimp only
    by_cases h : b.length % 4 = 0
    · rw [if_neg (fun h2 => by have := of_decide_eq_true h2; omega), if_pos h, h]
    · rw [if_pos (decide_eq_true (by omega)), if_neg h, wrap_i64 (by omega)]
      congr 7
  have hps := putA_size b
  rw [← hleft] at hps
  have hl5 : left ≤ 4 := by rw [hleft]; split <;> omega
  rw [et, hb6, Option.bind_some, Sum.elim_inl]
  dsimp only
  have u := unhex_in (R := []) (i := (hexA b).length) (most := most) hb (by omega) [] (.inl rfl)
  have g := get_in (R := []) (k := (putA b).length) (most := most) hb (by omega) [] (.inl rfl)
  rw [List.take_length, List.drop_length, List.append_nil, List.append_nil, List.nil_append] at u g
  have b1 : IsB (hexA b ++ [62]) := IsB.append (hexA_isB hb) (IsB.one (by omega))
  have b2 : IsB (putA b ++ [126, 62]) := IsB.append (putA_isB b) (fun x hx => by simp at hx; omega)
  have hxl := hexA_len b
  rw [f14_eqn b1 (by simp; omega), u, Option.bind_some, f16_eqn b2 (by simp; omega), g, Option.bind_some, f9_eqn, Option.bind_some]
  dsimp only
  rw [if_pos rfl, str_size, str_size, ed, List.length_append, List.length_append, hxl, List.length_singleton, show ([126, 62] : List Int).length = 2 from rfl, wrap_i64 (n := 2 * (b.length : Int)) (by omega), wrap_i64 (by omega), if_pos (beq_iff_eq.2 (by omega)), wrap_i64 (n := ((b.length / 4 : Nat) : Int) * 5) (by omega), wrap_i64 (n := ((b.length / 4 : Nat) : Int) * 5 + left) (by omega), wrap_i64 (n := ((b.length / 4 : Nat) : Int) * 5 + left + 2) (by omega), if_pos (decide_eq_true (by omega)), wrap_i64 (n := ((b.length / 4 : Nat) : Int) + left) (by omega), wrap_i64 (by omega), if_pos (decide_eq_true (by omega))]
  by_cases h5 : most < (b.length : Int)
  · rw [if_pos h5, decide_eq_false (by omega)]; rfl
  · rw [if_neg h5, decide_eq_true (by omega)]; rfl
end Go.Ev.Asc
