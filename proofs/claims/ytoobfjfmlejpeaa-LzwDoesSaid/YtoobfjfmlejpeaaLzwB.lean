/- Part of a proof about the given program: LzwB. -/
import Derived.Test.YtoobfjfmlejpeaaLzwP
namespace Go.Ev.Lzw

theorem head_of {v n p j : Nat} {rest : List (Nat × Nat)} (hf : Fit rest) (hj : j < 2 ^ p) :
    (cn ((v, n) :: rest) * 2 ^ p + j) / 2 ^ (cl ((v, n) :: rest) + p - n) = v ∧ (cn ((v, n) :: rest) * 2 ^ p + j) % 2 ^ (cl ((v, n) :: rest) + p - n) = cn rest * 2 ^ p + j ∧ cl ((v, n) :: rest) + p - n = cl rest + p := by
  have hlt := cn_lt hf
  have e1 : cl ((v, n) :: rest) + p - n = cl rest + p := by simp only [cl]; omega
  have e2 : cn ((v, n) :: rest) * 2 ^ p + j = v * 2 ^ (cl rest + p) + (cn rest * 2 ^ p + j) := by
    simp only [cn, Nat.add_mul, Nat.pow_add, Nat.mul_assoc, Nat.add_assoc]
  have hlt2 : cn rest * 2 ^ p + j < 2 ^ (cl rest + p) := by
    rw [Nat.pow_add]
    have : (cn rest + 1) * 2 ^ p ≤ 2 ^ cl rest * 2 ^ p := Nat.mul_le_mul (by omega) (Nat.le_refl _)
    rw [Nat.add_mul] at this
    omega
  rw [e1, e2]
  refine ⟨?_, ?_, rfl⟩
  · rw [Nat.add_comm, Nat.add_mul_div_right _ _ (Nat.two_pow_pos _), Nat.div_eq_of_lt hlt2, Nat.zero_add]
  · rw [Nat.add_comm, Nat.add_mul_mod_self_right, Nat.mod_eq_of_lt hlt2]

theorem dec_step {most K p j v n : Nat} {rest : List (Nat × Nat)} {ahead : List Int} {T : List (List Int)} {out : List Int} (hf : Fit rest) (hj : j < 2 ^ p) (hn : n = sz T.length) :
    dec most (K + 1) (cn ((v, n) :: rest) * 2 ^ p + j) (cl ((v, n) :: rest) + p) ahead T out =
      if v = 256 then dec most K (cn rest * 2 ^ p + j) (cl rest + p) [] [] out else if v = 257 then (0, out) else
        match rowOf v ahead T with | none => (4, []) | some row => if most < out.length + row.length then (2, []) else dec most K (cn rest * 2 ^ p + j) (cl rest + p) row (grown ahead row T) (out ++ row) := by
  obtain ⟨h1, h2, h3⟩ := head_of (v := v) (n := n) hf hj
  conv => lhs; unfold dec
  rw [← hn, h1, h2, h3, if_neg (by simp only [cl]; omega)]
  rfl

theorem rowOf_cd {T Td : List (List Int)} {ahead s : List Int} (hs : s ≠ []) (hb : IsB s) (h : (T = [] ∧ ahead = [] ∧ Td = []) ∨ (ahead ≠ [] ∧ T = Td ++ [ahead ++ s.take 1])) :
    rowOf (cd T s) ahead Td = some (s.take (lm T s)) ∧ cd T s ≠ 256 ∧ cd T s ≠ 257 ∧ grown ahead (s.take (lm T s)) Td = (if Td.length < 3838 then T else Td) := by
  obtain ⟨m1, m2, m3, m4⟩ := lm_spec (T := T) hs
  have h0 := hb.get 0
  obtain ⟨x, t, hxt⟩ : ∃ x t, s = x :: t := by cases s with | nil => exact absurd rfl hs | cons x t => exact ⟨x, t, rfl⟩
  have hx0 : s.getD 0 0 = x := by rw [hxt]; rfl
  have hgrow : grown ahead (s.take (lm T s)) Td = (if Td.length < 3838 then T else Td) := by
    unfold grown
    rcases h with ⟨a, b, c⟩ | ⟨a, b⟩
    · rw [b, c, a]; simp
    · by_cases hl : Td.length < 3838
      · rw [if_pos ⟨a, hl⟩, if_pos hl, List.take_take, show min 1 (lm T s) = 1 by omega, ← b]
      · rw [if_neg (fun h => hl h.2), if_neg hl]
  unfold cd
  by_cases e : lm T s = 1
  · rw [if_pos e]
    refine ⟨?_, by omega, by omega, hgrow⟩
    unfold rowOf
    rw [if_pos (by omega), e, hxt]
    simp only [List.take_succ_cons, List.take_zero, List.getD_cons_zero]
    rw [hx0] at h0
    rw [show ((x.toNat : Nat) : Int) = x by omega]
  · rw [if_neg e]
    rcases m3 with m3 | ⟨i, hi⟩
    · exact absurd m3 e
    · rw [hi]
      refine ⟨?_, by simp only; omega, by simp only; omega, hgrow⟩
      have hg := ixOf_some hi
      unfold rowOf
      simp only []
      rw [if_neg (by omega), show 258 + i - 258 = i by omega]
      rcases h with ⟨a, _, _⟩ | ⟨a, b⟩
      · rw [a] at hg; simp at hg
      · have hg : (Td ++ [ahead ++ s.take 1])[i]? = some (s.take (lm T s)) := by rw [← b]; exact hg
        by_cases hil : i < Td.length
        · rw [if_pos hil]
          rw [List.getElem?_append_left hil] at hg
          rw [List.getD_eq_getElem?_getD, hg]
          rfl
        · rw [if_neg hil]
          rw [List.getElem?_append_right (by omega)] at hg
          have hi0 : i - Td.length = 0 := by
            have := (List.getElem?_eq_some_iff.1 hg).1
            simp at this; omega
          rw [hi0] at hg
          simp only [List.getElem?_cons_zero, Option.some.injEq] at hg
          rw [if_pos ⟨by omega, a⟩, ← hg]
          have h1 : ahead.take 1 = s.take 1 := by
            have : (ahead ++ s.take 1).take 1 = (s.take (lm T s)).take 1 := by rw [hg]
            rw [List.take_take, show min 1 (lm T s) = 1 by omega] at this
            rw [← this]
            cases ahead with
            | nil => exact absurd rfl a
            | cons y u => rfl
          rw [h1]

/-- What was told of a text is that text again. -/
theorem dec_enc (most : Nat) (p j : Nat) (hj : j < 2 ^ p) : ∀ (k K : Nat) (T Td : List (List Int)) (told : Nat) (ahead s out : List Int), s.length < k → 2 * s.length < K → IsB s → Fit (enc k T told s) → Td.length = told - 1 →
    (s ≠ [] → T.length = told ∧ told ≤ 3836) → ((told = 0 ∧ T = [] ∧ ahead = [] ∧ Td = []) ∨ (1 ≤ told ∧ ahead ≠ [] ∧ (s ≠ [] → T = Td ++ [ahead ++ s.take 1]))) → out.length ≤ most →
    dec most K (cn (enc k T told s) * 2 ^ p + j) (cl (enc k T told s) + p) ahead Td out = if most < out.length + s.length then (2, []) else (0, out ++ s) := by
  intro k
  induction k with
  | zero => intro K T Td told ahead s out h; omega
  | succ k ih =>
    intro K T Td told ahead s out hk hK hb hf htd hlen hst ho
    obtain ⟨K, rfl⟩ : ∃ K', K = K' + 1 := ⟨K - 1, by omega⟩
    by_cases hs : s = []
    · subst hs
      have he : enc (k + 1) T told [] = [(257, sz (told - 1))] := by simp [enc]
      rw [he, dec_step (fun x hx => by cases hx) hj (by rw [htd]), if_neg (by decide), if_pos rfl, if_neg (by simp; omega)]
      simp
    · have hpos : 0 < s.length := List.length_pos_iff.2 hs
      obtain ⟨m1, m2, m3, m4⟩ := lm_spec (T := T) hs
      obtain ⟨hTl, htold2⟩ := hlen hs
      have hst' : (T = [] ∧ ahead = [] ∧ Td = []) ∨ (ahead ≠ [] ∧ T = Td ++ [ahead ++ s.take 1]) := by
        rcases hst with ⟨_, a, b, c⟩ | ⟨_, a, b⟩
        · exact .inl ⟨a, b, c⟩
        · exact .inr ⟨a, b hs⟩
      obtain ⟨r1, r2, r3, r4⟩ := rowOf_cd hs hb hst'
      rw [if_pos (by omega)] at r4
      have hrl : (s.take (lm T s)).length = lm T s := by rw [List.length_take]; omega
      have hrne : s.take (lm T s) ≠ [] := fun h => by rw [h] at hrl; simp at hrl; omega
      have hdl : (s.drop (lm T s)).length = s.length - lm T s := by simp
      have happ : ∀ (x : List Int), out ++ s.take (lm T s) ++ s.drop (lm T s) = out ++ s := fun _ => by rw [List.append_assoc, List.take_append_drop]
      have hfin : ∀ (z : Int × List Int), (most < out.length + lm T s → z = (2, [])) → (¬ most < out.length + lm T s → z = if most < (out ++ s.take (lm T s)).length + (s.drop (lm T s)).length then (2, []) else (0, out ++ s.take (lm T s) ++ s.drop (lm T s))) → z = if most < out.length + s.length then (2, []) else (0, out ++ s) := fun z h1 h2 => by
        by_cases hm : most < out.length + lm T s
        · rw [h1 hm, if_pos (by omega)]
        · rw [h2 hm, happ [], List.length_append, hrl, hdl, show out.length + lm T s + (s.length - lm T s) = out.length + s.length by omega]
      have he : enc (k + 1) T told s = (cd T s, sz (told - 1)) :: (if lm T s < s.length then (if T.length + 1 = 3837 then (256, sz told) :: enc k [] 0 (s.drop (lm T s)) else enc k (T ++ [s.take (lm T s + 1)]) (told + 1) (s.drop (lm T s)))
          else enc k T (told + 1) (s.drop (lm T s))) := by
        conv => lhs; unfold enc
        rw [if_neg hs]
      rw [he] at hf ⊢
      have hf2 : Fit (if lm T s < s.length then (if T.length + 1 = 3837 then (256, sz told) :: enc k [] 0 (s.drop (lm T s)) else enc k (T ++ [s.take (lm T s + 1)]) (told + 1) (s.drop (lm T s)))
          else enc k T (told + 1) (s.drop (lm T s))) := fun x hx => hf x (List.mem_cons_of_mem _ hx)
      rw [dec_step hf2 hj (by rw [htd]), if_neg r2, if_neg r3, r1]
      simp only []
      rw [hrl, r4]
      refine hfin _ (fun hm => by rw [if_pos hm]) (fun hm => ?_)
      rw [if_neg hm]
      by_cases hlt : lm T s < s.length
      · rw [if_pos hlt] at hf2 ⊢
        have hdne : s.drop (lm T s) ≠ [] := fun h => by rw [h] at hdl; simp at hdl; omega
        by_cases hfull : T.length + 1 = 3837
        · rw [if_pos hfull] at hf2 ⊢
          obtain ⟨K, rfl⟩ : ∃ K', K = K' + 1 := ⟨K - 1, by omega⟩
          rw [dec_step (fun x hx => hf2 x (List.mem_cons_of_mem _ hx)) hj (by rw [hTl]), if_pos rfl]
          exact ih K [] [] 0 [] (s.drop (lm T s)) _ (by omega) (by omega) (hb.drop _) (fun x hx => hf2 x (List.mem_cons_of_mem _ hx)) rfl (fun _ => ⟨rfl, by omega⟩) (.inl ⟨rfl, rfl, rfl, rfl⟩) (by rw [List.length_append, hrl]; omega)
        · rw [if_neg hfull] at hf2 ⊢
          refine ih K _ T (told + 1) (s.take (lm T s)) (s.drop (lm T s)) _ (by omega) (by omega) (hb.drop _) hf2 (by omega) (fun _ => ⟨by simp; omega, by omega⟩) (.inr ⟨by omega, hrne, fun _ => ?_⟩) (by rw [List.length_append, hrl]; omega)
          congr 2
          rw [List.take_add]
      · rw [if_neg hlt] at hf2 ⊢
        have hdrop : s.drop (lm T s) = [] := by apply List.eq_nil_of_length_eq_zero; omega
        exact ih K T T (told + 1) (s.take (lm T s)) (s.drop (lm T s)) _ (by omega) (by omega) (hb.drop _) hf2 (by omega) (fun h => absurd hdrop h) (.inr ⟨by omega, hrne, fun h => absurd hdrop h⟩) (by rw [List.length_append, hrl]; omega)

/-- Got back, whatever stands behind. -/
theorem back {s rest B : List Int} (hb : IsB s) (hrest : IsB rest) (hf : Fit (codes s)) (hl : s.length ≤ 1048576) (hBl : B.length = (cl (codes s) + 7) / 8) (hBn : be B = cn (codes s) * 2 ^ ((8 - cl (codes s) % 8) % 8)) (most : Nat) :
    dec most 18446744073709551616 (be (B ++ rest)) (8 * (B ++ rest).length) [] [] [] = if most < s.length then (2, []) else (0, s) := by
  have hlt := be_lt hrest
  rw [pow256] at hlt
  have e1 : be (B ++ rest) = cn (codes s) * 2 ^ ((8 - cl (codes s) % 8) % 8 + 8 * rest.length) + be rest := by
    rw [be_append, hBn, pow256, Nat.pow_add, Nat.mul_assoc]
  have e2 : 8 * (B ++ rest).length = cl (codes s) + ((8 - cl (codes s) % 8) % 8 + 8 * rest.length) := by
    rw [List.length_append, hBl]; omega
  have hj : be rest < 2 ^ ((8 - cl (codes s) % 8) % 8 + 8 * rest.length) := by
    rw [Nat.pow_add]
    have := Nat.two_pow_pos ((8 - cl (codes s) % 8) % 8)
    have h3 : 1 * 2 ^ (8 * rest.length) ≤ 2 ^ ((8 - cl (codes s) % 8) % 8) * 2 ^ (8 * rest.length) := Nat.mul_le_mul this (Nat.le_refl _)
    omega
  rw [e1, e2]
  generalize (8 - cl (codes s) % 8) % 8 + 8 * rest.length = p at hj
  unfold codes at hf ⊢
  have hd := dec_enc most p (be rest) hj 18446744073709551616 18446744073709551615 [] [] 0 [] s [] (by omega) (by omega) hb (fun x hx => hf x (List.mem_cons_of_mem _ hx)) rfl (fun _ => ⟨rfl, by omega⟩) (.inl ⟨rfl, rfl, rfl, rfl⟩) (by simp)
  generalize enc 18446744073709551616 [] 0 s = E at hf hd ⊢
  have hs := dec_step (most := most) (K := 18446744073709551615) (v := 256) (n := 9) (ahead := []) (T := []) (out := []) (fun x hx => hf x (List.mem_cons_of_mem _ hx)) hj rfl
  rw [if_pos rfl, hd] at hs
  simpa using hs
end Go.Ev.Lzw
