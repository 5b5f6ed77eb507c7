/- Part of a proof about the given program: LzwE. -/
import Derived.Test.YtoobfjfmlejpeaaLzwR
namespace Go.Ev.Lzw

/-! ## Numbers of so many bits, one behind the other -/
def cl : List (Nat × Nat) → Nat
  | [] => 0
  | x :: l => x.2 + cl l
def cn : List (Nat × Nat) → Nat
  | [] => 0
  | x :: l => x.1 * 2 ^ cl l + cn l
def Fit (l : List (Nat × Nat)) : Prop := ∀ x ∈ l, x.1 < 2 ^ x.2
theorem cl_append : ∀ (a b : List (Nat × Nat)), cl (a ++ b) = cl a + cl b
  | [], b => by simp [cl]
  | x :: a, b => by simp only [List.cons_append, cl, cl_append a b]; omega
theorem cn_append : ∀ (a b : List (Nat × Nat)), cn (a ++ b) = cn a * 2 ^ cl b + cn b
  | [], b => by simp [cn]
  | x :: a, b => by
    simp only [List.cons_append, cn, cn_append a b, cl_append, Nat.pow_add, Nat.add_mul, Nat.mul_assoc, Nat.add_assoc]
theorem cn_lt : ∀ {l : List (Nat × Nat)}, Fit l → cn l < 2 ^ cl l
  | [], _ => by simp [cn, cl]
  | x :: l, h => by
    have h1 := h x (List.mem_cons_self ..)
    have h2 := cn_lt (l := l) (fun y hy => h y (List.mem_cons_of_mem _ hy))
    simp only [cn, cl, Nat.pow_add]
    have h3 : (x.1 + 1) * 2 ^ cl l ≤ 2 ^ x.2 * 2 ^ cl l := Nat.mul_le_mul (by omega) (Nat.le_refl _)
    rw [Nat.add_mul] at h3
    omega

/-! ## The table -/
def ixOf (r : List Int) : List (List Int) → Option Nat
  | [] => none
  | x :: T => if x = r then some 0 else (ixOf r T).map (· + 1)
theorem ixOf_some {r : List Int} : ∀ {T : List (List Int)} {i : Nat}, ixOf r T = some i → T[i]? = some r
  | [], _, h => by cases h
  | x :: T, i, h => by
    unfold ixOf at h
    split at h
    · rename_i hx
      simp only [Option.some.injEq] at h
      subst h; simp [hx]
    · cases hi : ixOf r T with
      | none => rw [hi] at h; cases h
      | some j =>
        rw [hi] at h
        simp only [Option.map_some, Option.some.injEq] at h
        subst h
        simpa using ixOf_some hi
theorem ixOf_none {r : List Int} : ∀ {T : List (List Int)}, ixOf r T = none → r ∉ T
  | [], _ => by simp
  | x :: T, h => by
    unfold ixOf at h
    split at h
    · cases h
    · rename_i hx
      cases hi : ixOf r T with
      | none => simp only [List.mem_cons, not_or]; exact ⟨fun e => hx e.symm, ixOf_none hi⟩
      | some j => rw [hi] at h; cases h
theorem ixOf_mem {r : List Int} {T : List (List Int)} (h : r ∈ T) : ∃ i, ixOf r T = some i := by
  cases hi : ixOf r T with
  | none => exact absurd h (ixOf_none hi)
  | some i => exact ⟨i, rfl⟩
def mpF : Nat → List (List Int) → List (ByteArray × Int)
  | _, [] => []
  | k, r :: T => (bytesStr r, ((258 + k : Nat) : Int)) :: mpF (k + 1) T
theorem mpF_length : ∀ (k : Nat) (T : List (List Int)), (mpF k T).length = T.length
  | _, [] => rfl
  | k, r :: T => by simp [mpF, mpF_length (k + 1) T]
theorem mpF_append : ∀ (k : Nat) (T : List (List Int)) (r : List Int), mpF k (T ++ [r]) = mpF k T ++ [(bytesStr r, ((258 + k + T.length : Nat) : Int))]
  | k, [], r => by simp [mpF]
  | k, x :: T, r => by
    simp only [List.cons_append, mpF, mpF_append (k + 1) T r, List.length_cons]
    rw [show 258 + (k + 1) + T.length = 258 + k + (T.length + 1) by omega]
theorem keq_str {a b : List Int} (ha : IsB a) (hb : IsB b) : keq .str (bytesStr a) (bytesStr b) = decide (b = a) := by
  by_cases h : b = a
  · subst h
    rw [decide_eq_true rfl]
    exact ba_eq.2 rfl
  · rw [decide_eq_false h]
    rw [Bool.eq_false_iff]
    intro he
    exact h (bytesStr_inj ha hb (ba_eq.1 he)).symm
theorem mget_mp {r : List Int} (hr : IsB r) : ∀ {T : List (List Int)} (k : Nat), (∀ x ∈ T, IsB x) → mget .str (.int .i64) (bytesStr r) (mpF k T) = (ixOf r T).map fun i => ((258 + k + i : Nat) : Int)
  | [], _, _ => rfl
  | x :: T, k, h => by
    have hx := h x (List.mem_cons_self ..)
    simp only [mpF, mget, ixOf]
    rw [keq_str hr hx]
    by_cases e : x = r
    · rw [if_pos e, decide_eq_true e]; rfl
    · rw [if_neg e, decide_eq_false e]
      simp only [cond]
      rw [mget_mp hr (k + 1) (fun y hy => h y (List.mem_cons_of_mem _ hy))]
      cases ixOf r T with
      | none => rfl
      | some j => simp only [Option.map_some, Option.some.injEq]; omega
theorem mset_mp {r : List Int} (hr : IsB r) (v : Int) : ∀ {T : List (List Int)} (k : Nat), (∀ x ∈ T, IsB x) → r ∉ T → mset .str (.int .i64) (bytesStr r) v (mpF k T) = mpF k T ++ [(bytesStr r, v)]
  | [], _, _, _ => rfl
  | x :: T, k, h, hn => by
    have hx := h x (List.mem_cons_self ..)
    simp only [List.mem_cons, not_or] at hn
    simp only [mpF, mset]
    rw [keq_str hr hx, decide_eq_false (fun e => hn.1 e.symm)]
    simp only [cond, List.cons_append]
    rw [mset_mp hr v (k + 1) (fun y hy => h y (List.mem_cons_of_mem _ hy)) hn.2]

/-- Each row's beginning is a row. -/
def Pc (T : List (List Int)) : Prop := ∀ r ∈ T, IsB r ∧ 2 ≤ r.length ∧ (r.length = 2 ∨ r.take (r.length - 1) ∈ T)

theorem Pc.far {T : List (List Int)} (h : Pc T) {s : List Int} {m : Nat} (hm : 1 ≤ m) (hn : s.take (m + 1) ∉ T) : ∀ k, m < k → k ≤ s.length → s.take k ∉ T := by
  intro k
  induction k with
  | zero => intro h; omega
  | succ k ih =>
    intro h1 h2 hmem
    by_cases e : k = m
    · subst e; exact hn hmem
    · obtain ⟨_, _, h3⟩ := h _ hmem
      rw [List.length_take, Nat.min_eq_left h2] at h3
      rcases h3 with h3 | h3
      · omega
      · rw [List.take_take, show min (k + 1 - 1) (k + 1) = k by omega] at h3
        exact ih (by omega) (by omega) h3

/-- The longest row at the beginning, and its number. -/
def lmF (T : List (List Int)) (s : List Int) : Nat → Nat
  | 0 => 1
  | k + 1 => if k = 0 then 1 else match ixOf (s.take (k + 1)) T with | some _ => k + 1 | none => lmF T s k
def lm (T : List (List Int)) (s : List Int) : Nat := lmF T s s.length
def cd (T : List (List Int)) (s : List Int) : Nat := if lm T s = 1 then (s.getD 0 0).toNat else match ixOf (s.take (lm T s)) T with | some i => 258 + i | none => 0

theorem lmF_of {T : List (List Int)} {s : List Int} {m : Nat} (hm : 1 ≤ m) (h1 : m = 1 ∨ ∃ i, ixOf (s.take m) T = some i) : ∀ k, m ≤ k → (∀ j, m < j → j ≤ k → s.take j ∉ T) → lmF T s k = m
  | 0, h, _ => by omega
  | k + 1, h, hn => by
    unfold lmF
    by_cases e : k = 0
    · rw [if_pos e]; omega
    · rw [if_neg e]
      by_cases e2 : m = k + 1
      · subst e2
        rcases h1 with h1 | ⟨i, h1⟩
        · omega
        · rw [h1]
      · have hx : ixOf (s.take (k + 1)) T = none := by
          cases hi : ixOf (s.take (k + 1)) T with
          | none => rfl
          | some i => exact absurd (List.mem_of_getElem? (ixOf_some hi)) (hn (k + 1) (by omega) (by omega))
        rw [hx]
        exact lmF_of hm h1 k (by omega) (fun j h2 h3 => hn j h2 (by omega))

theorem lmF_le {T : List (List Int)} {s : List Int} : ∀ k, 1 ≤ lmF T s k ∧ (1 ≤ k → lmF T s k ≤ k) ∧ (lmF T s k = 1 ∨ ∃ i, ixOf (s.take (lmF T s k)) T = some i) ∧ ∀ j, lmF T s k < j → j ≤ k → s.take j ∉ T
  | 0 => ⟨Nat.le_refl _, fun h => by omega, .inl rfl, fun j _ _ => by omega⟩
  | k + 1 => by
    unfold lmF
    by_cases e : k = 0
    · rw [if_pos e]
      exact ⟨Nat.le_refl _, fun _ => by omega, .inl rfl, fun j _ _ => by omega⟩
    · rw [if_neg e]
      obtain ⟨h1, h2, h3, h4⟩ := lmF_le (T := T) (s := s) k
      cases hi : ixOf (s.take (k + 1)) T with
      | some i => exact ⟨by simp, fun _ => Nat.le_refl _, .inr ⟨i, hi⟩, fun j _ _ => by simp only at *; omega⟩
      | none =>
        refine ⟨h1, fun _ => by have := h2 (by omega); simp only; omega, h3, fun j h5 h6 => ?_⟩
        by_cases e2 : j = k + 1
        · subst e2; exact ixOf_none hi
        · exact h4 j h5 (by omega)

theorem lm_spec {T : List (List Int)} {s : List Int} (hs : s ≠ []) : 1 ≤ lm T s ∧ lm T s ≤ s.length ∧ (lm T s = 1 ∨ ∃ i, ixOf (s.take (lm T s)) T = some i) ∧ ∀ j, lm T s < j → j ≤ s.length → s.take j ∉ T := by
  obtain ⟨h1, h2, h3, h4⟩ := lmF_le (T := T) (s := s) s.length
  exact ⟨h1, h2 (List.length_pos_iff.2 hs), h3, h4⟩

theorem Pc.add {T : List (List Int)} (h : Pc T) {s : List Int} (hb : IsB s) (hlt : lm T s < s.length) (hs : s ≠ []) : Pc (T ++ [s.take (lm T s + 1)]) := by
  obtain ⟨h1, h2, h3, h4⟩ := lm_spec (T := T) hs
  intro r hr
  rcases List.mem_append.1 hr with hr | hr
  · obtain ⟨a, b, c⟩ := h r hr
    refine ⟨a, b, ?_⟩
    rcases c with c | c
    · exact .inl c
    · exact .inr (List.mem_append_left _ c)
  · rw [List.mem_singleton] at hr
    subst hr
    have hl : (s.take (lm T s + 1)).length = lm T s + 1 := by rw [List.length_take]; omega
    refine ⟨hb.take _, by omega, ?_⟩
    rcases h3 with h3 | ⟨i, h3⟩
    · exact .inl (by omega)
    · refine .inr (List.mem_append_left _ ?_)
      rw [hl, List.take_take, show min (lm T s + 1 - 1) (lm T s + 1) = lm T s by omega]
      exact List.mem_of_getElem? (ixOf_some h3)

theorem cd_lt {T : List (List Int)} {s : List Int} (hb : IsB s) : cd T s < 258 + max T.length 1 - 1 + 1 ∧ (T = [] → cd T s < 256) := by
  have h0 := hb.get 0
  unfold cd
  by_cases e : lm T s = 1
  · rw [if_pos e]
    exact ⟨by omega, fun _ => by omega⟩
  · rw [if_neg e]
    cases hi : ixOf (s.take (lm T s)) T with
    | none => exact ⟨by simp only; omega, fun _ => by simp⟩
    | some i =>
      have hlt : i < T.length := (List.getElem?_eq_some_iff.1 (ixOf_some hi)).1
      exact ⟨by simp only; omega, fun h => by rw [h] at hlt; simp at hlt⟩

/-! ## The numbers of a text -/
def enc : Nat → List (List Int) → Nat → List Int → List (Nat × Nat)
  | 0, _, _, _ => []
  | k + 1, T, told, s => if s = [] then [(257, sz (told - 1))] else
    (cd T s, sz (told - 1)) :: (if lm T s < s.length then (if T.length + 1 = 3837 then (256, sz told) :: enc k [] 0 (s.drop (lm T s)) else enc k (T ++ [s.take (lm T s + 1)]) (told + 1) (s.drop (lm T s)))
      else enc k T (told + 1) (s.drop (lm T s)))
end Go.Ev.Lzw
