/- Part of a proof about the given program: Rule. -/
import Derived.Test.YtbgbplacpjcmfaaNum
namespace Go.Ev

/-! # Loops by what they keep -/
theorem loop_rule {g : Sg} {outs : Outs} {body : g.D → Option (outD ((.normal, g) :: outs))} (I : g.D → Prop) (μ : g.D → Nat) (Q : outD outs → Prop)
    (step : ∀ x, I x → (∃ y, body x = some (.inl y) ∧ I y ∧ μ y < μ x) ∨ (∃ o, body x = some (.inr o) ∧ Q o)) :
    ∀ (k : Nat) (x : g.D), I x → μ x < k → ∃ o, loopN g outs body k x = some o ∧ Q o := by
  intro k
  induction k with
  | zero => intro x _ h; omega
  | succ k ih =>
    intro x hx hk
    rw [loopN_succ]
    rcases step x hx with ⟨y, h1, h2, h3⟩ | ⟨o, h1, h2⟩
    · rw [h1]
      exact ih y h2 (by omega)
    · rw [h1]
      exact ⟨o, rfl, h2⟩

theorem one_of {α : Type} (d b : α) : List.take 1 ((List.replicate 1 d).set 0 b) = [b] := rfl

/-! # Bits as one number, the first one least -/
def nb : List Bool → Nat
  | [] => 0
  | b :: l => b.toNat + 2 * nb l

theorem nb_append : ∀ (a b : List Bool), nb (a ++ b) = nb a + 2 ^ a.length * nb b
  | [], b => by simp [nb]
  | x :: a, b => by
    simp only [List.cons_append, nb, List.length_cons, Nat.pow_succ]
    rw [nb_append a b, Nat.mul_add, ← Nat.mul_assoc, Nat.mul_comm 2 (2 ^ a.length)]
    omega
theorem nb_lt : ∀ l : List Bool, nb l < 2 ^ l.length
  | [] => by simp [nb]
  | b :: l => by
    have := nb_lt l
    have hb : b.toNat ≤ 1 := by cases b <;> decide
    simp only [nb, List.length_cons, Nat.pow_succ]
    omega
theorem nb_replicate (n : Nat) : nb (List.replicate n false) = 0 := by
  induction n with
  | zero => rfl
  | succ n ih => simp [List.replicate_succ, nb, ih]
theorem nb_split (l : List Bool) {n : Nat} (h : n ≤ l.length) : nb l = nb (l.take n) + 2 ^ n * nb (l.drop n) := by
  have h1 : nb (l.take n ++ l.drop n) = nb l := by rw [List.take_append_drop]
  rw [nb_append, List.length_take, Nat.min_eq_left h] at h1
  exact h1.symm
theorem nb_take (l : List Bool) {n : Nat} (h : n ≤ l.length) : nb (l.take n) = nb l % 2 ^ n := by
  rw [nb_split l h, Nat.add_mul_mod_self_left]
  have := nb_lt (l.take n)
  rw [List.length_take, Nat.min_eq_left h] at this
  rw [Nat.mod_eq_of_lt this]
theorem nb_drop (l : List Bool) {n : Nat} (h : n ≤ l.length) : nb (l.drop n) = nb l / 2 ^ n := by
  rw [nb_split l h, Nat.add_mul_div_left _ _ (Nat.two_pow_pos n)]
  have := nb_lt (l.take n)
  rw [List.length_take, Nat.min_eq_left h] at this
  rw [Nat.div_eq_of_lt this]
  omega
def bitsN : Nat → Nat → List Bool
  | _, 0 => []
  | v, n + 1 => decide (v % 2 = 1) :: bitsN (v / 2) n
theorem bitsN_length : ∀ (n v : Nat), (bitsN v n).length = n
  | 0, _ => rfl
  | n + 1, v => by simp [bitsN, bitsN_length n]
theorem decide_toNat (v : Nat) : (decide (v % 2 = 1)).toNat = v % 2 := by
  have h : v % 2 = 0 ∨ v % 2 = 1 := by omega
  rcases h with h | h <;> rw [h] <;> rfl
theorem nb_bitsN : ∀ (n v : Nat), nb (bitsN v n) = v % 2 ^ n
  | 0, v => by simp [bitsN, nb]; omega
  | n + 1, v => by
    simp only [bitsN, nb, nb_bitsN n, decide_toNat]
    rw [Nat.pow_succ, Nat.mul_comm (2 ^ n) 2, Nat.mod_mul]
theorem bitsN_succ : ∀ (n v : Nat), bitsN v (n + 1) = bitsN v n ++ [decide (v / 2 ^ n % 2 = 1)]
  | 0, v => by simp [bitsN]
  | n + 1, v => by
    rw [show bitsN v (n + 1 + 1) = decide (v % 2 = 1) :: bitsN (v / 2) (n + 1) from rfl, bitsN_succ n (v / 2)]
    simp only [bitsN, List.cons_append]
    rw [Nat.div_div_eq_div_mul, Nat.pow_succ, Nat.mul_comm 2 (2 ^ n)]

/-- Bytes are told by their number. -/
theorem valB_inj : ∀ {a b : List Int}, IsB a → IsB b → a.length = b.length → valB a = valB b → a = b
  | [], [], _, _, _, _ => rfl
  | [], _ :: _, _, _, h, _ => by simp at h
  | _ :: _, [], _, _, h, _ => by simp at h
  | x :: a, y :: b, ha, hb, hl, hv => by
    have h1 := ha x (List.mem_cons_self ..)
    have h2 := hb y (List.mem_cons_self ..)
    simp only [valB] at hv
    have hx : x = y := by omega
    have ht : valB a = valB b := by omega
    rw [hx, valB_inj (fun z hz => ha z (List.mem_cons_of_mem _ hz)) (fun z hz => hb z (List.mem_cons_of_mem _ hz)) (by simpa using hl) ht]
theorem valB_get : ∀ {a : List Int} {j : Nat}, IsB a → (a.getD j 0).toNat = valB a / 256 ^ j % 256
  | [], j, _ => by simp [valB]
  | x :: a, 0, h => by
    have := h x (List.mem_cons_self ..)
    simp only [List.getD_cons_zero, valB, Nat.pow_zero, Nat.div_one]
    omega
  | x :: a, j + 1, h => by
    have h1 := h x (List.mem_cons_self ..)
    rw [List.getD_cons_succ, valB_get (fun z hz => h z (List.mem_cons_of_mem _ hz))]
    simp only [valB]
    rw [Nat.pow_succ, Nat.mul_comm (256 ^ j) 256, ← Nat.div_div_eq_div_mul]
    congr 2
    omega
theorem valB_set : ∀ {a : List Int} {j : Nat} {v : Int}, IsB a → 0 ≤ v → j < a.length → valB (a.set j v) + 256 ^ j * (a.getD j 0).toNat = valB a + 256 ^ j * v.toNat
  | [], j, _, _, _, h => by simp at h
  | x :: a, 0, v, h, _, _ => by
    simp only [List.set_cons_zero, valB, List.getD_cons_zero, Nat.pow_zero]
    omega
  | x :: a, j + 1, v, h, hv, hj => by
    have ih := valB_set (a := a) (j := j) (v := v) (fun z hz => h z (List.mem_cons_of_mem _ hz)) hv (by simpa using hj)
    simp only [List.set_cons_succ, valB, List.getD_cons_succ]
    have e1 : 256 ^ (j + 1) * (a.getD j 0).toNat = 256 * (256 ^ j * (a.getD j 0).toNat) := by rw [Nat.pow_succ, Nat.mul_comm (256 ^ j) 256, Nat.mul_assoc]
    have e2 : 256 ^ (j + 1) * v.toNat = 256 * (256 ^ j * v.toNat) := by rw [Nat.pow_succ, Nat.mul_comm (256 ^ j) 256, Nat.mul_assoc]
    rw [e1, e2]
    omega
theorem IsB.set {a : List Int} {j : Nat} {v : Int} (h : IsB a) (hv : 0 ≤ v ∧ v < 256) : IsB (a.set j v) := fun x hx => by
  rcases List.mem_or_eq_of_mem_set hx with h1 | h1
  · exact h x h1
  · rw [h1]; exact hv
theorem IsB.replicate (n : Nat) : IsB (List.replicate n 0) := fun x hx => by rw [List.eq_of_mem_replicate hx]; omega
theorem valB_replicate (n : Nat) : valB (List.replicate n 0) = 0 := by
  induction n with
  | zero => rfl
  | succ n ih => simp [List.replicate_succ, valB, ih]
theorem IsB.get {a : List Int} (h : IsB a) (j : Nat) : 0 ≤ a.getD j 0 ∧ a.getD j 0 < 256 := by
  rw [List.getD_eq_getElem?_getD]
  rcases Nat.lt_or_ge j a.length with hj | hj
  · rw [List.getElem?_eq_getElem hj]; exact h _ (List.getElem_mem _)
  · rw [List.getElem?_eq_none hj]; simp
theorem IsB.drop {a : List Int} (h : IsB a) (n : Nat) : IsB (a.drop n) := fun x hx => h x (List.mem_of_mem_drop hx)
theorem IsB.take {a : List Int} (h : IsB a) (n : Nat) : IsB (a.take n) := fun x hx => h x (List.mem_of_mem_take hx)
theorem drop_getD {α : Type} {l : List α} {i : Nat} (d : α) (h : i < l.length) : l.drop i = l.getD i d :: l.drop (i + 1) := by
  rw [List.drop_eq_getElem_cons h]
  simp [List.getD_eq_getElem?_getD, h]
end Go.Ev
