/- Part of a proof about the given program: Big2. -/
import Derived.Test.YtbgbplacpjcmfaaBig
namespace Go.Ev

theorem be_get : ∀ {a : List Int} {j : Nat}, IsB a → j < a.length → (a.getD j 0).toNat = be a / 256 ^ (a.length - 1 - j) % 256
  | [], j, _, h => by simp at h
  | x :: a, 0, h, _ => by
    have h1 := h x (List.mem_cons_self ..)
    have h2 := be_lt (a := a) (fun z hz => h z (List.mem_cons_of_mem _ hz))
    simp only [List.getD_cons_zero, be, List.length_cons]
    rw [show a.length + 1 - 1 - 0 = a.length by omega, Nat.add_comm, Nat.add_mul_div_right _ _ (Nat.pow_pos (by omega)), Nat.div_eq_of_lt h2]
    omega
  | x :: a, j + 1, h, hj => by
    have hj' : j < a.length := by simpa using hj
    rw [List.getD_cons_succ, be_get (fun z hz => h z (List.mem_cons_of_mem _ hz)) hj']
    simp only [be, List.length_cons]
    rw [show a.length + 1 - 1 - (j + 1) = a.length - 1 - j by omega]
    have e : 256 ^ a.length = 256 ^ (a.length - 1 - j) * (256 * 256 ^ j) := by
      rw [← Nat.pow_succ', ← Nat.pow_add]; congr 1; omega
    rw [e]
    have e2 : x.toNat * (256 ^ (a.length - 1 - j) * (256 * 256 ^ j)) = x.toNat * 256 ^ j * 256 * 256 ^ (a.length - 1 - j) := by
      rw [Nat.mul_comm 256 (256 ^ j), Nat.mul_left_comm, ← Nat.mul_assoc x.toNat, Nat.mul_comm]
    rw [e2, Nat.add_comm, Nat.add_mul_div_right _ _ (Nat.pow_pos (by omega)), Nat.add_mul_mod_self_right]
theorem be_set : ∀ {a : List Int} {j : Nat} {v : Int}, j < a.length → be (a.set j v) + 256 ^ (a.length - 1 - j) * (a.getD j 0).toNat = be a + 256 ^ (a.length - 1 - j) * v.toNat
  | [], j, _, h => by simp at h
  | x :: a, 0, v, _ => by
    simp only [List.set_cons_zero, be, List.getD_cons_zero, List.length_cons]
    rw [show a.length + 1 - 1 - 0 = a.length by omega, Nat.mul_comm x.toNat, Nat.mul_comm v.toNat]
    omega
  | x :: a, j + 1, v, h => by
    have ih := be_set (a := a) (j := j) (v := v) (by simpa using h)
    simp only [List.set_cons_succ, be, List.getD_cons_succ, List.length_cons, List.length_set]
    rw [show a.length + 1 - 1 - (j + 1) = a.length - 1 - j by omega]
    omega
theorem be_replicate (n : Nat) : be (List.replicate n 0) = 0 := by
  induction n with
  | zero => rfl
  | succ n ih => simp [List.replicate_succ, be, ih]

/-- One bit more is set, the highest ones first. -/
theorem be_setbit {out : List Int} (hb : IsB out) {t N : Nat} (ht : t < 8 * out.length) (hv : be out = N * 2 ^ (8 * out.length - t)) :
    (out.getD (t / 8) 0).toNat + 2 ^ (7 - t % 8) < 256 ∧ be (out.set (t / 8) (out.getD (t / 8) 0 + ((2 ^ (7 - t % 8) : Nat) : Int))) = (2 * N + 1) * 2 ^ (8 * out.length - (t + 1)) := by
  have hj : t / 8 < out.length := by omega
  have hg := be_get hb hj
  have h0 := hb.get (t / 8)
  have e1 : 2 ^ (8 * out.length - t) = 256 ^ (out.length - 1 - t / 8) * (2 * 2 ^ (7 - t % 8)) := by
    rw [pow256, ← Nat.pow_succ', ← Nat.pow_add]; congr 1; omega
  have e2 : 2 ^ (8 * out.length - (t + 1)) = 256 ^ (out.length - 1 - t / 8) * 2 ^ (7 - t % 8) := by
    rw [pow256, ← Nat.pow_add]; congr 1; omega
  have hpp : 0 < 256 ^ (out.length - 1 - t / 8) := Nat.pow_pos (by omega)
  have hq : be out / 256 ^ (out.length - 1 - t / 8) = 2 * 2 ^ (7 - t % 8) * N := by
    rw [hv, e1, Nat.mul_left_comm, Nat.mul_div_cancel_left _ hpp, Nat.mul_comm]
  rw [hq] at hg
  have e3 : (256 : Nat) = 2 * 2 ^ (7 - t % 8) * 2 ^ (t % 8) := by
    rw [← Nat.pow_succ', ← Nat.pow_add, show 7 - t % 8 + 1 + t % 8 = 8 by omega]
  have hg2 : (out.getD (t / 8) 0).toNat = 2 * 2 ^ (7 - t % 8) * (N % 2 ^ (t % 8)) := by
    rw [hg]
    conv => lhs; rw [e3]
    rw [Nat.mul_mod_mul_left]
  have hlt := Nat.mod_lt N (Nat.two_pow_pos (t % 8))
  have hpos := Nat.two_pow_pos (7 - t % 8)
  have hsum : (out.getD (t / 8) 0).toNat + 2 ^ (7 - t % 8) < 256 := by
    have h3 : 2 * 2 ^ (7 - t % 8) * (N % 2 ^ (t % 8) + 1) ≤ 2 * 2 ^ (7 - t % 8) * 2 ^ (t % 8) := Nat.mul_le_mul (Nat.le_refl _) hlt
    rw [← e3, Nat.mul_add, ← hg2] at h3
    omega
  refine ⟨hsum, ?_⟩
  have hs := be_set (a := out) (j := t / 8) (v := out.getD (t / 8) 0 + ((2 ^ (7 - t % 8) : Nat) : Int)) hj
  have hgen : ∀ (g : Int) (p : Nat), 0 ≤ g → (g + (p : Int)).toNat = g.toNat + p := fun g p h => by omega
  rw [hgen _ _ h0.1, Nat.mul_add] at hs
  rw [e2]
  rw [hv, e1] at hs
  have e4 : (2 * N + 1) * (256 ^ (out.length - 1 - t / 8) * 2 ^ (7 - t % 8)) = N * (256 ^ (out.length - 1 - t / 8) * (2 * 2 ^ (7 - t % 8))) + 256 ^ (out.length - 1 - t / 8) * 2 ^ (7 - t % 8) := by
    rw [Nat.add_mul, Nat.one_mul, Nat.mul_comm 2 N, Nat.mul_assoc, Nat.mul_left_comm 2]
  omega
end Go.Ev
