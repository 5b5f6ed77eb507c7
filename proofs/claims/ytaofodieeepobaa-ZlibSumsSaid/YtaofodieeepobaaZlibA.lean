/- Part of a proof about the given program: ZlibA. -/
import Derived.Test.YtaofodieeepobaaBig
import Derived.Test.YtaofodieeepobaaZlibS
import Derived.KernelRfl
namespace Go.Ev.Zlib

set_option maxRecDepth 100000 in
theorem awake_true : f8 () = some (true, ()) := by kernel_rfl

/-! # The sum of bytes -/
def S : List Int → Nat
  | [] => 0
  | x :: l => x.toNat + S l
def W : List Int → Nat
  | [] => 0
  | x :: l => (l.length + 1) * x.toNat + W l
theorem S_append : ∀ a b : List Int, S (a ++ b) = S a + S b
  | [], b => by simp [S]
  | x :: a, b => by simp only [List.cons_append, S, S_append a b]; omega
theorem W_append : ∀ a b : List Int, W (a ++ b) = W a + b.length * S a + W b
  | [], b => by simp [W, S]
  | x :: a, b => by
    simp only [List.cons_append, W, S, W_append a b, List.length_append]
    rw [show a.length + b.length + 1 = (a.length + 1) + b.length by omega, Nat.add_mul, Nat.mul_add]
    omega
theorem mod_step (n a b x s w : Nat) : (((b + (a + x) % 65521) % 65521) + n * ((a + x) % 65521) + w) % 65521 = (b + (n + 1) * a + ((n + 1) * x + w)) % 65521 ∧ ((a + x) % 65521 + s) % 65521 = (a + (x + s)) % 65521 := by
  refine ⟨?_, by omega⟩
  have h : n * (a + x) = 65521 * (n * ((a + x) / 65521)) + n * ((a + x) % 65521) := by
    conv => lhs; rw [← Nat.div_add_mod (a + x) 65521, Nat.mul_add]
    rw [← Nat.mul_assoc, Nat.mul_comm n 65521, Nat.mul_assoc]
  rw [Nat.mul_add] at h
  rw [Nat.add_mul, Nat.add_mul]
  generalize n * ((a + x) % 65521) = p at h ⊢
  generalize n * ((a + x) / 65521) = q at h
  generalize n * a = u at h ⊢
  generalize n * x = v at h ⊢
  omega
theorem l7_1_spec {l : List Int} (hb : IsB l) (hl : l.length ≤ 10000) : ∀ (k i a b : Nat), l.length < i + k → i ≤ l.length → a < 65521 → b < 65521 →
    loopN g7_1 o7_1 b7_1 k (l, ((l.length : Nat) : Int), (i : Int), (a : Int), (b : Int), ()) = some (.inl ((((a + S (l.drop i)) % 65521 : Nat) : Int), (((b + (l.length - i) * a + W (l.drop i)) % 65521 : Nat) : Int), ())) := by
  intro k
  induction k with
  | zero => intro i a b h1 h2; omega
  | succ k ih =>
    intro i a b h1 h2 h3 h4
    rw [loopN_succ]
    generalize hL : loopN g7_1 o7_1 b7_1 k = L at ih ⊢
    unfold b7_1
    dsimp only
    rw [Int.toNat_natCast]
    rcases Nat.lt_or_ge i l.length with h | h
    · have hm : l.getD i 0 ∈ l := by
        rw [List.getD_eq_getElem?_getD, List.getElem?_eq_getElem h]
        exact List.getElem_mem _
      obtain ⟨x0, x1⟩ := hb _ hm
      have hx : (l.getD i 0) = (((l.getD i 0).toNat : Nat) : Int) := by omega
      have hd : l.drop i = l.getD i 0 :: l.drop (i + 1) := by
        rw [List.getD_eq_getElem?_getD, List.getElem?_eq_getElem h]
        exact List.drop_eq_getElem_cons h
      generalize hxn : (l.getD i 0).toNat = x at hx
      have w1 : IntKind.wrap .i64 (l.getD i 0) = (x : Int) := by rw [hx, wrap_i64 (by omega)]
      have w2 : IntKind.wrap .i64 ((a : Int) + (x : Int)) = ((a + x : Nat) : Int) := by rw [wrap_i64 (by omega)]; omega
      have w3 : Int.tmod (((a + x : Nat) : Int)) 65521 = (((a + x) % 65521 : Nat) : Int) := rfl
      have w4 : IntKind.wrap .i64 ((b : Int) + (((a + x) % 65521 : Nat) : Int)) = ((b + (a + x) % 65521 : Nat) : Int) := by rw [wrap_i64 (by omega)]; omega
      have w5 : Int.tmod (((b + (a + x) % 65521 : Nat) : Int)) 65521 = (((b + (a + x) % 65521) % 65521 : Nat) : Int) := rfl
      rw [if_pos (by rw [decide_eq_true_eq]; omega), if_pos (by omega), if_pos (by omega), w1, w2, w3, w4, w5, Option.bind_some, Sum.elim_inl, show IntKind.wrap .i64 ((i : Int) + 1) = ((i + 1 : Nat) : Int) by rw [wrap_i64 (by omega)]; omega]
      have hI := ih (i + 1) ((a + x) % 65521) ((b + (a + x) % 65521) % 65521) (by omega) (by omega) (by omega) (by omega)
      rw [hI, hd]
      simp only [S, W, hxn]
      have hlen : (l.drop (i + 1)).length = l.length - (i + 1) := List.length_drop ..
      obtain ⟨m1, m2⟩ := mod_step (l.length - (i + 1)) a b x (S (l.drop (i + 1))) (W (l.drop (i + 1)))
      rw [hlen, m1, m2, show l.length - (i + 1) + 1 = l.length - i by omega]
    · rw [if_neg (by rw [decide_eq_true_eq]; omega), List.drop_of_length_le (by omega), show l.length - i = 0 by omega]
      simp only [S, W, Nat.zero_mul, Nat.add_zero]
      rw [Nat.mod_eq_of_lt h3, Nat.mod_eq_of_lt h4]
      rfl
def lowS (l : List Int) : Nat := (1 + S l) % 65521
def highS (l : List Int) : Nat := (l.length + W l) % 65521
theorem f7_eqn {l : List Int} (hb : IsB l) (hl : l.length ≤ 10000) : f7 (l, ()) = some (((highS l * 65536 + lowS l : Nat) : Int), ()) := by
  have h := l7_1_spec hb hl 18446744073709551616 0 1 0 (by omega) (by omega) (by omega) (by omega)
  rw [List.drop_zero, Nat.sub_zero, Nat.mul_one, Nat.zero_add] at h
  unfold f7
  dsimp only
  have h' : loopN g7_1 o7_1 b7_1 18446744073709551616 (l, ((l.length : Nat) : Int), 0, 1, 0, ()) = some (.inl (((lowS l : Nat) : Int), ((highS l : Nat) : Int), ())) := h
  rw [show l7_1 = loopN g7_1 o7_1 b7_1 18446744073709551616 from rfl]
  generalize loopN g7_1 o7_1 b7_1 18446744073709551616 (l, ((l.length : Nat) : Int), 0, 1, 0, ()) = X at h' ⊢
  subst h'
  rw [Option.bind_some, Sum.elim_inl]
  dsimp only
  have l1 : lowS l < 65521 := Nat.mod_lt _ (by omega)
  have l2 : highS l < 65521 := Nat.mod_lt _ (by omega)
  have w1 : IntKind.wrap .i64 (((highS l : Nat) : Int) * 65536) = ((highS l * 65536 : Nat) : Int) := by rw [wrap_i64 (by omega)]; omega
  rw [w1, or64 (by omega) (by omega), Nat.or_comm, show highS l * 65536 = highS l * 2 ^ 16 from rfl, or_split _ (by omega), wrap_i64 (by omega)]
  congr 2
  omega
theorem zlibSums_pure {a b : List Int} (ha : IsB a) (hb : IsB b) : f3 (a, b, ()) = some (true, ()) := by
  unfold f3
  dsimp only
  by_cases h1 : 2000 < a.length
  · rw [if_pos (by rw [decide_eq_true_eq]; omega)]
  · rw [if_neg (by rw [decide_eq_true_eq]; omega)]
    by_cases h2 : 2000 < b.length
    · rw [if_pos (by rw [decide_eq_true_eq]; omega)]
    · have e0 : List.take 0 (List.drop 0 (List.replicate 0 (0 : Int))) ++ a = a := rfl
      have la : (a ++ b).length ≤ 10000 := by rw [List.length_append]; omega
      rw [if_neg (by rw [decide_eq_true_eq]; omega), f7_eqn ha (by omega), Option.bind_some, f7_eqn hb (by omega), Option.bind_some, if_pos (by omega), e0, List.drop_zero, List.take_length, if_pos (by omega), List.drop_zero, List.take_length,
        f7_eqn (ha.append hb) la, Option.bind_some, awake_true, Option.bind_some]
      dsimp only
      rw [if_pos rfl]
      have l1 : lowS a < 65521 := Nat.mod_lt _ (by omega)
      have l2 : highS a < 65521 := Nat.mod_lt _ (by omega)
      have l3 : lowS b < 65521 := Nat.mod_lt _ (by omega)
      have l4 : highS b < 65521 := Nat.mod_lt _ (by omega)
      have d1 : Int.tdiv ((highS a * 65536 + lowS a : Nat) : Int) 65536 = ((highS a : Nat) : Int) := by
        rw [show Int.tdiv ((highS a * 65536 + lowS a : Nat) : Int) 65536 = (((highS a * 65536 + lowS a) / 65536 : Nat) : Int) from rfl]; omega
      have d2 : Int.tdiv ((highS b * 65536 + lowS b : Nat) : Int) 65536 = ((highS b : Nat) : Int) := by
        rw [show Int.tdiv ((highS b * 65536 + lowS b : Nat) : Int) 65536 = (((highS b * 65536 + lowS b) / 65536 : Nat) : Int) from rfl]; omega
      have d3 : Int.tmod ((highS a * 65536 + lowS a : Nat) : Int) 65536 = ((lowS a : Nat) : Int) := by
        rw [show Int.tmod ((highS a * 65536 + lowS a : Nat) : Int) 65536 = (((highS a * 65536 + lowS a) % 65536 : Nat) : Int) from rfl]; omega
      have d4 : Int.tmod ((highS b * 65536 + lowS b : Nat) : Int) 65536 = ((lowS b : Nat) : Int) := by
        rw [show Int.tmod ((highS b * 65536 + lowS b : Nat) : Int) 65536 = (((highS b * 65536 + lowS b) % 65536 : Nat) : Int) from rfl]; omega
      rw [d1, d2, d3, d4]
      have hn : b.length * (lowS a + 65520) ≤ 2000 * 131041 := Nat.mul_le_mul (by omega) (by omega)
      have w1 : IntKind.wrap .i64 ((highS a : Nat) : Int) = ((highS a : Nat) : Int) := wrap_i64 (by omega)
      have w2 : IntKind.wrap .i64 ((highS b : Nat) : Int) = ((highS b : Nat) : Int) := wrap_i64 (by omega)
      have w3 : IntKind.wrap .i64 (((highS a : Nat) : Int) + ((highS b : Nat) : Int)) = ((highS a + highS b : Nat) : Int) := by rw [wrap_i64 (by omega)]; omega
      have w4 : IntKind.wrap .i64 (((lowS a : Nat) : Int) + 65520) = ((lowS a + 65520 : Nat) : Int) := by rw [wrap_i64 (by omega)]; omega
      have w5 : IntKind.wrap .i64 (((b.length : Nat) : Int) * ((lowS a + 65520 : Nat) : Int)) = ((b.length * (lowS a + 65520) : Nat) : Int) := by
        rw [show ((b.length : Nat) : Int) * ((lowS a + 65520 : Nat) : Int) = ((b.length * (lowS a + 65520) : Nat) : Int) by simp, wrap_i64 (by omega)]
      have w6 : IntKind.wrap .i64 (((highS a + highS b : Nat) : Int) + ((b.length * (lowS a + 65520) : Nat) : Int)) = ((highS a + highS b + b.length * (lowS a + 65520) : Nat) : Int) := by rw [wrap_i64 (by omega)]; omega
      have w7 : IntKind.wrap .i64 (((lowS a : Nat) : Int) + ((lowS b : Nat) : Int)) = ((lowS a + lowS b : Nat) : Int) := by rw [wrap_i64 (by omega)]; omega
      have w8 : IntKind.wrap .i64 (((lowS a + lowS b : Nat) : Int) + 65520) = ((lowS a + lowS b + 65520 : Nat) : Int) := by rw [wrap_i64 (by omega)]; omega
      rw [w1, w2, w3, w4, w5, w6, w7, w8]
      have m1 : Int.tmod ((highS a + highS b + b.length * (lowS a + 65520) : Nat) : Int) 65521 = (((highS a + highS b + b.length * (lowS a + 65520)) % 65521 : Nat) : Int) := rfl
      have m2 : Int.tmod ((lowS a + lowS b + 65520 : Nat) : Int) 65521 = (((lowS a + lowS b + 65520) % 65521 : Nat) : Int) := rfl
      rw [m1, m2]
      have e1 : (lowS a + lowS b + 65520) % 65521 = lowS (a ++ b) := by
        unfold lowS; rw [S_append]; omega
      have e2 : (highS a + highS b + b.length * (lowS a + 65520)) % 65521 = highS (a ++ b) := by
        unfold highS lowS
        rw [W_append, List.length_append]
        have h : b.length * (1 + S a) = 65521 * (b.length * ((1 + S a) / 65521)) + b.length * ((1 + S a) % 65521) := by
          conv => lhs; rw [← Nat.div_add_mod (1 + S a) 65521, Nat.mul_add]
          rw [← Nat.mul_assoc, Nat.mul_comm b.length 65521, Nat.mul_assoc]
        rw [Nat.mul_add, Nat.mul_one] at h
        rw [Nat.mul_add]
        generalize b.length * ((1 + S a) % 65521) = p at h ⊢
        generalize b.length * ((1 + S a) / 65521) = q at h
        generalize b.length * S a = u at h ⊢
        omega
      rw [e1, e2]
      have l5 : lowS (a ++ b) < 65521 := Nat.mod_lt _ (by omega)
      have l6 : highS (a ++ b) < 65521 := Nat.mod_lt _ (by omega)
      have w9 : IntKind.wrap .i64 (65536 * ((highS (a ++ b) : Nat) : Int)) = ((highS (a ++ b) * 65536 : Nat) : Int) := by rw [wrap_i64 (by omega)]; omega
      rw [w9, wrap_i64 (by omega), show ((highS (a ++ b) * 65536 : Nat) : Int) + ((lowS (a ++ b) : Nat) : Int) = ((highS (a ++ b) * 65536 + lowS (a ++ b) : Nat) : Int) by omega]
      exact congrArg (fun q => some (q, ())) (beq_self_eq_true _)
end Go.Ev.Zlib
