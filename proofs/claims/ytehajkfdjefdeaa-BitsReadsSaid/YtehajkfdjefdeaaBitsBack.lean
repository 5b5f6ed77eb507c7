/- Part of a proof about the given program: BitsBack. -/
import Derived.Test.YtehajkfdjefdeaaBits
namespace Go.Ev.Bits

abbrev OpT := Int × Int × Int
def Good (e : OpT) : Prop := 0 ≤ e.2.2 ∧ e.2.2 ≤ 24 ∧ 0 ≤ e.2.1 ∧ e.2.1.toNat < 2 ^ e.2.2.toNat
def tot : List OpT → Nat
  | [] => 0
  | e :: l => e.2.2.toNat + tot l
def num : List OpT → Nat
  | [] => 0
  | e :: l => e.2.1.toNat + 2 ^ e.2.2.toNat * num l

theorem tot_append : ∀ (a b : List OpT), tot (a ++ b) = tot a + tot b
  | [], b => by simp [tot]
  | x :: a, b => by simp only [List.cons_append, tot]; rw [tot_append a b]; omega
theorem num_append : ∀ (a b : List OpT), num (a ++ b) = num a + 2 ^ tot a * num b
  | [], b => by simp [num, tot]
  | x :: a, b => by
    simp only [List.cons_append, num, tot]
    rw [num_append a b, Nat.pow_add, Nat.mul_add, ← Nat.mul_assoc]
    omega
theorem tot_le : ∀ {l : List OpT}, (∀ e ∈ l, Good e) → tot l ≤ 24 * l.length
  | [], _ => by simp [tot]
  | e :: l, h => by
    have h1 := h e (List.mem_cons_self ..)
    have h2 := tot_le (l := l) (fun x hx => h x (List.mem_cons_of_mem _ hx))
    simp only [tot, List.length_cons]
    unfold Good at h1
    omega

theorem awake_true : f9 () = some (true, ()) := by kernel_rfl

/-! ## Putting -/
theorem put_any (e : OpT) {w m : Nat} {bs : List Int} (hm : m < 8) (hw : w < 2 ^ m) (hb : IsB bs) (hl : bs.length ≤ 90000) :
    (Good e ∧ ∃ (w' m' : Nat) (bs' : List Int), f10 (e.2.1, e.2.2, (w : Int), (m : Int), bs, ()) = some (0, (w' : Int), (m' : Int), bs', ()) ∧ m' < 8 ∧ w' < 2 ^ m' ∧ IsB bs' ∧ 8 * bs'.length + m' = 8 * bs.length + m + e.2.2.toNat ∧ V bs' w' = V bs w + e.2.1.toNat * 2 ^ (8 * bs.length + m)) ∨
    f10 (e.2.1, e.2.2, (w : Int), (m : Int), bs, ()) = some (1, (w : Int), (m : Int), bs, ()) := by
  obtain ⟨c, v, n⟩ := e
  simp only []
  by_cases h : n < 0 ∨ n > 24 ∨ v < 0
  · exact .inr (f10_bad h)
  · obtain ⟨vn, rfl⟩ : ∃ vn : Nat, v = (vn : Int) := ⟨v.toNat, by omega⟩
    obtain ⟨nn, rfl⟩ : ∃ nn : Nat, n = (nn : Int) := ⟨n.toNat, by omega⟩
    rcases Nat.lt_or_ge vn (2 ^ nn) with h1 | h1
    · refine .inl ⟨⟨by simp only []; omega, by simp only []; omega, by simp only []; omega, by simpa using h1⟩, ?_⟩
      simpa using f10_good (by omega) h1 hm hw hb hl
    · exact .inr (f10_big (by omega) h1)

theorem one_op (e : OpT) : List.take (1 : Nat) (List.drop (0 : Nat) (List.set (List.replicate (1 : Nat) ((0 : Int), ((0 : Int), (0 : Int)))) (0 : Nat) e)) = [e] := rfl

theorem l3_1_spec (xs : List OpT) (hx : xs.length ≤ 200) : ∀ (k j : Nat) (w m : Nat) (bs : List Int) (ins : List OpT), xs.length < j + k → j ≤ xs.length → m < 8 → w < 2 ^ m → IsB bs → (∀ e ∈ ins, Good e) → ins.length ≤ j → 8 * bs.length + m = tot ins → V bs w = num ins →
    ∃ (i' : Int) (w' m' : Nat) (bs' : List Int) (ins' : List OpT), loopN g3_1 o3_1 b3_1 k (xs, ((tot ins : Nat) : Int), (j : Int), (w : Int), (m : Int), bs, ins, ()) = some (.inl (xs, ((tot ins' : Nat) : Int), i', (w' : Int), (m' : Int), bs', ins', ())) ∧
      m' < 8 ∧ w' < 2 ^ m' ∧ IsB bs' ∧ (∀ e ∈ ins', Good e) ∧ ins'.length ≤ xs.length ∧ 8 * bs'.length + m' = tot ins' ∧ V bs' w' = num ins' := by
  intro k
  induction k with
  | zero => intro j w m bs ins h1 h2; omega
  | succ k ih =>
    intro j w m bs ins hk hj hm hw hb hg hil hbits hv
    have htl := tot_le hg
    rw [loopN_succ]
    generalize hL : loopN g3_1 o3_1 b3_1 k = L at ih ⊢
    unfold b3_1
    simp only [if_true, Int.toNat_natCast, List.drop_zero, List.take_length]
    rcases Nat.lt_or_ge j xs.length with hlt | hge
    · have c1 : (0 : Int) ≤ (j : Int) := by omega
      have c2 : (j : Int) < (xs.length : Int) := by omega
      generalize he : xs.getD j ((0 : Int), ((0 : Int), (0 : Int))) = e
      simp only [c1, c2, decide_true, if_true]
      rcases put_any e hm hw hb (by omega) with ⟨hgood, w', m', bs', hf, hm', hw', hb', hbits', hv'⟩ | hf
      · have c3 : ins.length + (List.take 1 ((List.replicate 1 ((0 : Int), ((0 : Int), (0 : Int)))).set 0 (e.fst, e.snd.fst, e.snd.snd))).length ≤ 5864062014805 := by simp; omega
        rw [hf]
        simp only [Option.bind_some, c3, if_true, beq_self_eq_true, Sum.elim_inl]
        have e1 : IntKind.wrap IntKind.i64 (((tot ins : Nat) : Int) + e.2.2) = ((tot (ins ++ [e]) : Nat) : Int) := by
          unfold Good at hgood
          rw [wrap_i64 (by omega), tot_append]
          simp only [tot]; omega
        rw [e1, wrap_i64 (by omega)]
        exact ih (j + 1) w' m' bs' (ins ++ [e]) (by omega) (by omega) hm' hw' hb' (fun x hx => by
          rcases List.mem_append.1 hx with h | h
          · exact hg x h
          · rw [List.mem_singleton] at h; rw [h]; exact hgood) (by simp; omega) (by rw [tot_append]; simp only [tot]; omega) (by
          rw [hv', num_append, hv, hbits]; simp only [num, Nat.mul_zero, Nat.add_zero]; rw [Nat.mul_comm])
      · rw [hf]
        simp only [Option.bind_some]
        rw [if_neg (by decide)]
        simp only [Option.bind_some, Sum.elim_inl]
        rw [wrap_i64 (by omega)]
        exact ih (j + 1) w m bs ins (by omega) (by omega) hm hw hb hg (by omega) hbits hv
    · rw [if_neg (by simp <;> omega)]
      exact ⟨j, w, m, bs, ins, rfl, hm, hw, hb, hg, by omega, hbits, hv⟩

/-! ## Reading -/
theorem l3_2_spec (b : List Int) (hb : IsB b) (hl : b.length ≤ 100000) (ins : List OpT) (hil : ins.length ≤ 200) (pad : Nat) : ∀ (k j a w m : Nat), ins.length < j + k → j ≤ ins.length → (∀ e ∈ ins.drop j, Good e) → m < 8 → w < 2 ^ m → a ≤ b.length →
    m + 8 * (b.length - a) = tot (ins.drop j) + pad → RV b a w m = num (ins.drop j) →
    ∃ (i' : Int) (a' w' m' : Nat), loopN g3_2 o3_2 b3_2 k ((j : Int), b, (a : Int), (w : Int), (m : Int), ins, ()) = some (.inl (i', b, (a' : Int), (w' : Int), (m' : Int), ins, ())) ∧ m' < 8 ∧ a' ≤ b.length ∧ m' + 8 * (b.length - a') = pad := by
  intro k
  induction k with
  | zero => intro j a w m h1 h2; omega
  | succ k ih =>
    intro j a w m hk hj hg hm hw ha hleft hrv
    rw [loopN_succ]
    generalize hL : loopN g3_2 o3_2 b3_2 k = L at ih ⊢
    unfold b3_2
    simp only [if_true, Int.toNat_natCast, Nat.zero_add]
    rcases Nat.lt_or_ge j ins.length with hlt | hge
    · have c1 : (0 : Int) ≤ (j : Int) := by omega
      have c2 : (j : Int) < (ins.length : Int) := by omega
      simp only [c1, c2, decide_true, if_true]
      have hd : ins.drop j = ins.getD j ((0 : Int), ((0 : Int), (0 : Int))) :: ins.drop (j + 1) := by
        rw [List.drop_eq_getElem_cons hlt]
        simp [List.getD_eq_getElem?_getD, hlt]
      generalize he : ins.getD j ((0 : Int), ((0 : Int), (0 : Int))) = e at hd
      obtain ⟨c, v, n⟩ := e
      rw [hd] at hg hleft hrv
      obtain ⟨g1, g2, g3, g4⟩ := hg _ (List.mem_cons_self ..)
      simp only [tot, num] at hleft hrv g1 g2 g3 g4
      obtain ⟨nn, rfl⟩ : ∃ nn : Nat, n = (nn : Int) := ⟨n.toNat, by omega⟩
      obtain ⟨vn, rfl⟩ : ∃ vn : Nat, v = (vn : Int) := ⟨v.toNat, by omega⟩
      simp only [Int.toNat_natCast] at hleft hrv g4
      obtain ⟨a', w', m', h1, h2, h3, h4, h5, h6⟩ := f13_good (n := nn) hb (by omega) hm hw ha hl (by omega)
      have hmod : RV b a w m % 2 ^ nn = vn := by rw [hrv, Nat.add_mul_mod_self_left, Nat.mod_eq_of_lt g4]
      have hdiv : RV b a' w' m' = num (ins.drop (j + 1)) := by
        rw [h6, hrv, Nat.add_mul_div_left _ _ (Nat.two_pow_pos nn), Nat.div_eq_of_lt g4, Nat.zero_add]
      rw [h1, hmod]
      simp only [Option.bind_some]
      rw [if_neg (by decide), if_neg (by simp)]
      simp only [Option.bind_some, Sum.elim_inl]
      rw [wrap_i64 (by omega)]
      exact ih (j + 1) a' w' m' (by omega) (by omega) (fun x hx => hg x (List.mem_cons_of_mem _ hx)) h2 h3 h4 (by omega) hdiv
    · rw [if_neg (by simp <;> omega)]
      refine ⟨j, a, w, m, rfl, hm, ha, ?_⟩
      rw [List.drop_of_length_le hge] at hleft
      simpa [tot] using hleft

theorem outB_spec {w m : Nat} {bs : List Int} (hm : m < 8) (hw : w < 2 ^ m) (hb : IsB bs) : IsB (outB w m bs) ∧ valB (outB w m bs) = V bs w ∧ (outB w m bs).length = (8 * bs.length + m + 7) / 8 := by
  unfold outB
  by_cases h0 : 0 < m
  · rw [if_pos h0]
    have hp : (2 : Nat) ^ m ≤ 128 := by
      have : (2 : Nat) ^ m ≤ 2 ^ 7 := Nat.pow_le_pow_right (by omega) (by omega)
      simpa using this
    have e : w % 256 = w := by omega
    rw [e]
    refine ⟨hb.append (fun x hx => by rw [List.mem_singleton] at hx; rw [hx]; omega), ?_, by simp; omega⟩
    rw [valB_append]; unfold V
    simp [valB]
  · rw [if_neg h0]
    have : m = 0 := by omega
    subst this
    have hw0 : w = 0 := by simpa using hw
    subst hw0
    exact ⟨hb, by unfold V; simp, by omega⟩

theorem bitsBack_pure (xs : List OpT) (hxl : xs.length ≤ 9223372036854775807) : f3 (xs, ()) = some (true, ()) := by
  unfold f3
  rw [show f8 () = some (0, 0, [], ()) from rfl]
  simp only [Option.bind_some, if_true]
  by_cases h200 : 200 < xs.length
  · rw [if_pos (by simp <;> omega), awake_true]
    rfl
  · rw [if_neg (by simp <;> omega)]
    obtain ⟨i', w', m', bs', ins', h1, h2, h3, h4, h5, h6, h7, h8⟩ := l3_1_spec xs (by omega) 18446744073709551616 0 0 0 [] [] (by omega) (by omega) (by omega) (by simp) (fun x hx => by cases hx) (fun x hx => by cases hx) (by simp) (by simp [tot]) (by simp [V, valB, num])
    rw [show l3_1 = loopN g3_1 o3_1 b3_1 18446744073709551616 from rfl]
    have h1' : loopN g3_1 o3_1 b3_1 18446744073709551616 (xs, 0, 0, 0, 0, [], [], ()) = some (Sum.inl (xs, ((tot ins' : Nat) : Int), i', (w' : Int), (m' : Int), bs', ins', ())) := h1
    rw [h1']
    have htl := tot_le h5
    have hbl : bs'.length ≤ 90000 := by omega
    obtain ⟨o1, o2, o3⟩ := outB_spec h2 h3 h4
    simp only [Option.bind_some, Sum.elim_inl]
    rw [f11_eqn hbl]
    simp only [Option.bind_some, List.drop_zero, List.take_length]
    rw [f12_eqn (by omega)]
    simp only [Option.bind_some]
    have e1 : (((outB w' m' bs').length : Nat) : Int) = IntKind.wrap IntKind.i64 (Int.tdiv (IntKind.wrap IntKind.i64 (((tot ins' : Nat) : Int) + 7)) 8) := by
      rw [wrap_i64 (n := ((tot ins' : Nat) : Int) + 7) (by omega)]
      rw [Int.tdiv_eq_ediv_of_nonneg (by omega)]
      rw [wrap_i64 (by omega), o3]
      omega
    rw [← e1]
    rw [if_neg (by simp)]
    obtain ⟨i2, a2, w2, m2, q1, q2, q3, q4⟩ := l3_2_spec (outB w' m' bs') o1 (by omega) ins' (by omega) (8 * (outB w' m' bs').length - tot ins') 18446744073709551616 0 0 0 0 (by omega) (by omega) (by simpa using h5) (by omega) (by simp) (by omega) (by simp only [List.drop_zero]; omega) (by
      unfold RV; simp only [List.drop_zero, Nat.pow_zero, Nat.one_mul, Nat.zero_add]; rw [o2, h8])
    rw [show l3_2 = loopN g3_2 o3_2 b3_2 18446744073709551616 from rfl]
    have q1' : loopN g3_2 o3_2 b3_2 18446744073709551616 (0, outB w' m' bs', 0, 0, 0, ins', ()) = some (Sum.inl (i2, outB w' m' bs', (a2 : Int), (w2 : Int), (m2 : Int), ins', ())) := q1
    rw [q1']
    simp only [Option.bind_some, Sum.elim_inl]
    rw [awake_true]
    simp only [Option.bind_some, if_true]
    rw [f14_eqn q3 (by omega) (by omega)]
    simp only [Option.bind_some]
    congr 2
    simp
    omega
end Go.Ev.Bits
