/- Part of a proof about the given program: LzwDoes. -/
import Derived.Test.YtoobfjfmlejpeaaLzwD4
namespace Go.Ev.Lzw

theorem dec_isB : ∀ (k : Nat) (most R c : Nat) (ahead : List Int) (T : List (List Int)) (out : List Int), IsB ahead → (∀ r ∈ T, IsB r) → IsB out → IsB (dec most k R c ahead T out).2
  | 0, _, _, _, _, _, _, _, _, _ => IsB.nil
  | k + 1, most, R, c, ahead, T, out, ha, hT, ho => by
    unfold dec
    split
    · exact IsB.nil
    · split
      · exact dec_isB k _ _ _ _ _ _ IsB.nil (fun r hr => by cases hr) ho
      · split
        · exact ho
        · cases hrow : rowOf (R / 2 ^ (c - sz T.length)) ahead T with
          | none => exact IsB.nil
          | some row =>
            have hrb := rowOf_isB hrow ha hT
            simp only []
            split
            · exact IsB.nil
            · refine dec_isB k _ _ _ _ _ _ hrb (fun r hr => ?_) (ho.append hrb)
              unfold grown at hr
              split at hr
              · rcases List.mem_append.1 hr with h | h
                · exact hT r h
                · rw [List.mem_singleton] at h; rw [h]; exact ha.append (hrb.take _)
              · exact hT r hr

theorem f7_eqn {b : List Int} (hl : b.length ≤ 100000000) : f7 (b, ()) = some (b, ()) := by
  unfold f7
  simp only [if_true, List.nil_append]
  rw [if_pos (by omega), if_pos (by simp)]

theorem getBoth {b : List Int} (hb : IsB b) (hl : b.length ≤ 100000000) (n : Int) : ∃ (code : Int) (out : List Int), f10 (b, n, ()) = some (code, out, ()) ∧ f11 (b, n, ()) = some (out, code, ()) ∧ IsB out := by
  by_cases h : n < 0 ∨ 1048576 < n
  · exact ⟨1, [], f10_bad h, f11_bad h, IsB.nil⟩
  · obtain ⟨most, rfl⟩ : ∃ most : Nat, n = (most : Int) := ⟨n.toNat, by omega⟩
    exact ⟨_, _, f10_eqn hb hl (by omega), f11_eqn hb hl (by omega), dec_isB _ _ _ _ _ _ _ IsB.nil (fun r hr => by cases hr) IsB.nil⟩

theorem lzwDoes_pure (b : List Int) (n : Int) (hb : IsB b) : f3 (b, n, ()) = some (true, ()) := by
  unfold f3
  simp only [List.drop_zero, List.take_length]
  by_cases h1 : 600 < b.length
  · rw [if_pos (by simp; omega)]
  · rw [if_neg (by simp; omega), f7_eqn (by omega)]
    simp only [Option.bind_some]
    obtain ⟨B, e1, e2, e3, e4, e5, e6⟩ := f8_eqn hb (by omega)
    rw [e1]
    simp only [Option.bind_some]
    rw [f9_eqn hb (by omega) e2 e3 e4 e5 e6]
    simp only [Option.bind_some]
    obtain ⟨code, out, g1, g2, g3⟩ := getBoth hb (by omega) n
    rw [g1]
    simp only [Option.bind_some]
    rw [g2]
    simp only [Option.bind_some]
    rw [awake_true]
    simp only [Option.bind_some, if_true, beq_self_eq_true]
end Go.Ev.Lzw
