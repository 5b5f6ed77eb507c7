/- Part of a proof about the given program: LzwBack. -/
import Derived.Test.YtoobfjfmlejpeaaLzwB
namespace Go.Ev.Lzw

theorem lzwBack_pure (b rest : List Int) (most : Int) (hb : IsB b) (hr : IsB rest) : f4 (b, rest, most, ()) = some (true, ()) := by
  unfold f4
  simp only []
  by_cases h1 : 9000 < b.length
  · rw [if_pos (by simp; omega)]
  · rw [if_neg (by simp; omega)]
    by_cases h2 : 300 < rest.length
    · rw [if_pos (by simp; omega)]
    · rw [if_neg (by simp; omega)]
      by_cases h3 : most < 0
      · rw [if_pos (by simpa using h3)]
      · rw [if_neg (by simpa using h3)]
        by_cases h4 : most > 9000
        · rw [if_pos (by simpa using h4)]
        · rw [if_neg (by simpa using h4)]
          obtain ⟨mn, rfl⟩ : ∃ mn : Nat, most = (mn : Int) := ⟨most.toNat, by omega⟩
          obtain ⟨B, e1, e2, e3, e4, e5, e6⟩ := f8_eqn hb (by omega)
          rw [e1]
          simp only [Option.bind_some, List.drop_zero, List.take_length, List.take_zero, List.nil_append]
          rw [if_pos (by omega), if_pos (by omega), f10_eqn (e2.append hr) (by simp; omega) (by omega), back hb hr e3 (by omega) e5 e6 mn]
          simp only [Option.bind_some]
          by_cases h5 : mn < b.length
          · rw [if_pos h5, if_pos (by simp; omega)]
            unfold b4_1
            rw [awake_true]
            rfl
          · rw [if_neg h5, if_neg (by simp; omega), awake_true]
            simp
end Go.Ev.Lzw
