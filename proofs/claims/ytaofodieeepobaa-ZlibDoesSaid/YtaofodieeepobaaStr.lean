/- Part of a proof about the given program: Str. -/
import Derived.Test.YtaofodieeepobaaBig2
namespace Go.Ev
theorem str_ext' {x y : ByteArray} (h : x.data.toList = y.data.toList) : x = y := by
  cases x; cases y
  congr 1
  exact Array.toList_inj.1 h
theorem str_beq {a b : List Int} (ha : IsB a) (hb : IsB b) : (ByteArray.toList (bytesStr a) == ByteArray.toList (bytesStr b)) = decide (a = b) := by
  rw [ByteArray.toList_eq, ByteArray.toList_eq]
  by_cases h : a = b
  · rw [h, decide_eq_true rfl]
    exact beq_self_eq_true _
  · rw [decide_eq_false h, Bool.eq_false_iff]
    intro he
    exact h (bytesStr_inj ha hb (str_ext' (eq_of_beq he)))
end Go.Ev
