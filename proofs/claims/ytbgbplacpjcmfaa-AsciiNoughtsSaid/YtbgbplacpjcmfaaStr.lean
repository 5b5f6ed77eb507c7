/- Part of a proof about the given program: Str. -/
import Derived.Test.YtbgbplacpjcmfaaBig2
namespace Go.Ev

/-! # Texts of bytes -/
theorem str_nil : ByteArray.mk #[] = bytesStr [] := rfl
theorem str_data (a : List Int) : (bytesStr a).data.toList = a.map fun n => UInt8.ofNat n.toNat := by simp [bytesStr]
theorem str_ext' {x y : ByteArray} (h : x.data.toList = y.data.toList) : x = y := by
  cases x; cases y
  congr 1
  exact Array.toList_inj.1 h
theorem str_cat (a b : List Int) : bytesStr a ++ bytesStr b = bytesStr (a ++ b) := by
  apply str_ext'
  rw [ByteArray.data_append, Array.toList_append]
  simp only [str_data, List.map_append]
theorem str_cut (a : List Int) (i j : Nat) : (bytesStr a).extract i j = bytesStr ((a.take j).drop i) := by
  apply str_ext'
  rw [ByteArray.data_extract, Array.toList_extract, List.extract_eq_take_drop]
  simp only [str_data, List.map_drop, List.map_take]
  rw [List.drop_take]
theorem str_beq {a b : List Int} (ha : IsB a) (hb : IsB b) : (ByteArray.toList (bytesStr a) == ByteArray.toList (bytesStr b)) = decide (a = b) := by
  rw [ByteArray.toList_eq, ByteArray.toList_eq]
  by_cases h : a = b
  · rw [h, decide_eq_true rfl]
    exact beq_self_eq_true _
  · rw [decide_eq_false h, Bool.eq_false_iff]
    intro he
    exact h (bytesStr_inj ha hb (str_ext' (eq_of_beq he)))
theorem str_bytes {r : List Int} (h : IsB r) : List.map (fun y => ((UInt8.toNat y : Nat) : Int)) (Array.toList (ByteArray.data (bytesStr r))) = r := by
  rw [str_data, List.map_map]
  conv => rhs; rw [← List.map_id r]
  refine List.map_congr_left fun x hx => ?_
  have h1 := h x hx
  simp only [Function.comp, id, UInt8.toNat_ofNat']
  omega
theorem str_first {s : List Int} (h : IsB s) : ((UInt8.toNat (Array.getD (ByteArray.data (bytesStr s)) 0 0) : Nat) : Int) = s.getD 0 0 := by
  cases s with
  | nil => rfl
  | cons x t =>
    have h1 := h x (List.mem_cons_self ..)
    simp only [bytesStr, List.map_cons, List.getD_cons_zero, Array.getD_eq_getD_getElem?, List.getElem?_toArray, List.getElem?_cons_zero, Option.getD_some, UInt8.toNat_ofNat']
    omega
theorem strs_getD (T : List (List Int)) (i : Nat) : List.getD (T.map bytesStr) i (ByteArray.mk #[]) = bytesStr (T.getD i []) := by
  rw [List.getD_eq_getElem?_getD, List.getD_eq_getElem?_getD, List.getElem?_map]
  cases T[i]? <;> rfl
end Go.Ev
