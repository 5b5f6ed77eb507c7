/- Part of a proof about the given program: Arr. -/
import Derived.Test.YtaofodieeepobaaBig2
namespace Go.Ev
def tab (n : Nat) (f : Nat → Int) : List Int := (List.range n).map f
theorem tab_length (n : Nat) (f : Nat → Int) : (tab n f).length = n := by simp [tab]
theorem tab_get {n : Nat} {f : Nat → Int} {k : Nat} (h : k < n) (d : Int) : (tab n f).getD k d = f k := by
  simp [tab, List.getD_eq_getElem?_getD, h]
theorem tab_ext {n : Nat} {f g : Nat → Int} (h : ∀ k, k < n → f k = g k) : tab n f = tab n g := by
  unfold tab
  exact List.map_congr_left fun k hk => h k (List.mem_range.1 hk)
theorem tab_set (n : Nat) (f : Nat → Int) (k : Nat) (v : Int) : (tab n f).set k v = tab n (fun i => if i = k then v else f i) := by
  apply List.ext_getElem?
  intro i
  unfold tab
  rw [List.getElem?_set]
  simp only [List.length_map, List.length_range, List.getElem?_map]
  by_cases h : k = i
  · subst h
    by_cases hk : k < n
    · simp [hk]
    · simp [hk]
  · by_cases hi : i < n
    · simp [hi, h, Ne.symm h]
    · simp [hi, h]
theorem tab_zero (n : Nat) : List.replicate n (0 : Int) = tab n (fun _ => 0) := by
  apply List.ext_getElem?
  intro i
  simp [tab, List.getElem?_replicate]
  by_cases h : i < n
  · simp [h]
  · simp [h]
theorem count_take_succ {l : List Int} {i : Nat} (h : i < l.length) (n : Int) : (l.take (i + 1)).count n = (l.take i).count n + if l.getD i 0 = n then 1 else 0 := by
  rw [List.take_add_one, List.getElem?_eq_getElem h]
  simp only [Option.toList_some, List.count_append, List.count_singleton]
  rw [List.getD_eq_getElem?_getD, List.getElem?_eq_getElem h, Option.getD_some]
  congr 1
  by_cases hn : l[i] = n
  · simp [hn]
  · simp [hn]
end Go.Ev
