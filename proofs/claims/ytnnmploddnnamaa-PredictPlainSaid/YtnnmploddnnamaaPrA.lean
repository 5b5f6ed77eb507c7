/- Part of a proof about the given program: PrA. -/
import Derived.Test.YtnnmploddnnamaaEvEE
import Derived.Test.YtnnmploddnnamaaBig
namespace Go.Ev.Pre

/-! # Rows that are foretold (layer 9) -/
def far (a b : Int) : Int := if a - b ≤ b - a then b - a else a - b
def tells (tag a b c : Int) : Int :=
  if tag = 1 then a else if tag = 2 then b else if tag = 3 then (a + b) / 2 else if tag = 4 then
    (if far (a + b - c) a ≤ far (a + b - c) b ∧ far (a + b - c) a ≤ far (a + b - c) c then a else if far (a + b - c) b ≤ far (a + b - c) c then b else c)
  else 0
def back (l : List Int) (s k : Nat) : Int := if k < s then 0 else l.getD (k - s) 0
/-- What is foretold behind these bytes of a row. -/
def told (s : Nat) (tag : Int) (ab pre : List Int) : Int := tells tag (back pre s pre.length) (ab.getD pre.length 0) (back ab s pre.length)

def dGo (s : Nat) (tag : Int) (ab : List Int) : List Int → List Int → List Int
  | _, [] => []
  | pre, x :: xs => (x - told s tag ab pre) % 256 :: dGo s tag ab (pre ++ [x]) xs
def uGo (s : Nat) (tag : Int) (ab : List Int) : List Int → List Int → List Int
  | _, [] => []
  | pre, y :: ys => (y + told s tag ab pre) % 256 :: uGo s tag ab (pre ++ [(y + told s tag ab pre) % 256]) ys

theorem dGo_len {s : Nat} {tag : Int} {ab : List Int} : ∀ {xs pre : List Int}, (dGo s tag ab pre xs).length = xs.length
  | [], _ => rfl
  | _ :: xs, _ => by simp [dGo, dGo_len (xs := xs)]
theorem uGo_len {s : Nat} {tag : Int} {ab : List Int} : ∀ {xs pre : List Int}, (uGo s tag ab pre xs).length = xs.length
  | [], _ => rfl
  | _ :: xs, _ => by simp [uGo, uGo_len (xs := xs)]
theorem dGo_isB {s : Nat} {tag : Int} {ab : List Int} : ∀ {xs pre : List Int}, IsB (dGo s tag ab pre xs)
  | [], _ => IsB.nil
  | _ :: xs, _ => fun x hx => by
    simp only [dGo, List.mem_cons] at hx
    rcases hx with rfl | hx
    · omega
    · exact dGo_isB x hx
theorem uGo_isB {s : Nat} {tag : Int} {ab : List Int} : ∀ {xs pre : List Int}, IsB (uGo s tag ab pre xs)
  | [], _ => IsB.nil
  | _ :: xs, _ => fun x hx => by
    simp only [uGo, List.mem_cons] at hx
    rcases hx with rfl | hx
    · omega
    · exact uGo_isB x hx
theorem uGo_dGo {s : Nat} {tag : Int} {ab : List Int} : ∀ {xs pre : List Int}, IsB xs → uGo s tag ab pre (dGo s tag ab pre xs) = xs
  | [], _, _ => rfl
  | x :: xs, pre, h => by
    have h1 := h x (List.mem_cons_self ..)
    have e : ((x - told s tag ab pre) % 256 + told s tag ab pre) % 256 = x := by omega
    simp only [dGo, uGo, e]
    rw [uGo_dGo (fun y hy => h y (List.mem_cons_of_mem _ hy))]
theorem dGo_uGo {s : Nat} {tag : Int} {ab : List Int} : ∀ {ys pre : List Int}, IsB ys → dGo s tag ab pre (uGo s tag ab pre ys) = ys
  | [], _, _ => rfl
  | y :: ys, pre, h => by
    have h1 := h y (List.mem_cons_self ..)
    have e : ((y + told s tag ab pre) % 256 - told s tag ab pre) % 256 = y := by omega
    simp only [dGo, uGo, e]
    rw [dGo_uGo (fun z hz => h z (List.mem_cons_of_mem _ hz))]
theorem uGo_snoc {s : Nat} {tag : Int} {ab : List Int} {y : Int} : ∀ {ys pre : List Int}, uGo s tag ab pre (ys ++ [y]) = uGo s tag ab pre ys ++ [(y + told s tag ab (pre ++ uGo s tag ab pre ys)) % 256]
  | [], _ => by simp [uGo]
  | x :: ys, pre => by
    simp only [List.cons_append, uGo, uGo_snoc (ys := ys), List.append_assoc, List.nil_append]
theorem dGo_snoc {s : Nat} {tag : Int} {ab : List Int} {x : Int} : ∀ {xs pre : List Int}, dGo s tag ab pre (xs ++ [x]) = dGo s tag ab pre xs ++ [(x - told s tag ab (pre ++ xs)) % 256]
  | [], _ => by simp [dGo]
  | y :: xs, pre => by
    simp only [List.cons_append, dGo, dGo_snoc (xs := xs), List.append_assoc, List.nil_append]

/-! ## Parts of a row -/
theorem chunkL_nil (n : Nat) (hn : 1 ≤ n) : chunkL n ([] : List Int) = [] := by
  unfold chunkL chunkNo
  rw [show ([] : List Int).length + n - 1 = n - 1 by simp, Nat.div_eq_of_lt (by omega)]
  rfl
theorem chunkNo_drop {n : Nat} (hn : 1 ≤ n) {len : Nat} (h : 1 ≤ len) : chunkNo n len = chunkNo n (len - n) + 1 := by
  unfold chunkNo
  rcases Nat.lt_or_ge len n with h1 | h1
  · rw [show len - n + n - 1 = n - 1 by omega, Nat.div_eq_of_lt (show n - 1 < n by omega), show len + n - 1 = (len - 1) + n by omega, Nat.add_div_right _ (by omega), Nat.div_eq_of_lt (show len - 1 < n by omega)]
  · rw [show len + n - 1 = (len - n + n - 1) + n by omega, Nat.add_div_right _ (by omega)]
theorem chunkL_cons {n : Nat} (hn : 1 ≤ n) {xs : List Int} (h : xs ≠ []) : chunkL n xs = xs.take n :: chunkL n (xs.drop n) := by
  have h1 : 1 ≤ xs.length := List.length_pos_iff.2 h
  unfold chunkL
  rw [chunkNo_drop hn h1, List.range_succ_eq_map, List.map_cons, List.map_map, List.length_drop]
  congr 1
  · simp [chunks]
  · apply List.map_congr_left
    intro k _
    simp only [chunks, Function.comp_apply, List.drop_drop]
    rw [show k.succ * n = n + k * n by rw [Nat.succ_mul, Nat.add_comm]]
theorem chunkL_ind {n : Nat} (hn : 1 ≤ n) (C : List Int → Prop) (h0 : C []) (h1 : ∀ xs, xs ≠ [] → C (xs.drop n) → C xs) : ∀ xs, C xs := by
  intro xs
  generalize hm : xs.length = m
  induction m using Nat.strongRecOn generalizing xs with
  | ind m ih =>
    by_cases e : xs = []
    · rw [e]; exact h0
    · exact h1 xs e (ih _ (by rw [List.length_drop]; have := List.length_pos_iff.2 e; omega) _ rfl)
theorem chunkL_flat {n : Nat} (hn : 1 ≤ n) : ∀ xs : List Int, (chunkL n xs).flatten = xs :=
  chunkL_ind hn _ (by rw [chunkL_nil n hn]; rfl) fun xs h ih => by rw [chunkL_cons hn h, List.flatten_cons, ih, List.take_append_drop]
theorem chunkL_len {n : Nat} (hn : 1 ≤ n) : ∀ xs : List Int, xs.length % n = 0 → ∀ c ∈ chunkL n xs, c.length = n :=
  chunkL_ind hn _ (fun _ => by rw [chunkL_nil n hn]; intro c h; cases h) fun xs h ih he c hc => by
    have h1 : 1 ≤ xs.length := List.length_pos_iff.2 h
    have h2 : n ≤ xs.length := by
      rcases Nat.lt_or_ge xs.length n with h3 | h3
      · rw [Nat.mod_eq_of_lt h3] at he; omega
      · exact h3
    rw [chunkL_cons hn h] at hc
    rcases List.mem_cons.1 hc with rfl | hc
    · rw [List.length_take, Nat.min_eq_left h2]
    · exact ih (by rw [List.length_drop, ← Nat.mod_eq_sub_mod h2]; exact he) c hc
theorem chunkL_of {n : Nat} (hn : 1 ≤ n) : ∀ l : List (List Int), (∀ c ∈ l, c.length = n) → chunkL n l.flatten = l
  | [], _ => chunkL_nil n hn
  | c :: l, h => by
    have hc := h c (List.mem_cons_self ..)
    rw [List.flatten_cons, chunkL_cons hn (by intro e; have := congrArg List.length e; rw [List.length_append, List.length_nil] at this; omega)]
    rw [List.take_left' hc, List.drop_left' hc, chunkL_of hn l (fun d hd => h d (List.mem_cons_of_mem _ hd))]
theorem flat_len {n : Nat} : ∀ {l : List (List Int)}, (∀ c ∈ l, c.length = n) → l.flatten.length = l.length * n
  | [], _ => by simp
  | c :: l, h => by
    rw [List.flatten_cons, List.length_append, h c (List.mem_cons_self ..), flat_len (fun d hd => h d (List.mem_cons_of_mem _ hd)), List.length_cons, Nat.succ_mul, Nat.add_comm]

/-! ## All rows -/
def uL (fr s : Nat) : List Int → List (List Int) → Option (List Int)
  | _, [] => some []
  | ab, c :: cs => if fr = 1 ∧ 4 < c.getD 0 0 then none else (uL fr s (uGo s (if fr = 1 then c.getD 0 0 else 1) ab [] (c.drop fr)) cs).map (uGo s (if fr = 1 then c.getD 0 0 else 1) ab [] (c.drop fr) ++ ·)
/-- The rows, each told by the one above. -/
def dR (fr s : Nat) (tag : Int) : List Int → List (List Int) → List (List Int)
  | _, [] => []
  | ab, c :: cs => ((if fr = 1 then [tag] else []) ++ dGo s (if fr = 1 then tag else 1) ab [] c) :: dR fr s tag c cs

theorem dR_len {fr s n : Nat} (hf : fr ≤ 1) {tag : Int} : ∀ {l : List (List Int)} {ab : List Int}, (∀ c ∈ l, c.length = n) → ∀ c ∈ dR fr s tag ab l, c.length = n + fr
  | [], _, _, _, hc => by cases hc
  | d :: l, _, h, c, hc => by
    simp only [dR, List.mem_cons] at hc
    rcases hc with rfl | hc
    · rw [List.length_append, dGo_len, h d (List.mem_cons_self ..)]
      rcases (by omega : fr = 0 ∨ fr = 1) with rfl | rfl <;> simp <;> omega
    · exact dR_len hf (fun e he => h e (List.mem_cons_of_mem _ he)) c hc
theorem dR_no {fr s : Nat} {tag : Int} : ∀ {l : List (List Int)} {ab : List Int}, (dR fr s tag ab l).length = l.length
  | [], _ => rfl
  | _ :: l, _ => by simp [dR, dR_no (l := l)]

/-- What was done is undone. -/
theorem uL_dR {fr s : Nat} (hf : fr ≤ 1) {tag : Int} (ht : tag ≤ 4) : ∀ {l : List (List Int)} {ab : List Int}, (∀ c ∈ l, IsB c) → uL fr s ab (dR fr s tag ab l) = some l.flatten
  | [], _, _ => rfl
  | c :: l, ab, h => by
    have hc := h c (List.mem_cons_self ..)
    simp only [dR, uL]
    rcases (by omega : fr = 0 ∨ fr = 1) with rfl | rfl
    · simp only [Nat.zero_ne_one, false_and, if_false, List.nil_append, List.drop_zero]
      rw [uGo_dGo hc, uL_dR (by omega) ht (fun d hd => h d (List.mem_cons_of_mem _ hd))]
      rfl
    · simp only [if_true, true_and, List.singleton_append, List.getD_cons_zero, List.drop_succ_cons, List.drop_zero]
      rw [if_neg (by omega), uGo_dGo hc, uL_dR (by omega) ht (fun d hd => h d (List.mem_cons_of_mem _ hd))]
      rfl
/-- What was undone, done by its tags, is as it was. -/
theorem dR_uL {fr s n : Nat} (hf : fr ≤ 1) {tag : Int} : ∀ {l : List (List Int)} {ab : List Int} {z : List Int}, 1 ≤ n → (∀ c ∈ l, IsB c) → (∀ c ∈ l, c.length = n + fr) → (fr = 1 → ∀ c ∈ l, c.getD 0 0 = tag) → uL fr s ab l = some z → (dR fr s tag ab (chunkL n z)).flatten = l.flatten
  | [], ab, z, hn, _, _, _, hz => by
    simp only [uL, Option.some.injEq] at hz
    rw [← hz, chunkL_nil n hn]; rfl
  | c :: l, ab, z, hn, h, hl, ht, hz => by
    have hc := h c (List.mem_cons_self ..)
    have hcl := hl c (List.mem_cons_self ..)
    unfold uL at hz
    split at hz
    · cases hz
    generalize hrow : uGo s (if fr = 1 then c.getD 0 0 else 1) ab [] (c.drop fr) = row at hz
    cases hu : uL fr s row l with
    | none => rw [hu] at hz; cases hz
    | some z' =>
    rw [hu] at hz
    simp only [Option.map_some, Option.some.injEq] at hz
    have hrl : row.length = n := by rw [← hrow, uGo_len, List.length_drop]; omega
    have hz0 : z ≠ [] := by intro e; rw [e] at hz; have := congrArg List.length hz; rw [List.length_append, List.length_nil] at this; omega
    rw [chunkL_cons hn hz0, ← hz, List.take_left' hrl, List.drop_left' hrl]
    have ih := dR_uL (tag := tag) hf hn (fun d hd => h d (List.mem_cons_of_mem _ hd)) (fun d hd => hl d (List.mem_cons_of_mem _ hd)) (fun e d hd => ht e d (List.mem_cons_of_mem _ hd)) hu
    simp only [dR, List.flatten_cons, ih]
    congr 1
    rcases (by omega : fr = 0 ∨ fr = 1) with rfl | rfl
    · simp only [Nat.zero_ne_one, if_false, List.drop_zero, List.nil_append] at hrow ⊢
      rw [← hrow, dGo_uGo hc]
    · have h1 := ht rfl c (List.mem_cons_self ..)
      simp only [if_true] at hrow ⊢
      rw [← hrow, h1, dGo_uGo (hc.drop 1)]
      match c, hcl, h1 with
      | x :: c', _, h1 => simp only [List.getD_cons_zero] at h1; rw [h1]; rfl
theorem uL_len {fr s n : Nat} : ∀ {l : List (List Int)} {ab : List Int} {z : List Int}, (∀ c ∈ l, c.length = n + fr) → uL fr s ab l = some z → z.length = l.length * n
  | [], ab, z, _, hz => by
    simp only [uL, Option.some.injEq] at hz
    rw [← hz]; simp
  | c :: l, ab, z, hl, hz => by
    have hcl := hl c (List.mem_cons_self ..)
    unfold uL at hz
    split at hz
    · cases hz
    generalize hrow : uGo s (if fr = 1 then c.getD 0 0 else 1) ab [] (c.drop fr) = row at hz
    cases hu : uL fr s row l with
    | none => rw [hu] at hz; cases hz
    | some z' =>
    rw [hu] at hz
    simp only [Option.map_some, Option.some.injEq] at hz
    have hrl : row.length = n := by rw [← hrow, uGo_len, List.length_drop]; omega
    rw [← hz, List.length_append, hrl, uL_len (fun d hd => hl d (List.mem_cons_of_mem _ hd)) hu, List.length_cons, Nat.succ_mul, Nat.add_comm]
end Go.Ev.Pre
