/- Part of a proof about the given program: AsBH. -/
import Derived.Test.YtbgbplacpjcmfaaAsA
namespace Go.Ev.Asc
set_option maxRecDepth 100000
open Go.Proofs

/-! # Signs read -/
def white (c : Int) : Bool := decide (c = 0) || decide (c = 9) || decide (c = 10) || decide (c = 12) || decide (c = 13) || decide (c = 32)
def dig (c : Int) : Int := if 48 ≤ c ∧ c ≤ 57 then c - 48 else if 65 ≤ c ∧ c ≤ 70 then c - 55 else if 97 ≤ c ∧ c ≤ 102 then c - 87 else -1
theorem f24_eqn (c : Int) : f24 (c, ()) = some (white c, ()) := by
  unfold f24 white
  simp only [beq_iff_eq]
  by_cases h1 : c = 0 <;> by_cases h2 : c = 9 <;> by_cases h3 : c = 10 <;> by_cases h4 : c = 12 <;> by_cases h5 : c = 13 <;> by_cases h6 : c = 32 <;> simp [h1, h2, h3, h4, h5, h6]
theorem f26_eqn (c : Int) : f26 (c, ()) = some (white c, ()) := by
  unfold f26 white
  simp only [beq_iff_eq]
  by_cases h1 : c = 0 <;> by_cases h2 : c = 9 <;> by_cases h3 : c = 10 <;> by_cases h4 : c = 12 <;> by_cases h5 : c = 13 <;> simp [h1, h2, h3, h4, h5] <;> rfl
theorem f23_all : ((List.range 256).all fun n => decide (f23 (((n : Nat) : Int), ()) = some (dig n, ()))) = true := by kernel_rfl
theorem f25_all : ((List.range 256).all fun n => decide (f25 (((n : Nat) : Int), ()) = some (dig n, ()))) = true := by kernel_rfl
theorem f23_eqn {c : Int} (h : 0 ≤ c ∧ c < 256) : f23 (c, ()) = some (dig c, ()) := by
  obtain ⟨n, rfl⟩ : ∃ n : Nat, c = (n : Int) := ⟨c.toNat, by omega⟩
  exact of_decide_eq_true (List.all_eq_true.1 f23_all n (List.mem_range.2 (by omega)))
theorem f25_eqn {c : Int} (h : 0 ≤ c ∧ c < 256) : f25 (c, ()) = some (dig c, ()) := by
  obtain ⟨n, rfl⟩ : ∃ n : Nat, c = (n : Int) := ⟨c.toNat, by omega⟩
  exact of_decide_eq_true (List.all_eq_true.1 f25_all n (List.mem_range.2 (by omega)))
theorem dig_range (c : Int) : -1 ≤ dig c ∧ dig c ≤ 15 := by unfold dig; repeat' split
                                                            all_goals omega

/-! ## Texts cut -/
def cutC : List Int → Option (List Int)
  | [] => none
  | x :: xs => if x = 62 then some [] else (cutC xs).map (x :: ·)
def cutD : List Int → Option (List Int)
  | [] => none
  | x :: xs => if x = 126 ∧ xs.head? = some 62 then some [] else (cutD xs).map (x :: ·)
theorem cutC_cons (x : Int) (xs : List Int) : cutC (x :: xs) = if x = 62 then some [] else (cutC xs).map (x :: ·) := rfl
theorem cutD_cons (x : Int) (xs : List Int) : cutD (x :: xs) = if x = 126 ∧ xs.head? = some 62 then some [] else (cutD xs).map (x :: ·) := rfl
def u8 (l : List Int) : List UInt8 := l.map fun n => UInt8.ofNat n.toNat
theorem u8_eq {x y : Int} (hx : 0 ≤ x ∧ x < 256) (hy : 0 ≤ y ∧ y < 256) : UInt8.ofNat x.toNat = UInt8.ofNat y.toNat ↔ x = y := by
  constructor
  · intro h
    have := congrArg UInt8.toNat h
    rw [UInt8.toNat_ofNat', UInt8.toNat_ofNat'] at this
    omega
  · intro h; rw [h]
theorem index_C : ∀ {l : List Int}, IsB l → Lib.index (u8 l) [62] = match cutC l with | none => -1 | some f => (f.length : Int)
  | [], _ => rfl
  | x :: l, h => by
    have hx := h x (List.mem_cons_self ..)
    have ih := index_C (l := l) (fun y hy => h y (List.mem_cons_of_mem _ hy))
    have e : ([62] : List UInt8).isPrefixOf (u8 (x :: l)) = decide (x = 62) := by
      show ((62 : UInt8) == UInt8.ofNat x.toNat && true) = _
      rw [Bool.and_true]
      by_cases hc : x = 62
      · rw [hc]; rfl
      · rw [decide_eq_false hc, beq_eq_false_iff_ne]
        intro he
        exact hc ((u8_eq (x := 62) (y := x) (by omega) hx).1 he).symm
    show (if ([62] : List UInt8).isPrefixOf (u8 (x :: l)) then (0 : Int) else if Lib.index (u8 l) [62] == -1 then -1 else Lib.index (u8 l) [62] + 1) = _
    rw [e, ih]
    rw [cutC_cons]
    by_cases hc : x = 62
    · rw [if_pos (decide_eq_true hc), if_pos hc]; rfl
    · rw [if_neg (fun h => hc (of_decide_eq_true h)), if_neg hc]
      cases cutC l with
      | none => rfl
      | some f =>
        dsimp only
        rw [if_neg (by simp)]
        simp
theorem index_D : ∀ {l : List Int}, IsB l → Lib.index (u8 l) [126, 62] = match cutD l with | none => -1 | some f => (f.length : Int)
  | [], _ => rfl
  | x :: l, h => by
    have hx := h x (List.mem_cons_self ..)
    have ih := index_D (l := l) (fun y hy => h y (List.mem_cons_of_mem _ hy))
    have e : ([126, 62] : List UInt8).isPrefixOf (u8 (x :: l)) = decide (x = 126 ∧ l.head? = some 62) := by
      show ((126 : UInt8) == UInt8.ofNat x.toNat && ([62] : List UInt8).isPrefixOf (u8 l)) = _
      have e1 : ((126 : UInt8) == UInt8.ofNat x.toNat) = decide (x = 126) := by
        by_cases hc : x = 126
        · rw [hc]; rfl
        · rw [decide_eq_false hc, beq_eq_false_iff_ne]
          intro he
          exact hc ((u8_eq (x := 126) (y := x) (by omega) hx).1 he).symm
      have e2 : ([62] : List UInt8).isPrefixOf (u8 l) = decide (l.head? = some 62) := by
        cases l with
        | nil => rfl
        | cons y l =>
          have hy := h y (by simp)
          show ((62 : UInt8) == UInt8.ofNat y.toNat && true) = _
          rw [Bool.and_true]
          by_cases hc : y = 62
          · rw [hc]; rfl
          · rw [decide_eq_false (by simpa using hc), beq_eq_false_iff_ne]
            intro he
            exact hc ((u8_eq (x := 62) (y := y) (by omega) hy).1 he).symm
      rw [e1, e2]
      by_cases h1 : x = 126 <;> by_cases h2 : l.head? = some 62 <;> simp [h1, h2]
    show (if ([126, 62] : List UInt8).isPrefixOf (u8 (x :: l)) then (0 : Int) else if Lib.index (u8 l) [126, 62] == -1 then -1 else Lib.index (u8 l) [126, 62] + 1) = _
    rw [e, ih]
    rw [cutD_cons]
    by_cases hc : x = 126 ∧ l.head? = some 62
    · rw [if_pos (decide_eq_true hc), if_pos hc]; rfl
    · rw [if_neg (fun h => hc (of_decide_eq_true h)), if_neg hc]
      cases cutD l with
      | none => rfl
      | some f =>
        dsimp only
        rw [if_neg (by simp)]
        simp
theorem cutC_take : ∀ {l f : List Int}, cutC l = some f → f = l.take f.length
  | [], _, h => by cases h
  | x :: l, f, h => by
    rw [cutC_cons] at h
    split at h
    · simp only [Option.some.injEq] at h; rw [← h]; rfl
    · cases hc : cutC l with
      | none => rw [hc] at h; cases h
      | some g =>
        rw [hc] at h
        simp only [Option.map_some, Option.some.injEq] at h
        rw [← h, List.length_cons, List.take_succ_cons, ← cutC_take hc]
theorem cutD_take : ∀ {l f : List Int}, cutD l = some f → f = l.take f.length
  | [], _, h => by cases h
  | x :: l, f, h => by
    rw [cutD_cons] at h
    split at h
    · simp only [Option.some.injEq] at h; rw [← h]; rfl
    · cases hc : cutD l with
      | none => rw [hc] at h; cases h
      | some g =>
        rw [hc] at h
        simp only [Option.map_some, Option.some.injEq] at h
        rw [← h, List.length_cons, List.take_succ_cons, ← cutD_take hc]
theorem str_of (l : List Int) : (⟨(u8 l).toArray⟩ : ByteArray) = bytesStr l := rfl
theorem f22_C {l : List Int} (h : IsB l) (hl : l.length ≤ 1000000) : ∃ r : ByteArray, f22 (bytesStr l, ByteArray.mk #[62], ()) = match cutC l with
    | none => some (bytesStr l, r, false, ())
    | some f => some (bytesStr f, r, true, ()) := by
  unfold f22
  dsimp only
  rw [str_size, if_pos (by omega), str_data]
  have hi : Lib.index (List.map (fun n : Int => UInt8.ofNat n.toNat) l) [62] = _ := index_C h
  unfold Lib.cut
  rw [hi]
  cases hc : cutC l with
  | none => exact ⟨_, rfl⟩
  | some f =>
    dsimp only
    rw [if_pos (Int.natCast_nonneg _), Int.toNat_natCast, ← List.map_take, ← cutC_take hc]
    exact ⟨_, rfl⟩
theorem f22_D {l : List Int} (h : IsB l) (hl : l.length ≤ 1000000) : ∃ r : ByteArray, f22 (bytesStr l, ByteArray.mk #[126, 62], ()) = match cutD l with
    | none => some (bytesStr l, r, false, ())
    | some f => some (bytesStr f, r, true, ()) := by
  unfold f22
  dsimp only
  rw [str_size, if_pos (by omega), str_data]
  have hi : Lib.index (List.map (fun n : Int => UInt8.ofNat n.toNat) l) [126, 62] = _ := index_D h
  unfold Lib.cut
  rw [hi]
  cases hc : cutD l with
  | none => exact ⟨_, rfl⟩
  | some f =>
    dsimp only
    rw [if_pos (Int.natCast_nonneg _), Int.toNat_natCast, ← List.map_take, ← cutD_take hc]
    exact ⟨_, rfl⟩
theorem cutC_len {l f : List Int} (h : cutC l = some f) : f.length ≤ l.length := by
  have := congrArg List.length (cutC_take h)
  rw [List.length_take] at this
  omega
theorem cutD_len {l f : List Int} (h : cutD l = some f) : f.length ≤ l.length := by
  have := congrArg List.length (cutD_take h)
  rw [List.length_take] at this
  omega
theorem cutC_isB {l f : List Int} (hb : IsB l) (h : cutC l = some f) : IsB f := by rw [cutC_take h]; exact hb.take _
theorem cutD_isB {l f : List Int} (hb : IsB l) (h : cutD l = some f) : IsB f := by rw [cutD_take h]; exact hb.take _
end Go.Ev.Asc
namespace Go.Ev.Asc
set_option maxRecDepth 100000
open Go.Proofs

/-! # Sixteens read -/
def nibs : List Int → List Int
  | [] => []
  | [a] => [16 * a]
  | a :: b :: r => (16 * a + b) :: nibs r
def scanH : List Int → List Int → Option (List Int)
  | ds, [] => some ds
  | ds, c :: cs => if dig c < 0 then (if white c then scanH ds cs else none) else scanH (ds ++ [dig c]) cs
theorem scanH_cons (ds : List Int) (c : Int) (cs : List Int) : scanH ds (c :: cs) = if dig c < 0 then (if white c then scanH ds cs else none) else scanH (ds ++ [dig c]) cs := rfl
def Dg (ds : List Int) : Prop := ∀ d ∈ ds, 0 ≤ d ∧ d < 16
theorem Dg.snoc {ds : List Int} (h : Dg ds) {d : Int} (hd : 0 ≤ d ∧ d < 16) : Dg (ds ++ [d]) := fun x hx => by
  rcases List.mem_append.1 hx with h1 | h1
  · exact h x h1
  · rw [List.mem_singleton.1 h1]; exact hd
theorem nibs_len : ∀ ds : List Int, (nibs ds).length = (ds.length + 1) / 2
  | [] => by simp [nibs]
  | [a] => by simp [nibs]
  | a :: b :: r => by
    simp only [nibs, List.length_cons, nibs_len r]
    omega
theorem nibs_even (d : Int) : ∀ ds : List Int, ds.length % 2 = 0 → nibs (ds ++ [d]) = nibs ds ++ [16 * d]
  | [], _ => by simp [nibs]
  | [a], h => by simp at h
  | a :: b :: r, h => by
    simp only [List.cons_append, nibs, nibs_even d r (by simpa [List.length_cons] using (by simp only [List.length_cons] at h; omega : r.length % 2 = 0))]
theorem nibs_odd (d : Int) : ∀ ds : List Int, Dg ds → ds.length % 2 = 1 → ∃ a, 0 ≤ a ∧ a < 16 ∧ (nibs ds).getD (ds.length / 2) 0 = 16 * a ∧ nibs (ds ++ [d]) = (nibs ds).set (ds.length / 2) (16 * a + d)
  | [], _, h => by simp at h
  | [a], hg, _ => ⟨a, (hg a (by simp)).1, (hg a (by simp)).2, by simp [nibs], by simp [nibs]⟩
  | a :: b :: r, hg, h => by
    obtain ⟨x, h1, h2, h3, h4⟩ := nibs_odd d r (fun y hy => hg y (by simp [hy])) (by simp only [List.length_cons] at h; omega)
    have e : (a :: b :: r).length / 2 = r.length / 2 + 1 := by simp only [List.length_cons]; omega
    refine ⟨x, h1, h2, ?_, ?_⟩
    · rw [e]; simp only [nibs, List.getD_cons_succ]; exact h3
    · rw [e]
      simp only [List.cons_append, nibs, List.set_cons_succ, h4]
theorem nibs_isB : ∀ {ds : List Int}, Dg ds → IsB (nibs ds)
  | [], _ => by simp only [nibs]; exact IsB.nil
  | [a], h => by simp only [nibs]; exact IsB.one (by have := h a (by simp); omega)
  | a :: b :: r, h => fun x hx => by
    have h1 := h a (by simp)
    have h2 := h b (by simp)
    simp only [nibs, List.mem_cons] at hx
    rcases hx with rfl | hx
    · omega
    · exact nibs_isB (fun y hy => h y (by simp [hy])) x hx
theorem nibs_zero : ∀ ds : List Int, ds.length % 2 = 1 → nibs (ds ++ [0]) = nibs ds
  | [], h => by simp at h
  | [a], _ => by simp [nibs]
  | a :: b :: r, h => by simp only [List.cons_append, nibs, nibs_zero r (by simp only [List.length_cons] at h; omega)]
theorem scanH_dg : ∀ {cs ds ds' : List Int}, Dg ds → scanH ds cs = some ds' → Dg ds'
  | [], ds, ds', h, e => by simp only [scanH, Option.some.injEq] at e; rw [← e]; exact h
  | c :: cs, ds, ds', h, e => by
    unfold scanH at e
    split at e
    · split at e
      · exact scanH_dg h e
      · cases e
    · exact scanH_dg (h.snoc (by have := dig_range c; omega)) e
theorem scanH_len : ∀ {cs ds ds' : List Int}, scanH ds cs = some ds' → ds'.length ≤ ds.length + cs.length
  | [], ds, ds', e => by simp only [scanH, Option.some.injEq] at e; rw [← e]; simp
  | c :: cs, ds, ds', e => by
    unfold scanH at e
    split at e
    · split at e
      · have := scanH_len e; simp only [List.length_cons]; omega
      · cases e
    · have := scanH_len e; simp only [List.length_append, List.length_cons, List.length_nil] at this ⊢; omega

theorem or8 {a b : Int} (ha : 0 ≤ a ∧ a < 16) (hb : 0 ≤ b ∧ b < 16) : ((BitVec.toNat ((BitVec.ofInt 8 (16 * a)) ||| (BitVec.ofInt 8 b)) : Nat) : Int) = 16 * a + b := by
  have hall : ∀ x y : Fin 16, BitVec.toNat ((BitVec.ofInt 8 (16 * (x.val : Int))) ||| (BitVec.ofInt 8 (y.val : Int))) = 16 * x.val + y.val := by decide
  obtain ⟨x, rfl⟩ : ∃ x : Nat, a = (x : Int) := ⟨a.toNat, by omega⟩
  obtain ⟨y, rfl⟩ : ∃ y : Nat, b = (y : Int) := ⟨b.toNat, by omega⟩
  have := hall ⟨x, by omega⟩ ⟨y, by omega⟩
  simp only at this
  rw [this]; omega
theorem and1 {m : Nat} (h : m ≤ 2000000) : ((BitVec.toNat ((BitVec.ofInt 64 (m : Int)) &&& (BitVec.ofInt 64 1)) : Nat) : Int) = ((m % 2 : Nat) : Int) := by
  have := and64 (a := m) (b := 1) (by omega) (by omega)
  rw [show (1 : Int) = ((1 : Nat) : Int) from rfl, this]
  congr 1
  exact Nat.and_one_is_mod m

theorem one_row (b : Int) : List.take (1 : Nat) (List.drop (0 : Nat) (List.set (List.replicate (1 : Nat) (0 : Int)) (0 : Nat) b)) = [b] := rfl

theorem b14_1_eqn {most : Int} {fr ds : List Int} {i : Nat} (hb : IsB fr) (hl : fr.length ≤ 1000000) (hd : Dg ds) (hds : ds.length ≤ i) (hi : i < fr.length) :
    b14_1 (most, (ds.length : Int), fr, (fr.length : Int), (i : Int), nibs ds, ()) = if dig (fr.getD i 0) < 0 then (if white (fr.getD i 0) then some (.inl (most, (ds.length : Int), fr, (fr.length : Int), ((i + 1 : Nat) : Int), nibs ds, ())) else some (.inr (.inr (.inl ([], 4, ())))))
      else some (.inl (most, ((ds ++ [dig (fr.getD i 0)]).length : Int), fr, (fr.length : Int), ((i + 1 : Nat) : Int), nibs (ds ++ [dig (fr.getD i 0)]), ())) := by
  have hc := hb.get i
  have hr := dig_range (fr.getD i 0)
  have hnl := nibs_len ds
  unfold b14_1
  dsimp only
  rw [if_pos (decide_eq_true (by omega)), if_pos (by omega), if_pos (by omega), Int.toNat_natCast, f23_eqn hc, Option.bind_some]
  dsimp only
  rw [if_pos rfl]
  generalize hC : fr.getD i 0 = C at hc hr
  by_cases hd0 : dig C < 0
  · rw [if_pos hd0]
    have h2 : b14_2 (most, (ds.length : Int), C, dig C, fr, (fr.length : Int), (i : Int), nibs ds, ()) = some (.inl (most, (ds.length : Int), dig C, fr, (fr.length : Int), (i : Int), !white C, nibs ds, ())) := by
      unfold b14_2
      dsimp only
      rw [if_pos (decide_eq_true hd0), f24_eqn, Option.bind_some]
      dsimp only
      rw [if_pos rfl]
      try rw [full]
    repeat rw [full]
    rw [h2, Option.bind_some, Sum.elim_inl]
    dsimp only
    cases hw : white C with
    | true =>
      rw [if_neg (by decide), if_pos (decide_eq_true hd0), if_pos rfl, wrap_i64 (by omega)]
      repeat rw [full]
      rfl
    | false => rfl
  · rw [if_neg hd0]
    have h2 : b14_2 (most, (ds.length : Int), C, dig C, fr, (fr.length : Int), (i : Int), nibs ds, ()) = some (.inl (most, (ds.length : Int), dig C, fr, (fr.length : Int), (i : Int), false, nibs ds, ())) := by
      unfold b14_2
      dsimp only
      rw [if_neg (fun h => hd0 (of_decide_eq_true h)), if_pos rfl]
      try rw [full]
    repeat rw [full]
    rw [h2, Option.bind_some, Sum.elim_inl]
    dsimp only
    rw [if_neg (by decide), if_neg (fun h => hd0 (of_decide_eq_true h)), and1 (by omega), wrap_i64 (n := ((ds.length % 2 : Nat) : Int)) (by omega), wrap_i64 (n := (i : Int) + 1) (by omega), wrap_i64 (n := ((ds.length : Nat) : Int) + 1) (by omega)]
    have e1 : IntKind.wrap .u8 (IntKind.wrap .i64 (dig C * 16)) = 16 * dig C := by rw [wrap_i64 (by omega), wrap_u8]; omega
    have e2 : IntKind.wrap .u8 (dig C) = dig C := by rw [wrap_u8]; omega
    have e3 : Int.fdiv ((ds.length : Nat) : Int) 2 = ((ds.length / 2 : Nat) : Int) := by rw [Int.fdiv_eq_ediv_of_nonneg _ (by decide)]; omega
    rw [e1, e2, e3, Int.toNat_natCast, Nat.zero_add]
    rcases Nat.mod_two_eq_zero_or_one ds.length with h | h
    · rw [if_pos (beq_iff_eq.2 (by omega)), one_row, if_pos (by simp; omega), if_pos rfl, nibs_even _ _ h]
      repeat rw [full]
      simp only [List.length_append, List.length_singleton]
      rfl
    · obtain ⟨a, a1, a2, a3, a4⟩ := nibs_odd (dig C) ds hd h
      rw [if_neg (fun h2 => by have := beq_iff_eq.1 h2; omega), if_pos (by omega), if_pos (by omega), if_pos (by omega), if_pos (by omega), a3, or8 ⟨a1, a2⟩ (by omega), show IntKind.wrap .u8 (16 * a + dig C) = 16 * a + dig C by rw [wrap_u8]; omega, a4, if_pos (by rw [List.length_set])]
      simp only [List.length_append, List.length_singleton]
      rfl

theorem l14_1_eqn {most : Int} {fr : List Int} (hb : IsB fr) (hl : fr.length ≤ 1000000) : ∀ (k i : Nat) (ds : List Int), fr.length - i < k → i ≤ fr.length → Dg ds → ds.length ≤ i →
    loopN g14_1 o14_1 b14_1 k (most, (ds.length : Int), fr, (fr.length : Int), (i : Int), nibs ds, ()) = match scanH ds (fr.drop i) with
      | none => some (.inr (.inl ([], 4, ())))
      | some ds' => some (.inl (most, nibs ds', ()))
  | 0, _, _, h, _, _, _ => by omega
  | k + 1, i, ds, h, hi, hd, hds => by
    rw [loopN_succ]
    by_cases hc : i < fr.length
    · rw [b14_1_eqn hb hl hd hds hc, drop_getD 0 hc]
      have hr := dig_range (fr.getD i 0)
      generalize fr.getD i 0 = C at hr
      rw [scanH_cons]
      by_cases h1 : dig C < 0
      · rw [if_pos h1, if_pos h1]
        by_cases h2 : white C = true
        · rw [if_pos h2, if_pos h2]
          exact l14_1_eqn hb hl k (i + 1) ds (by omega) (by omega) hd (by omega)
        · rw [if_neg h2, if_neg h2]; rfl
      · rw [if_neg h1, if_neg h1]
        exact l14_1_eqn hb hl k (i + 1) _ (by omega) (by omega) (hd.snoc (by omega)) (by simp; omega)
    · have e : i = fr.length := by omega
      unfold b14_1
      dsimp only
      rw [if_neg (fun h => by have := of_decide_eq_true h; omega), if_pos rfl, e, List.drop_length]
      repeat rw [full]
      rfl

def unhexF (t : List Int) (most : Int) : List Int × Int :=
  if most < 0 ∨ 1048576 < most then ([], 1) else match cutC t with
    | none => ([], 4)
    | some f => match scanH [] f with
      | none => ([], 4)
      | some ds => if most < (nibs ds).length then ([], 2) else (nibs ds, 0)
theorem f14_eqn {t : List Int} {most : Int} (hb : IsB t) (hl : t.length ≤ 1000000) : f14 (bytesStr t, most, ()) = some ((unhexF t most).1, (unhexF t most).2, ()) := by
  unfold f14 unhexF
  dsimp only
  by_cases h1 : most < 0
  · rw [if_pos (decide_eq_true h1), if_pos (.inl h1)]
  rw [if_neg (fun h => h1 (of_decide_eq_true h))]
  by_cases h2 : 1048576 < most
  · rw [if_pos (decide_eq_true h2), if_pos (.inr h2)]
  rw [if_neg (fun h => h2 (of_decide_eq_true h)), if_neg (by omega)]
  obtain ⟨r, hr⟩ := f22_C hb hl
  rw [hr]
  cases hc : cutC t with
  | none => rfl
  | some f =>
    dsimp only
    rw [Option.bind_some]
    dsimp only
    have hfb := cutC_isB hb hc
    have hfl := cutC_len hc
    rw [if_neg (by decide), str_bytes hfb, str_size, full]
    have h := l14_1_eqn (most := most) hfb (by omega) 18446744073709551616 0 [] (by omega) (by omega) (fun _ h => by cases h) (by simp)
    have h' : l14_1 (most, 0, f, (f.length : Int), 0, [], ()) = _ := h
    rw [List.drop_zero] at h'
    rw [h']
    cases hs : scanH [] f with
    | none => rfl
    | some ds =>
      dsimp only
      rw [Option.bind_some, Sum.elim_inl]
      dsimp only
      by_cases h5 : most < (nibs ds).length
      · rw [if_pos (decide_eq_true h5), if_pos h5]
      · rw [if_neg (fun h => h5 (of_decide_eq_true h)), if_neg h5]
        repeat rw [full]
end Go.Ev.Asc
namespace Go.Ev.Asc
set_option maxRecDepth 100000
open Go.Proofs

/-! # Sixteens read: the document's own -/
theorem str_at {t : List Int} (h : IsB t) (i : Nat) : ((UInt8.toNat (Array.getD (ByteArray.data (bytesStr t)) i 0) : Nat) : Int) = t.getD i 0 := by
  have hx := h.get i
  rw [Array.getD_eq_getD_getElem?, List.getD_eq_getElem?_getD]
  unfold bytesStr
  rw [List.getElem?_toArray, List.getElem?_map]
  cases hg : t[i]? with
  | none => rfl
  | some x =>
    have := h x (List.mem_of_getElem? hg)
    simp only [Option.map_some, Option.getD_some, UInt8.toNat_ofNat']
    omega
def scanR : List Int → List Int → Option (List Int × Nat)
  | ds, [] => some (ds, 0)
  | ds, c :: cs => if c = 62 then some (ds, 0) else if dig c < 0 then (if white c then (scanR ds cs).map (fun p => (p.1, p.2 + 1)) else none) else (scanR (ds ++ [dig c]) cs).map (fun p => (p.1, p.2 + 1))
theorem scanR_cons (ds : List Int) (c : Int) (cs : List Int) : scanR ds (c :: cs) = if c = 62 then some (ds, 0) else if dig c < 0 then (if white c then (scanR ds cs).map (fun p => (p.1, p.2 + 1)) else none) else (scanR (ds ++ [dig c]) cs).map (fun p => (p.1, p.2 + 1)) := rfl
theorem scanR_some : ∀ {t f ds : List Int}, cutC t = some f → scanR ds t = (scanH ds f).map fun d => (d, f.length)
  | [], _, _, h => by cases h
  | c :: t, f, ds, h => by
    rw [cutC_cons] at h
    rw [scanR_cons]
    by_cases h1 : c = 62
    · rw [if_pos h1] at h ⊢
      simp only [Option.some.injEq] at h
      rw [← h]; rfl
    · rw [if_neg h1] at h ⊢
      cases hc : cutC t with
      | none => rw [hc] at h; cases h
      | some g =>
        rw [hc] at h
        simp only [Option.map_some, Option.some.injEq] at h
        rw [← h, scanH_cons]
        split
        · split
          · rw [scanR_some hc]
            cases scanH ds g <;> rfl
          · rfl
        · rw [scanR_some hc]
          cases scanH (ds ++ [dig c]) g <;> rfl
theorem scanR_none : ∀ {t ds : List Int}, cutC t = none → scanR ds t = none ∨ ∃ d, scanR ds t = some (d, t.length)
  | [], ds, _ => .inr ⟨ds, rfl⟩
  | c :: t, ds, h => by
    rw [cutC_cons] at h
    rw [scanR_cons]
    by_cases h1 : c = 62
    · rw [if_pos h1] at h; cases h
    · rw [if_neg h1] at h ⊢
      have hc : cutC t = none := by
        cases hc : cutC t with
        | none => rfl
        | some g => rw [hc] at h; cases h
      split
      · split
        · rcases scanR_none (ds := ds) hc with h2 | ⟨d, h2⟩
          · rw [h2]; exact .inl rfl
          · rw [h2]; exact .inr ⟨d, rfl⟩
        · exact .inl rfl
      · rcases scanR_none (ds := ds ++ [dig c]) hc with h2 | ⟨d, h2⟩
        · rw [h2]; exact .inl rfl
        · rw [h2]; exact .inr ⟨d, rfl⟩

theorem b15_1_eqn {most : Int} {t ds : List Int} {i : Nat} (hb : IsB t) (hl : t.length ≤ 1000000) (hds : ds.length ≤ i) (hi : i < t.length) :
    b15_1 (bytesStr t, most, (i : Int), ds, ()) = if t.getD i 0 = 62 then some (.inr (.inl (bytesStr t, most, (i : Int), ds, ()))) else if dig (t.getD i 0) < 0 then (if white (t.getD i 0) then some (.inl (bytesStr t, most, ((i + 1 : Nat) : Int), ds, ())) else some (.inr (.inr (.inl ([], 4, ())))))
      else some (.inl (bytesStr t, most, ((i + 1 : Nat) : Int), ds ++ [dig (t.getD i 0)], ())) := by
  have hc := hb.get i
  have hr := dig_range (t.getD i 0)
  unfold b15_1
  dsimp only
  rw [str_size, Int.toNat_natCast, str_at hb, f25_eqn hc, f26_eqn, wrap_i64 (n := (i : Int) + 1) (by omega)]
  generalize hC : t.getD i 0 = C at hc hr
  rw [if_pos (decide_eq_true (by omega)), if_pos (by omega), if_pos (by omega)]
  by_cases h62 : C = 62
  · rw [if_neg (fun h => bne_iff_ne.1 h h62), if_pos rfl, if_pos h62]
    try rw [full]
  · rw [if_pos (bne_iff_ne.2 h62), if_neg h62, if_pos (by omega), if_pos (by omega), Option.bind_some]
    dsimp only
    by_cases h1 : dig C < 0
    · rw [if_neg (fun h => by have := of_decide_eq_true h; omega), if_pos h1, if_pos (by omega), if_pos (by omega), Option.bind_some]
      dsimp only
      cases hw : white C with
      | true =>
        rw [if_neg (by decide), if_pos rfl]
        repeat rw [full]
        rfl
      | false => rfl
    · rw [if_pos (decide_eq_true (by omega)), if_neg h1, if_pos (by omega), if_pos (by omega), Option.bind_some]
      dsimp only
      repeat rw [full]
      rw [one_row, if_pos (by simp; omega), if_pos rfl]
      repeat rw [full]
      rfl

theorem l15_1_eqn {most : Int} {t : List Int} (hb : IsB t) (hl : t.length ≤ 1000000) : ∀ (k i : Nat) (ds : List Int), t.length - i < k → i ≤ t.length → ds.length ≤ i →
    loopN g15_1 o15_1 b15_1 k (bytesStr t, most, (i : Int), ds, ()) = match scanR ds (t.drop i) with
      | none => some (.inr (.inl ([], 4, ())))
      | some p => some (.inl (bytesStr t, most, ((i + p.2 : Nat) : Int), p.1, ()))
  | 0, _, _, h, _, _ => by omega
  | k + 1, i, ds, h, hi, hds => by
    rw [loopN_succ]
    by_cases hc : i < t.length
    · rw [b15_1_eqn hb hl hds hc, drop_getD 0 hc, scanR_cons]
      by_cases h62 : t.getD i 0 = 62
      · rw [if_pos h62, if_pos h62]; rfl
      · rw [if_neg h62, if_neg h62]
        by_cases h1 : dig (t.getD i 0) < 0
        · rw [if_pos h1, if_pos h1]
          by_cases h2 : white (t.getD i 0) = true
          · rw [if_pos h2, if_pos h2]
            refine (l15_1_eqn hb hl k (i + 1) ds (by omega) (by omega) (by omega)).trans ?_
            cases scanR ds (t.drop (i + 1)) with
            | none => rfl
            | some p => dsimp only [Option.map_some]; rw [show i + 1 + p.2 = i + (p.2 + 1) by omega]
          · rw [if_neg h2, if_neg h2]; rfl
        · rw [if_neg h1, if_neg h1]
          refine (l15_1_eqn hb hl k (i + 1) _ (by omega) (by omega) (by simp; omega)).trans ?_
          cases scanR (ds ++ [dig (t.getD i 0)]) (t.drop (i + 1)) with
          | none => rfl
          | some p => dsimp only [Option.map_some]; rw [show i + 1 + p.2 = i + (p.2 + 1) by omega]
    · have e : i = t.length := by omega
      unfold b15_1
      dsimp only
      rw [str_size, if_neg (fun h => by have := of_decide_eq_true h; omega), if_pos rfl, e, List.drop_length]
      repeat rw [full]
      rfl

theorem b15_3_eqn {l out : List Int} {i : Nat} (hd : Dg l) (hl : l.length ≤ 1000000) (hc : i + 1 < l.length) (ho : out.length ≤ i) :
    b15_3 ((i : Int), l, out, ()) = some (.inl (((i + 2 : Nat) : Int), l, out ++ [16 * l.getD i 0 + l.getD (i + 1) 0], ())) := by
  have g0 : 0 ≤ l.getD i 0 ∧ l.getD i 0 < 16 := by
    rw [List.getD_eq_getElem?_getD, List.getElem?_eq_getElem (by omega)]; exact hd _ (List.getElem_mem _)
  have g1 : 0 ≤ l.getD (i + 1) 0 ∧ l.getD (i + 1) 0 < 16 := by
    rw [List.getD_eq_getElem?_getD, List.getElem?_eq_getElem (by omega)]; exact hd _ (List.getElem_mem _)
  unfold b15_3
  dsimp only
  rw [if_pos (decide_eq_true (by omega)), if_pos (by omega), if_pos (by omega), wrap_i64 (n := (i : Int) + 1) (by omega), wrap_i64 (n := (i : Int) + 2) (by omega), if_pos (by omega), if_pos (by omega), Int.toNat_natCast, show ((i : Int) + 1).toNat = i + 1 by omega, Nat.zero_add, Nat.zero_add]
  repeat rw [full]
  rw [one_row]
  generalize l.getD i 0 = a at g0
  generalize l.getD (i + 1) 0 = b at g1
  rw [wrap_i64 (n := 16 * a) (by omega), wrap_i64 (n := 16 * a + b) (by omega), wrap_u8, show (16 * a + b) % 256 = 16 * a + b by omega, if_pos (by simp; omega), if_pos rfl, if_pos rfl]
  repeat rw [full]
  rfl
theorem l15_3_eqn {l : List Int} (hd : Dg l) (hl : l.length ≤ 1000000) (he : l.length % 2 = 0) : ∀ (k i : Nat) (out : List Int), l.length - i < k → i ≤ l.length → i % 2 = 0 → out.length ≤ i →
    loopN g15_3 o15_3 b15_3 k ((i : Int), l, out, ()) = some (.inl (out ++ nibs (l.drop i), ()))
  | 0, _, _, h, _, _, _ => by omega
  | k + 1, i, out, h, hi, h2, ho => by
    rw [loopN_succ]
    by_cases hc : i < l.length
    · rw [b15_3_eqn hd hl (by omega) ho, drop_getD 0 hc, drop_getD 0 (show i + 1 < l.length by omega)]
      rw [Option.bind_some, Sum.elim_inl]
      refine (l15_3_eqn hd hl he k (i + 2) (out ++ [16 * l.getD i 0 + l.getD (i + 1) 0]) (by omega) (by omega) (by omega) (by simp; omega)).trans ?_
      rw [List.append_assoc]
      simp only [nibs, List.singleton_append]
    · have e : i = l.length := by omega
      have hb : b15_3 ((i : Int), l, out, ()) = some (.inr (.inl (out, ()))) := by
        unfold b15_3
        dsimp only
        rw [if_neg (fun h => by have := of_decide_eq_true h; omega), if_pos rfl]
        try rw [full]
      rw [hb, e, List.drop_length]
      simp only [nibs, List.append_nil]
      rfl

theorem f15_eqn {t : List Int} {most : Int} (hb : IsB t) (hl : t.length ≤ 900000) : f15 (bytesStr t, most, ()) = some ((unhexF t most).1, (unhexF t most).2, ()) := by
  unfold f15 unhexF
  dsimp only
  by_cases h1 : most < 0
  · rw [if_pos (decide_eq_true h1), if_pos (.inl h1)]
  rw [if_neg (fun h => h1 (of_decide_eq_true h))]
  by_cases h2 : 1048576 < most
  · rw [if_pos (decide_eq_true h2), if_pos (.inr h2)]
  rw [if_neg (fun h => h2 (of_decide_eq_true h)), if_neg (by omega)]
  have h := l15_1_eqn (most := most) hb (by omega) 18446744073709551616 0 [] (by omega) (by omega) (by simp)
  have h' : l15_1 (bytesStr t, most, 0, [], ()) = _ := h
  rw [List.drop_zero] at h'
  rw [h']
  cases hc : cutC t with
  | none =>
    rcases scanR_none (ds := []) hc with h3 | ⟨d, h3⟩
    · rw [h3]; rfl
    · rw [h3]
      dsimp only
      rw [Option.bind_some, Sum.elim_inl]
      dsimp only
      rw [str_size, if_pos (beq_iff_eq.2 (by omega))]
  | some f =>
    rw [scanR_some hc]
    have hfl := cutC_len hc
    have hne : f.length ≠ t.length := by
      intro e
      have := cutC_take hc
      rw [e, List.take_length] at this
      rw [this] at hc
      have h9 : ∀ l : List Int, cutC l ≠ some l := fun l => by
        induction l with
        | nil => intro h; cases h
        | cons x l ih =>
          rw [cutC_cons]
          split
          · intro h; cases h
          · intro h
            cases hl2 : cutC l with
            | none => rw [hl2] at h; cases h
            | some g =>
              rw [hl2] at h
              simp only [Option.map_some, Option.some.injEq, List.cons.injEq, true_and] at h
              exact ih (h ▸ hl2)
      exact h9 _ hc
    dsimp only
    cases hs : scanH [] f with
    | none => rfl
    | some ds =>
      have hdg := scanH_dg (ds := []) (fun _ h => by cases h) hs
      have hdl := scanH_len hs
      simp only [List.length_nil, Nat.zero_add] at hdl
      dsimp only [Option.map_some]
      rw [Option.bind_some, Sum.elim_inl]
      dsimp only
      rw [str_size, if_neg (fun h => hne (by have := beq_iff_eq.1 h; omega)), if_pos rfl]
      repeat rw [full]
      have hnl := nibs_len ds
      obtain ⟨l, hlN, hlE, hlD, hlL, hb2⟩ : ∃ l, nibs l = nibs ds ∧ l.length % 2 = 0 ∧ Dg l ∧ l.length = (ds.length + 1) / 2 * 2 ∧ b15_2 (most, ds, ()) = some (.inl (most, l, ())) := by
        have et : Int.tmod ((ds.length : Nat) : Int) 2 = ((ds.length % 2 : Nat) : Int) := by rw [Int.tmod_eq_emod_of_nonneg (by omega)]; omega
        rcases Nat.mod_two_eq_zero_or_one ds.length with h | h
        · refine ⟨ds, rfl, h, hdg, by omega, ?_⟩
          unfold b15_2
          dsimp only
          rw [et, if_neg (fun h2 => by have := beq_iff_eq.1 h2; omega), if_pos rfl]
          try rw [full]
        · refine ⟨ds ++ [0], nibs_zero ds h, by simp; omega, hdg.snoc (by omega), by simp; omega, ?_⟩
          unfold b15_2
          dsimp only
          rw [et, if_pos (beq_iff_eq.2 (by omega))]
          repeat rw [full]
          rw [one_row, if_pos (by omega), if_pos rfl]
          try rw [full]
      rw [hb2, Option.bind_some, Sum.elim_inl]
      dsimp only
      have et : IntKind.wrap .i64 (Int.tdiv ((l.length : Nat) : Int) 2) = ((nibs ds).length : Int) := by
        rw [Int.tdiv_eq_ediv_of_nonneg (by omega), wrap_i64 (by omega)]; omega
      rw [et]
      by_cases h5 : most < (nibs ds).length
      · rw [if_pos (decide_eq_true h5), if_pos h5]
      · rw [if_neg (fun h => h5 (of_decide_eq_true h)), if_neg h5, if_pos rfl]
        repeat rw [full]
        have h6 := l15_3_eqn hlD (by omega) hlE 18446744073709551616 0 [] (by omega) (by omega) rfl (by simp)
        have h7 : l15_3 (0, l, [], ()) = _ := h6
        rw [h7, Option.bind_some, Sum.elim_inl, List.drop_zero, hlN, List.nil_append]
        repeat rw [full]
end Go.Ev.Asc
namespace Go.Ev.Asc
set_option maxRecDepth 100000
open Go.Proofs

/-! # Eighty-fives read -/
def numK (l : List Int) : Nat → Int
  | 0 => 0
  | k + 1 => 85 * numK l k + l.getD k 84
def num (l : List Int) : Int := numK l 5
def fourB (N : Int) : List Int := [N / 16777216 % 256, N / 65536 % 256, N / 256 % 256, N % 256]
def getL : List Int → List Int → List Int → Option (List Int × List Int)
  | out, row, [] => some (out, row)
  | out, row, c :: cs => if white c then getL out row cs else if c = 122 ∧ row = [] then getL (out ++ [0, 0, 0, 0]) row cs else if c < 33 ∨ 117 < c then none
    else if row.length = 4 then (if 4294967295 < num (row ++ [c - 33]) then none else getL (out ++ fourB (num (row ++ [c - 33]))) [] cs) else getL out (row ++ [c - 33]) cs
theorem getL_cons (out row : List Int) (c : Int) (cs : List Int) : getL out row (c :: cs) = if white c then getL out row cs else if c = 122 ∧ row = [] then getL (out ++ [0, 0, 0, 0]) row cs else if c < 33 ∨ 117 < c then none
    else if row.length = 4 then (if 4294967295 < num (row ++ [c - 33]) then none else getL (out ++ fourB (num (row ++ [c - 33]))) [] cs) else getL out (row ++ [c - 33]) cs := rfl
def fin (out row : List Int) : Option (List Int) :=
  if row.length = 1 then none else if row = [] then some out else if 4294967295 < num row then none else some (out ++ (fourB (num row)).take (row.length - 1))
def getF (t : List Int) (most : Int) : List Int × Int :=
  if most < 0 ∨ 1048576 < most then ([], 1) else match cutD t with
    | none => ([], 4)
    | some f => match (getL [] [] f).bind (fun p => fin p.1 p.2) with
      | none => ([], 4)
      | some out => if most < out.length then ([], 2) else (out, 0)
/-- Digits of eighty-five. -/
def De (l : List Int) : Prop := ∀ d ∈ l, 0 ≤ d ∧ d < 85
theorem De.get {l : List Int} (h : De l) (k : Nat) : 0 ≤ l.getD k 84 ∧ l.getD k 84 < 85 := by
  rw [List.getD_eq_getElem?_getD]
  cases hg : l[k]? with
  | none => exact ⟨by decide, by decide⟩
  | some x => exact h x (List.mem_of_getElem? hg)
theorem De.snoc {l : List Int} (h : De l) {d : Int} (hd : 0 ≤ d ∧ d < 85) : De (l ++ [d]) := fun x hx => by
  rcases List.mem_append.1 hx with h1 | h1
  · exact h x h1
  · rw [List.mem_singleton.1 h1]; exact hd
theorem De.nil : De [] := fun _ h => by cases h
theorem numK_range {l : List Int} (h : De l) : ∀ k : Nat, k ≤ 5 → 0 ≤ numK l k ∧ numK l k < 5000000000 := by
  have g := h.get
  have n0 : numK l 0 = 0 := rfl
  have n1 : numK l 1 = 85 * numK l 0 + l.getD 0 84 := rfl
  have n2 : numK l 2 = 85 * numK l 1 + l.getD 1 84 := rfl
  have n3 : numK l 3 = 85 * numK l 2 + l.getD 2 84 := rfl
  have n4 : numK l 4 = 85 * numK l 3 + l.getD 3 84 := rfl
  have n5 : numK l 5 = 85 * numK l 4 + l.getD 4 84 := rfl
  have g0 := g 0; have g1 := g 1; have g2 := g 2; have g3 := g 3; have g4 := g 4
  intro k hk
  rcases (by omega : k = 0 ∨ k = 1 ∨ k = 2 ∨ k = 3 ∨ k = 4 ∨ k = 5) with rfl | rfl | rfl | rfl | rfl | rfl <;> omega
theorem num_range {l : List Int} (h : De l) : 0 ≤ num l ∧ num l < 5000000000 := numK_range h 5 (by omega)
/-- The signs themselves. -/
def raw (l : List Int) : List Int := l.map (· + 33)
theorem raw_len (l : List Int) : (raw l).length = l.length := by simp [raw]
theorem raw_get {l : List Int} {k : Nat} (h : k < l.length) : (raw l).getD k 0 = l.getD k 84 + 33 := by
  unfold raw
  rw [List.getD_eq_getElem?_getD, List.getD_eq_getElem?_getD, List.getElem?_map, List.getElem?_eq_getElem h]; rfl
theorem raw_snoc (l : List Int) (c : Int) : raw l ++ [c] = raw (l ++ [c - 33]) := by
  unfold raw
  rw [List.map_append, List.map_cons, List.map_nil, Int.sub_add_cancel]

theorem l28_1_eqn {l : List Int} (h : De l) : l28_1 (raw l, 0, 0, ()) = some (.inl (raw l, num l, ())) := by
  have h := loop_rule (g := g28_1) (outs := o28_1) (body := b28_1)
    (fun q => ∃ k : Nat, k ≤ 5 ∧ q = (raw l, numK l k, (k : Int), ()))
    (fun q => 5 - q.2.2.1.toNat)
    (fun o => o = .inl (raw l, num l, ())) ?_ 18446744073709551616 (raw l, 0, 0, ()) ⟨0, by omega, rfl⟩ (by dsimp only; omega)
  · obtain ⟨o, h1, h2⟩ := h
    subst h2
    exact h1
  · rintro q ⟨k, hk, rfl⟩
    have hn := numK_range h k hk
    have hg := h.get k
    unfold b28_1
    dsimp only
    by_cases hc : k < 5
    · left
      refine ⟨(raw l, numK l (k + 1), ((k + 1 : Nat) : Int), ()), ?_, ⟨k + 1, by omega, rfl⟩, by dsimp only; omega⟩
      have hs : numK l (k + 1) = 85 * numK l k + l.getD k 84 := rfl
      rw [hs, if_pos (decide_eq_true (by omega)), raw_len, wrap_i64 (n := 85 * numK l k) (by omega), wrap_i64 (n := (k : Int) + 1) (by omega), Int.toNat_natCast]
      by_cases h2 : k < l.length
      · rw [if_pos (decide_eq_true (by omega)), if_pos (by omega), if_pos (by omega), raw_get h2, Int.add_sub_cancel, wrap_u8, show l.getD k 84 % 256 = l.getD k 84 by omega, wrap_i64 (n := l.getD k 84) (by omega), wrap_i64 (by omega)]
        rfl
      · rw [if_neg (fun h => by have := of_decide_eq_true h; omega), List.getD_eq_getElem?_getD, List.getElem?_eq_none (by omega)]
        rw [wrap_i64 (by omega)]
        rfl
    · right
      have e : k = 5 := by omega
      rw [if_neg (fun h => by have := of_decide_eq_true h; omega), e]
      exact ⟨_, rfl, rfl⟩
theorem fdivN {n d : Int} (hd : 0 < d) : Int.fdiv n d = n / d := Int.fdiv_eq_ediv_of_nonneg _ (by omega)
theorem f28_eqn {l : List Int} (h : De l) (h1 : 1 ≤ l.length) (h5 : l.length ≤ 5) : f28 (raw l, ()) = some (0, l.length - 1, decide (num l ≤ 4294967295), fourB (num l), ()) := by
  have hn := num_range h
  unfold f28
  dsimp only
  rw [l28_1_eqn h, Option.bind_some, Sum.elim_inl]
  dsimp only
  rw [raw_len, wrap_i64 (n := (l.length : Int) - 1) (by omega), if_pos (by omega), if_pos (by omega), fdivN (by decide), fdivN (by decide), fdivN (by decide), wrap_u8, wrap_u8, wrap_u8, wrap_u8, show (((l.length : Int) - 1).toNat - 0) = l.length - 1 by omega]
  rfl
theorem f27_eqn {l out : List Int} (h : De l) (h1 : 1 ≤ l.length) (h5 : l.length ≤ 5) (ho : out.length ≤ 100000000) : f27 (raw l, out, ()) = some (decide (num l ≤ 4294967295), raw l, [], out ++ (fourB (num l)).take (l.length - 1), ()) := by
  unfold f27
  dsimp only
  repeat rw [full]
  rw [f28_eqn h h1 h5, Option.bind_some]
  dsimp only
  repeat rw [full]
  rw [List.drop_zero, if_pos (by rw [List.length_take]; simp [fourB]; omega), if_pos rfl]
  try rw [full]

theorem b16_1_eqn {most : Int} {fr out row : List Int} {i : Nat} (hb : IsB fr) (hl : fr.length ≤ 1000000) (hd : De row) (hr : row.length ≤ 4) (ho : out.length ≤ 4 * i) (hi : i < fr.length) :
    b16_1 (most, fr, (fr.length : Int), (i : Int), out, raw row, ()) = (let c := fr.getD i 0
      if white c then some (.inl (most, fr, (fr.length : Int), ((i + 1 : Nat) : Int), out, raw row, ())) else if c = 122 ∧ row = [] then some (.inl (most, fr, (fr.length : Int), ((i + 1 : Nat) : Int), out ++ [0, 0, 0, 0], raw row, ()))
      else if c < 33 ∨ 117 < c then some (.inr (.inr (.inl ([], 4, ()))))
      else if row.length = 4 then (if 4294967295 < num (row ++ [c - 33]) then some (.inr (.inr (.inl ([], 4, ())))) else some (.inl (most, fr, (fr.length : Int), ((i + 1 : Nat) : Int), out ++ fourB (num (row ++ [c - 33])), [], ())))
      else some (.inl (most, fr, (fr.length : Int), ((i + 1 : Nat) : Int), out, raw (row ++ [c - 33]), ()))) := by
  have hc := hb.get i
  unfold b16_1
  dsimp only
  rw [if_pos (decide_eq_true (by omega)), if_pos (by omega), if_pos (by omega), Int.toNat_natCast, f24_eqn, Option.bind_some, wrap_i64 (n := (i : Int) + 1) (by omega)]
  generalize hC : fr.getD i 0 = C at hc
  dsimp only
  cases hw : white C with
  | true =>
    rw [if_pos rfl, if_pos rfl, if_pos rfl]
    repeat rw [full]
    rfl
  | false =>
    rw [if_neg (by decide), if_pos rfl, if_pos rfl, if_neg (by decide)]
    have h3 : b16_3 (most, C, fr, (fr.length : Int), (i : Int), out, raw row, ()) = some (.inl (most, C, fr, (fr.length : Int), (i : Int), decide (C = 122 ∧ row = []), out, raw row, ())) := by
      unfold b16_3
      dsimp only
      by_cases h1 : C = 122
      · rw [if_pos (beq_iff_eq.2 h1), if_pos rfl, if_pos rfl, raw_len]
        repeat rw [full]
        cases row with
        | nil => simp [h1]
        | cons x r =>
          have e : ((((x :: r).length : Nat) : Int) == 0) = false := beq_eq_false_iff_ne.2 (by simp only [List.length_cons]; omega)
          rw [e, decide_eq_false (fun h => by cases h.2)]
      · rw [if_neg (fun h => h1 (beq_iff_eq.1 h)), if_pos rfl, if_pos rfl, decide_eq_false (fun h => h1 h.1)]
        repeat rw [full]
    repeat rw [full]
    rw [h3, Option.bind_some, Sum.elim_inl]
    dsimp only
    repeat rw [full]
    by_cases hz : C = 122 ∧ row = []
    · rw [if_pos (decide_eq_true hz), if_pos hz, if_pos (by omega), if_pos rfl, if_pos rfl, wrap_i64 (by omega)]
      repeat rw [full]
      rfl
    · rw [if_neg (fun h => hz (of_decide_eq_true h)), if_neg hz]
      by_cases h4 : C < 33
      · rw [if_pos (decide_eq_true h4), if_pos (.inl h4)]
      rw [if_neg (fun h => h4 (of_decide_eq_true h))]
      by_cases h5 : 117 < C
      · rw [if_pos (decide_eq_true h5), if_pos (.inr h5)]
      rw [if_neg (fun h => h5 (of_decide_eq_true h)), if_neg (show ¬ (C < 33 ∨ 117 < C) by omega)]
      have hd2 := hd.snoc (d := C - 33) (by omega)
      have hr2 : (row ++ [C - 33]).length = row.length + 1 := by simp
      repeat rw [full]
      rw [one_row, raw_snoc, raw_len, raw_len, hr2, if_pos (by simp; omega)]
      repeat rw [full]
      by_cases h6 : row.length = 4
      · rw [if_pos (beq_iff_eq.2 (by omega)), if_pos rfl, if_pos rfl, if_pos h6, f27_eqn hd2 (by omega) (by omega) (by omega), Option.bind_some]
        dsimp only
        by_cases h7 : 4294967295 < num (row ++ [C - 33])
        · rw [if_pos (by rw [decide_eq_false (by omega)]; rfl), if_pos h7]
        · rw [if_neg (by rw [decide_eq_true (by omega)]; decide), if_neg h7, if_pos rfl, if_pos rfl, wrap_i64 (by omega), hr2, h6]
          repeat rw [full]
          rfl
      · rw [if_neg (fun h => h6 (by have := beq_iff_eq.1 h; omega)), if_neg h6, if_pos rfl, if_pos rfl, wrap_i64 (by omega)]
        repeat rw [full]
        rfl
end Go.Ev.Asc
namespace Go.Ev.Asc
set_option maxRecDepth 100000
open Go.Proofs

theorem fourB_len (N : Int) : (fourB N).length = 4 := rfl
theorem fourB_isB (N : Int) : IsB (fourB N) := fun x hx => by
  simp only [fourB, List.mem_cons, List.not_mem_nil, or_false] at hx
  omega
theorem getL_row : ∀ {cs out row : List Int} {p : List Int × List Int}, De row → row.length ≤ 4 → getL out row cs = some p → De p.2 ∧ p.2.length ≤ 4 ∧ p.1.length ≤ out.length + 4 * cs.length
  | [], out, row, p, hd, hr, h => by simp only [getL, Option.some.injEq] at h; rw [← h]; exact ⟨hd, hr, by simp⟩
  | c :: cs, out, row, p, hd, hr, h => by
    rw [getL_cons] at h
    simp only [List.length_cons]
    split at h
    · obtain ⟨a, b, d⟩ := getL_row hd hr h; exact ⟨a, b, by omega⟩
    split at h
    · obtain ⟨a, b, d⟩ := getL_row hd hr h; exact ⟨a, b, by simp at d; omega⟩
    split at h
    · cases h
    split at h
    · split at h
      · cases h
      · obtain ⟨a, b, d⟩ := getL_row De.nil (by simp) h; exact ⟨a, b, by rw [List.length_append, fourB_len] at d; omega⟩
    · obtain ⟨a, b, d⟩ := getL_row (hd.snoc (by omega)) (by simp; omega) h; exact ⟨a, b, by omega⟩

theorem l16_1_eqn {most : Int} {fr : List Int} (hb : IsB fr) (hl : fr.length ≤ 1000000) : ∀ (k i : Nat) (out row : List Int), fr.length - i < k → i ≤ fr.length → De row → row.length ≤ 4 → out.length ≤ 4 * i →
    loopN g16_1 o16_1 b16_1 k (most, fr, (fr.length : Int), (i : Int), out, raw row, ()) = match getL out row (fr.drop i) with
      | none => some (.inr (.inl ([], 4, ())))
      | some p => some (.inl (most, p.1, raw p.2, ()))
  | 0, _, _, _, h, _, _, _, _ => by omega
  | k + 1, i, out, row, h, hi, hd, hr, ho => by
    rw [loopN_succ]
    by_cases hc : i < fr.length
    · rw [b16_1_eqn hb hl hd hr ho hc, drop_getD 0 hc, getL_cons]
      generalize fr.getD i 0 = C
      dsimp only
      by_cases h1 : white C = true
      · rw [if_pos h1, if_pos h1]
        exact l16_1_eqn hb hl k (i + 1) out row (by omega) (by omega) hd hr (by omega)
      rw [if_neg h1, if_neg h1]
      by_cases h2 : C = 122 ∧ row = []
      · rw [if_pos h2, if_pos h2]
        exact l16_1_eqn hb hl k (i + 1) _ row (by omega) (by omega) hd hr (by simp; omega)
      rw [if_neg h2, if_neg h2]
      by_cases h3 : C < 33 ∨ 117 < C
      · rw [if_pos h3, if_pos h3]; rfl
      rw [if_neg h3, if_neg h3]
      by_cases h4 : row.length = 4
      · rw [if_pos h4, if_pos h4]
        by_cases h5 : 4294967295 < num (row ++ [C - 33])
        · rw [if_pos h5, if_pos h5]; rfl
        · rw [if_neg h5, if_neg h5]
          exact l16_1_eqn hb hl k (i + 1) _ [] (by omega) (by omega) De.nil (by simp) (by rw [List.length_append, fourB_len]; omega)
      · rw [if_neg h4, if_neg h4]
        exact l16_1_eqn hb hl k (i + 1) out _ (by omega) (by omega) (hd.snoc (by omega)) (by simp; omega) (by omega)
    · have e : i = fr.length := by omega
      have hb : b16_1 (most, fr, (fr.length : Int), (i : Int), out, raw row, ()) = some (.inr (.inl (most, out, raw row, ()))) := by
        unfold b16_1
        dsimp only
        rw [if_neg (fun h => by have := of_decide_eq_true h; omega), if_pos rfl, if_pos rfl]
        repeat rw [full]
      rw [hb, e, List.drop_length]
      rfl
theorem b16_2_eqn {most : Int} {out row : List Int} (hd : De row) (hr : row.length ≤ 4) (ho : out.length ≤ 10000000) :
    ∃ o, b16_2 (most, out, raw row, ()) = some (.inl (most, (fin out row).isNone, o, ())) ∧ ∀ x, fin out row = some x → o = x := by
  unfold b16_2 fin
  dsimp only
  rw [raw_len]
  by_cases h1 : row.length = 1
  · rw [if_pos (beq_iff_eq.2 (by omega)), if_pos h1, if_pos rfl]
    repeat rw [full]
    exact ⟨out, rfl, fun x h => by cases h⟩
  · rw [if_neg (fun h => h1 (by have := beq_iff_eq.1 h; omega)), if_neg h1]
    by_cases h2 : row = []
    · subst h2
      rw [if_neg (fun h => by have := of_decide_eq_true h; simp at this), if_pos rfl, if_pos rfl]
      repeat rw [full]
      exact ⟨out, rfl, fun x h => by simpa using h⟩
    · have h3 : 1 ≤ row.length := List.length_pos_iff.2 h2
      rw [if_pos (decide_eq_true (by omega)), if_neg h2, if_pos rfl, if_pos rfl]
      repeat rw [full]
      rw [f27_eqn hd h3 (by omega) (by omega), Option.bind_some]
      dsimp only
      rw [if_pos rfl]
      repeat rw [full]
      by_cases h4 : 4294967295 < num row
      · rw [if_pos h4, decide_eq_false (by omega)]
        exact ⟨_, rfl, fun x h => by cases h⟩
      · rw [if_neg h4, decide_eq_true (by omega)]
        exact ⟨_, rfl, fun x h => by simpa using h⟩

theorem f16_eqn {t : List Int} {most : Int} (hb : IsB t) (hl : t.length ≤ 1000000) : f16 (bytesStr t, most, ()) = some ((getF t most).1, (getF t most).2, ()) := by
  unfold f16 getF
  dsimp only
  by_cases h1 : most < 0
  · rw [if_pos (decide_eq_true h1), if_pos (.inl h1)]
  rw [if_neg (fun h => h1 (of_decide_eq_true h))]
  by_cases h2 : 1048576 < most
  · rw [if_pos (decide_eq_true h2), if_pos (.inr h2)]
  rw [if_neg (fun h => h2 (of_decide_eq_true h)), if_neg (by omega)]
  obtain ⟨r, hr⟩ := f22_D hb hl
  rw [hr]
  cases hc : cutD t with
  | none => rfl
  | some f =>
    dsimp only
    rw [Option.bind_some]
    dsimp only
    have hfb := cutD_isB hb hc
    have hfl := cutD_len hc
    rw [if_neg (by decide), str_bytes hfb, str_size, full]
    have h := l16_1_eqn (most := most) hfb (by omega) 18446744073709551616 0 [] [] (by omega) (by omega) De.nil (by simp) (by simp)
    have h' : l16_1 (most, f, (f.length : Int), 0, [], [], ()) = _ := h
    rw [List.drop_zero] at h'
    rw [h']
    cases hs : getL [] [] f with
    | none => rfl
    | some p =>
      obtain ⟨hd, hr2, ho⟩ := getL_row De.nil (by simp) hs
      simp only [List.length_nil, Nat.zero_add] at ho
      dsimp only
      rw [Option.bind_some, Sum.elim_inl, Option.bind_some]
      dsimp only
      rw [if_pos rfl, if_pos rfl]
      repeat rw [full]
      obtain ⟨o, e1, e2⟩ := b16_2_eqn (most := most) (out := p.1) hd hr2 (by omega)
      rw [e1, Option.bind_some, Sum.elim_inl]
      dsimp only
      cases hf : fin p.1 p.2 with
      | none => rfl
      | some x =>
        rw [e2 x hf]
        dsimp only
        rw [if_neg (by simp)]
        by_cases h5 : most < (x.length : Int)
        · rw [if_pos (decide_eq_true h5), if_pos h5]
        · rw [if_neg (fun h => h5 (of_decide_eq_true h)), if_neg h5]
          repeat rw [full]

/-! ## The document's own -/
theorem f29_eqn {l : List Int} (h : De l) (h5 : l.length = 5) : f29 (l, ()) = some (num l, ()) := by
  have h : l29_1 (l, 0, 0, ()) = some (.inl (num l, ())) := by
    have h := loop_rule (g := g29_1) (outs := o29_1) (body := b29_1)
      (fun q => ∃ k : Nat, k ≤ 5 ∧ q = (l, numK l k, (k : Int), ()))
      (fun q => 5 - q.2.2.1.toNat)
      (fun o => o = .inl (num l, ())) ?_ 18446744073709551616 (l, 0, 0, ()) ⟨0, by omega, rfl⟩ (by dsimp only; omega)
    · obtain ⟨o, h1, h2⟩ := h
      subst h2
      exact h1
    · rintro q ⟨k, hk, rfl⟩
      have hn := numK_range h k hk
      have hg := h.get k
      unfold b29_1
      dsimp only
      by_cases hc : k < 5
      · left
        refine ⟨(l, numK l (k + 1), ((k + 1 : Nat) : Int), ()), ?_, ⟨k + 1, by omega, rfl⟩, by dsimp only; omega⟩
        have hs : numK l (k + 1) = 85 * numK l k + l.getD k 84 := rfl
        have hg2 : l.getD k 0 = l.getD k 84 := by rw [List.getD_eq_getElem?_getD, List.getD_eq_getElem?_getD, List.getElem?_eq_getElem (by omega)]; rfl
        rw [hs, if_pos (decide_eq_true (by omega)), if_pos (by omega), if_pos (by omega), wrap_i64 (n := 85 * numK l k) (by omega), wrap_i64 (n := (k : Int) + 1) (by omega), Int.toNat_natCast, hg2, wrap_i64 (by omega)]
        rfl
      · right
        have e : k = 5 := by omega
        rw [if_neg (fun h => by have := of_decide_eq_true h; omega), e]
        exact ⟨_, rfl, rfl⟩
  unfold f29
  dsimp only
  generalize hX : l29_1 _ = X
  rw [show X = _ from hX.symm.trans h, Option.bind_some, Sum.elim_inl]
theorem f30_eqn {N : Int} {m : Nat} (h : 0 ≤ N ∧ N < 5000000000) (hm : m ≤ 4) : f30 (N, (m : Int), ()) = some (0, m, fourB N, ()) := by
  unfold f30
  dsimp only
  rw [if_pos (by omega), if_pos (by omega), Int.toNat_natCast, Int.tdiv_eq_ediv_of_nonneg h.1, Int.tdiv_eq_ediv_of_nonneg h.1, Int.tdiv_eq_ediv_of_nonneg h.1, wrap_i64 (by omega), wrap_i64 (by omega), wrap_i64 (by omega), Int.tmod_eq_emod_of_nonneg (by omega), Int.tmod_eq_emod_of_nonneg (by omega), Int.tmod_eq_emod_of_nonneg (by omega), Int.tmod_eq_emod_of_nonneg h.1, wrap_u8, wrap_u8, wrap_u8, wrap_u8, Int.emod_emod, Int.emod_emod, Int.emod_emod, Int.emod_emod]
  rfl

theorem l17_1_eqn {t : List Int} {most : Int} (hb : IsB t) (hl : t.length ≤ 1000000) : ∀ (k i : Nat), t.length - i < k → i ≤ t.length →
    ∃ e : Nat, loopN g17_1 o17_1 b17_1 k (bytesStr t, most, (i : Int), ()) = some (.inl (bytesStr t, most, (e : Int), ())) ∧ match cutD (t.drop i) with
      | none => t.length ≤ e + 1 ∧ e ≤ t.length
      | some f => e = i + f.length ∧ e + 1 < t.length
  | 0, _, h, _ => by omega
  | k + 1, i, h, hi => by
    rw [loopN_succ]
    by_cases hc : i + 1 < t.length
    · have hx := hb.get i
      have hy := hb.get (i + 1)
      rw [drop_getD 0 (show i < t.length by omega), cutD_cons]
      have hh : (t.drop (i + 1)).head? = some (t.getD (i + 1) 0) := by rw [drop_getD 0 hc]; rfl
      rw [hh]
      obtain ⟨e, e1, e2⟩ := l17_1_eqn (most := most) hb hl k (i + 1) (by omega) (by omega)
      by_cases h1 : t.getD i 0 = 126 ∧ t.getD (i + 1) 0 = 62
      · have hb1 : b17_1 (bytesStr t, most, (i : Int), ()) = some (.inr (.inl (bytesStr t, most, (i : Int), ()))) := by
          unfold b17_1
          dsimp only
          rw [str_size, wrap_i64 (n := (i : Int) + 1) (by omega), Int.toNat_natCast, show ((i : Int) + 1).toNat = i + 1 by omega, str_at hb, str_at hb, if_pos (decide_eq_true (by omega)), if_pos (by omega), if_pos (by omega), if_neg (fun h => bne_iff_ne.1 h h1.1), if_pos (by omega), if_pos (by omega), if_neg (fun h => bne_iff_ne.1 h h1.2)]
        rw [hb1, if_pos ⟨h1.1, by rw [h1.2]⟩]
        exact ⟨i, rfl, by simp, by omega⟩
      · have hb1 : b17_1 (bytesStr t, most, (i : Int), ()) = some (.inl (bytesStr t, most, ((i + 1 : Nat) : Int), ())) := by
          unfold b17_1
          dsimp only
          rw [str_size, wrap_i64 (n := (i : Int) + 1) (by omega), Int.toNat_natCast, show ((i : Int) + 1).toNat = i + 1 by omega, str_at hb, str_at hb, if_pos (decide_eq_true (by omega)), if_pos (by omega), if_pos (by omega)]
          by_cases h2 : t.getD i 0 = 126
          · rw [if_neg (fun h => bne_iff_ne.1 h h2), if_pos (by omega), if_pos (by omega), if_pos (bne_iff_ne.2 (fun h => h1 ⟨h2, h⟩))]; rfl
          · rw [if_pos (bne_iff_ne.2 h2)]; rfl
        rw [hb1, if_neg (fun h => h1 ⟨h.1, by simpa using h.2⟩)]
        refine ⟨e, e1, ?_⟩
        cases hcd : cutD (t.drop (i + 1)) with
        | none => rw [hcd] at e2; exact e2
        | some f => rw [hcd] at e2; simp only [Option.map_some, List.length_cons]; exact ⟨by omega, e2.2⟩
    · have hb1 : b17_1 (bytesStr t, most, (i : Int), ()) = some (.inr (.inl (bytesStr t, most, (i : Int), ()))) := by
        unfold b17_1
        dsimp only
        rw [str_size, wrap_i64 (n := (i : Int) + 1) (by omega), if_neg (fun h => by have := of_decide_eq_true h; omega)]
      rw [hb1]
      have hn : cutD (t.drop i) = none := by
        have hdl : (t.drop i).length ≤ 1 := by rw [List.length_drop]; omega
        match t.drop i, hdl with
        | [], _ => rfl
        | [x], _ => rw [cutD_cons, if_neg (by simp)]; rfl
      rw [hn]
      exact ⟨i, rfl, by omega, by omega⟩
end Go.Ev.Asc
namespace Go.Ev.Asc
set_option maxRecDepth 100000
open Go.Proofs

theorem b17_2_eqn {most : Int} {t out row : List Int} {i e : Nat} (hb : IsB t) (hl : t.length ≤ 1000000) (he : e ≤ t.length) (hd : De row) (hr : row.length ≤ 4) (ho : out.length ≤ 4 * i) (hi : i < e) :
    b17_2 (bytesStr t, most, (e : Int), (i : Int), out, row, ()) = (let c := t.getD i 0
      if white c then some (.inl (bytesStr t, most, (e : Int), ((i + 1 : Nat) : Int), out, row, ())) else if c = 122 ∧ row = [] then some (.inl (bytesStr t, most, (e : Int), ((i + 1 : Nat) : Int), out ++ [0, 0, 0, 0], row, ()))
      else if c < 33 ∨ 117 < c then some (.inr (.inr (.inl ([], 4, ()))))
      else if row.length = 4 then (if 4294967295 < num (row ++ [c - 33]) then some (.inr (.inr (.inl ([], 4, ())))) else some (.inl (bytesStr t, most, (e : Int), ((i + 1 : Nat) : Int), out ++ fourB (num (row ++ [c - 33])), [], ())))
      else some (.inl (bytesStr t, most, (e : Int), ((i + 1 : Nat) : Int), out, row ++ [c - 33], ()))) := by
  have hc := hb.get i
  unfold b17_2
  dsimp only
  rw [str_size, Int.toNat_natCast, str_at hb, if_pos (decide_eq_true (by omega)), if_pos (by omega), if_pos (by omega), f26_eqn, Option.bind_some, wrap_i64 (n := (i : Int) + 1) (by omega)]
  generalize hC : t.getD i 0 = C at hc
  dsimp only
  cases hw : white C with
  | true =>
    rw [if_pos rfl, if_pos rfl, if_pos rfl]
    repeat rw [full]
    rfl
  | false =>
    rw [if_neg (by decide), if_pos rfl, if_pos rfl, if_neg (by decide)]
    have h3 : b17_4 (bytesStr t, most, (e : Int), (i : Int), C, out, row, ()) = some (.inl (bytesStr t, most, (e : Int), (i : Int), C, decide (C = 122 ∧ row = []), out, row, ())) := by
      unfold b17_4
      dsimp only
      by_cases h1 : C = 122
      · rw [if_pos (beq_iff_eq.2 h1), if_pos rfl, if_pos rfl]
        repeat rw [full]
        cases row with
        | nil => simp [h1]
        | cons x r =>
          have e : ((((x :: r).length : Nat) : Int) == 0) = false := beq_eq_false_iff_ne.2 (by simp only [List.length_cons]; omega)
          rw [e, decide_eq_false (fun h => by cases h.2)]
      · rw [if_neg (fun h => h1 (beq_iff_eq.1 h)), if_pos rfl, if_pos rfl, decide_eq_false (fun h => h1 h.1)]
        repeat rw [full]
    repeat rw [full]
    rw [h3, Option.bind_some, Sum.elim_inl]
    dsimp only
    repeat rw [full]
    by_cases hz : C = 122 ∧ row = []
    · rw [if_pos (decide_eq_true hz), if_pos hz, if_pos (by omega), if_pos rfl, if_pos rfl, wrap_i64 (by omega)]
      repeat rw [full]
      rfl
    · rw [if_neg (fun h => hz (of_decide_eq_true h)), if_neg hz]
      by_cases h4 : C < 33
      · rw [if_pos (decide_eq_true h4), if_pos (.inl h4)]
      rw [if_neg (fun h => h4 (of_decide_eq_true h))]
      by_cases h5 : 117 < C
      · rw [if_pos (decide_eq_true h5), if_pos (.inr h5)]
      rw [if_neg (fun h => h5 (of_decide_eq_true h)), if_neg (show ¬ (C < 33 ∨ 117 < C) by omega)]
      have hd2 := hd.snoc (d := C - 33) (by omega)
      have hr2 : (row ++ [C - 33]).length = row.length + 1 := by simp
      have ew : IntKind.wrap .i64 (IntKind.wrap .u8 (C - 33)) = C - 33 := by rw [wrap_u8, show (C - 33) % 256 = C - 33 by omega, wrap_i64 (by omega)]
      rw [ew]
      repeat rw [full]
      rw [one_row, hr2, if_pos (by simp; omega)]
      repeat rw [full]
      by_cases h6 : row.length = 4
      · have h5l : (row ++ [C - 33]).length = 5 := by omega
        rw [if_pos (beq_iff_eq.2 (by omega)), if_pos h6, f29_eqn hd2 h5l, Option.bind_some]
        dsimp only
        have hn := num_range hd2
        by_cases h7 : 4294967295 < num (row ++ [C - 33])
        · rw [if_pos (decide_eq_true h7), if_pos h7]
        · rw [if_neg (fun h => h7 (of_decide_eq_true h)), if_neg h7, show (4 : Int) = ((4 : Nat) : Int) from rfl, f30_eqn hn (by omega), Option.bind_some]
          dsimp only
          repeat rw [full]
          rw [List.drop_zero, List.take_of_length_le (by rw [fourB_len]; omega), fourB_len, if_pos (by omega), if_pos rfl, wrap_i64 (by omega)]
          repeat rw [full]
          rfl
      · rw [if_neg (fun h => h6 (by have := beq_iff_eq.1 h; omega)), if_neg h6, if_pos rfl, if_pos rfl, wrap_i64 (by omega)]
        repeat rw [full]
        rfl

theorem l17_2_eqn {most : Int} {t f : List Int} {e : Nat} (hb : IsB t) (hl : t.length ≤ 1000000) (he : e ≤ t.length) (hf : f = t.take e) : ∀ (k i : Nat) (out row : List Int), e - i < k → i ≤ e → De row → row.length ≤ 4 → out.length ≤ 4 * i →
    loopN g17_2 o17_2 b17_2 k (bytesStr t, most, (e : Int), (i : Int), out, row, ()) = match getL out row (f.drop i) with
      | none => some (.inr (.inl ([], 4, ())))
      | some p => some (.inl (most, p.1, p.2, ()))
  | 0, _, _, _, h, _, _, _, _ => by omega
  | k + 1, i, out, row, h, hi, hd, hr, ho => by
    have hfl : f.length = e := by rw [hf, List.length_take]; omega
    rw [loopN_succ]
    by_cases hc : i < e
    · have hg : f.getD i 0 = t.getD i 0 := by rw [hf, List.getD_eq_getElem?_getD, List.getD_eq_getElem?_getD, List.getElem?_take, if_pos hc]
      rw [b17_2_eqn hb hl he hd hr ho hc, drop_getD 0 (show i < f.length by omega), getL_cons, hg]
      generalize t.getD i 0 = C
      dsimp only
      by_cases h1 : white C = true
      · rw [if_pos h1, if_pos h1]
        exact l17_2_eqn hb hl he hf k (i + 1) out row (by omega) (by omega) hd hr (by omega)
      rw [if_neg h1, if_neg h1]
      by_cases h2 : C = 122 ∧ row = []
      · rw [if_pos h2, if_pos h2]
        exact l17_2_eqn hb hl he hf k (i + 1) _ row (by omega) (by omega) hd hr (by simp; omega)
      rw [if_neg h2, if_neg h2]
      by_cases h3 : C < 33 ∨ 117 < C
      · rw [if_pos h3, if_pos h3]; rfl
      rw [if_neg h3, if_neg h3]
      by_cases h4 : row.length = 4
      · rw [if_pos h4, if_pos h4]
        by_cases h5 : 4294967295 < num (row ++ [C - 33])
        · rw [if_pos h5, if_pos h5]; rfl
        · rw [if_neg h5, if_neg h5]
          exact l17_2_eqn hb hl he hf k (i + 1) _ [] (by omega) (by omega) De.nil (by simp) (by rw [List.length_append, fourB_len]; omega)
      · rw [if_neg h4, if_neg h4]
        exact l17_2_eqn hb hl he hf k (i + 1) out _ (by omega) (by omega) (hd.snoc (by omega)) (by simp; omega) (by omega)
    · have e1 : i = e := by omega
      have hb : b17_2 (bytesStr t, most, (e : Int), (i : Int), out, row, ()) = some (.inr (.inl (most, out, row, ()))) := by
        unfold b17_2
        dsimp only
        rw [if_neg (fun h => by have := of_decide_eq_true h; omega), if_pos rfl, if_pos rfl]
        repeat rw [full]
      rw [hb, e1, List.drop_of_length_le (by omega)]
      rfl
def pad (l : List Int) : List Int := l ++ List.replicate (5 - l.length) 84
theorem b17_3_eqn {most : Int} {m : Int} {out l : List Int} (h : l.length < 5) : b17_3 (most, m, out, l, ()) = some (.inl (most, m, out, l ++ [84], ())) := by
  unfold b17_3
  dsimp only
  rw [if_pos (decide_eq_true (by omega))]
  repeat rw [full]
  rw [one_row, if_pos (by omega), if_pos rfl, if_pos rfl]
  try rw [full]
theorem l17_3_eqn {most : Int} {m : Int} {out : List Int} : ∀ (k : Nat) (l : List Int), 5 - l.length < k → l.length ≤ 5 → loopN g17_3 o17_3 b17_3 k (most, m, out, l, ()) = some (.inl (most, m, out, pad l, ()))
  | 0, _, h, _ => by omega
  | k + 1, l, h, hl => by
    rw [loopN_succ]
    by_cases hc : l.length < 5
    · rw [b17_3_eqn hc, Option.bind_some, Sum.elim_inl]
      refine (l17_3_eqn k (l ++ [84]) (by simp; omega) (by simp; omega)).trans ?_
      unfold pad
      rw [List.append_assoc, List.length_append, List.length_singleton]
      congr 7
      rw [show 5 - l.length = (5 - (l.length + 1)) + 1 by omega, List.replicate_succ]
      rfl
    · have hb : b17_3 (most, m, out, l, ()) = some (.inr (.inl (most, m, out, l, ()))) := by
        unfold b17_3
        dsimp only
        rw [if_neg (fun h => hc (by have := of_decide_eq_true h; omega)), if_pos rfl, if_pos rfl]
        try rw [full]
      rw [hb]
      unfold pad
      rw [show 5 - l.length = 0 by omega, List.replicate_zero, List.append_nil]
      rfl
theorem pad_get (l : List Int) (k : Nat) : (pad l).getD k 84 = l.getD k 84 := by
  unfold pad
  rw [List.getD_eq_getElem?_getD, List.getD_eq_getElem?_getD]
  rcases Nat.lt_or_ge k l.length with h | h
  · rw [List.getElem?_append_left h]
  · rw [List.getElem?_append_right h, List.getElem?_replicate, List.getElem?_eq_none h]
    split <;> rfl
theorem pad_num (l : List Int) : num (pad l) = num l := by
  have e : ∀ k, numK (pad l) k = numK l k := fun k => by
    induction k with
    | zero => rfl
    | succ k ih => unfold numK; rw [ih, pad_get]
  exact e 5
theorem pad_de {l : List Int} (h : De l) : De (pad l) := fun x hx => by
  rcases List.mem_append.1 hx with h1 | h1
  · exact h x h1
  · rw [List.eq_of_mem_replicate h1]; omega

theorem f17_eqn {t : List Int} {most : Int} (hb : IsB t) (hl : t.length ≤ 1000000) : f17 (bytesStr t, most, ()) = some ((getF t most).1, (getF t most).2, ()) := by
  unfold f17 getF
  dsimp only
  by_cases h1 : most < 0
  · rw [if_pos (decide_eq_true h1), if_pos (.inl h1)]
  rw [if_neg (fun h => h1 (of_decide_eq_true h))]
  by_cases h2 : 1048576 < most
  · rw [if_pos (decide_eq_true h2), if_pos (.inr h2)]
  rw [if_neg (fun h => h2 (of_decide_eq_true h)), if_neg (by omega)]
  obtain ⟨e, e1, e2⟩ := l17_1_eqn (most := most) hb hl 18446744073709551616 0 (by omega) (by omega)
  have e1' : l17_1 (bytesStr t, most, 0, ()) = _ := e1
  rw [e1', Option.bind_some, Sum.elim_inl]
  dsimp only
  rw [List.drop_zero] at e2
  cases hc : cutD t with
  | none =>
    rw [hc] at e2
    dsimp only at e2
    rw [str_size, wrap_i64 (by omega), if_pos (decide_eq_true (by omega))]
  | some f =>
    rw [hc] at e2
    dsimp only at e2 ⊢
    have hfl := cutD_len hc
    rw [str_size, wrap_i64 (by omega), if_neg (fun h => by have := of_decide_eq_true h; omega)]
    have h := l17_2_eqn (most := most) (e := e) hb hl (by omega) (show f = t.take e by rw [show e = f.length by omega]; exact cutD_take hc) 18446744073709551616 0 [] [] (by omega) (by omega) De.nil (by simp) (by simp)
    have h' : l17_2 (bytesStr t, most, (e : Int), 0, [], [], ()) = _ := h
    rw [List.drop_zero] at h'
    rw [h']
    cases hs : getL [] [] f with
    | none => rfl
    | some p =>
      obtain ⟨hd, hr2, ho⟩ := getL_row De.nil (by simp) hs
      simp only [List.length_nil, Nat.zero_add] at ho
      dsimp only
      rw [Option.bind_some, Sum.elim_inl, Option.bind_some]
      dsimp only
      generalize p.1 = out at ho
      generalize p.2 = row at hd hr2
      unfold fin
      by_cases g1 : row.length = 1
      · rw [if_pos (beq_iff_eq.2 (by omega)), if_pos g1]
      rw [if_neg (fun h => g1 (by have := beq_iff_eq.1 h; omega)), if_neg g1]
      by_cases g2 : row = []
      · rw [if_neg (fun h => by have := of_decide_eq_true h; rw [g2] at this; simp at this), if_pos g2]
        dsimp only
        by_cases h5 : most < (out.length : Int)
        · rw [if_pos (decide_eq_true h5), if_pos h5]
        · rw [if_neg (fun h => h5 (of_decide_eq_true h)), if_neg h5]
          repeat rw [full]
      · have g3 : 1 ≤ row.length := List.length_pos_iff.2 g2
        have hpl : (pad row).length = 5 := by unfold pad; rw [List.length_append, List.length_replicate]; omega
        rw [if_pos (decide_eq_true (by omega)), if_neg g2, if_pos rfl, if_pos rfl]
        repeat rw [full]
        have h6 := l17_3_eqn (most := most) (m := (row.length : Int)) (out := out) 18446744073709551616 row (by omega) (by omega)
        have h7 : l17_3 (most, (row.length : Int), out, row, ()) = _ := h6
        rw [h7, Option.bind_some, Sum.elim_inl]
        dsimp only
        repeat rw [full]
        rw [f29_eqn (pad_de hd) hpl, pad_num, Option.bind_some]
        dsimp only
        have hn := num_range hd
        by_cases h8 : 4294967295 < num row
        · rw [if_pos (decide_eq_true h8), if_pos h8]
        · rw [if_neg (fun h => h8 (of_decide_eq_true h)), if_neg h8, wrap_i64 (by omega), show (row.length : Int) - 1 = ((row.length - 1 : Nat) : Int) by omega, f30_eqn hn (by omega), Option.bind_some]
          dsimp only
          repeat rw [full]
          rw [List.drop_zero, if_pos (by rw [List.length_take, fourB_len]; omega)]
          by_cases h9 : most < ((out ++ (fourB (num row)).take (row.length - 1)).length : Int)
          · rw [if_pos (decide_eq_true h9), if_pos h9]
          · rw [if_neg (fun h => h9 (of_decide_eq_true h)), if_neg h9]

theorem str_any (s : ByteArray) : ∃ t : List Int, IsB t ∧ s = bytesStr t := by
  refine ⟨s.data.toList.map fun b => ((UInt8.toNat b : Nat) : Int), fun x hx => ?_, str_ext' ?_⟩
  · obtain ⟨b, _, rfl⟩ := List.mem_map.1 hx
    have := b.toNat_lt
    omega
  · rw [str_data, List.map_map]
    conv => lhs; rw [← List.map_id s.data.toList]
    refine List.map_congr_left fun b _ => ?_
    simp
theorem gets_true (s : ByteArray) (most : Int) : f4 (s, most, ()) = some (true, ()) := by
  obtain ⟨t, hb, rfl⟩ := str_any s
  unfold f4
  dsimp only
  rw [str_size]
  by_cases hl : t.length > 500
  · rw [if_pos (decide_eq_true (by omega))]
  rw [if_neg (fun h => hl (by have := of_decide_eq_true h; omega)), f14_eqn hb (by omega), Option.bind_some, f15_eqn hb (by omega), Option.bind_some, f16_eqn hb (by omega), Option.bind_some, f17_eqn hb (by omega), Option.bind_some, f9_eqn, Option.bind_some]
  dsimp only
  rw [if_pos rfl, if_pos (by simp), if_pos (by simp), if_pos (by simp)]
  simp
end Go.Ev.Asc
