/- Part of a proof about the given program: ZC. -/
import Derived.Test.YtaofodieeepobaaZB
import Derived.Test.YtaofodieeepobaaBig
import Derived.Test.YtaofodieeepobaaZP
import Derived.KernelRfl
namespace Go.Ev.Zlib

set_option maxRecDepth 100000 in
theorem awake_true : f8 () = some (true, ()) := by kernel_rfl

/-! # The sum of bytes -/
def S : List Int → Nat
  | [] => 0
  | x :: l => x.toNat + S l
def W : List Int → Nat
  | [] => 0
  | x :: l => (l.length + 1) * x.toNat + W l
theorem S_append : ∀ a b : List Int, S (a ++ b) = S a + S b
  | [], b => by simp [S]
  | x :: a, b => by simp only [List.cons_append, S, S_append a b]; omega
theorem W_append : ∀ a b : List Int, W (a ++ b) = W a + b.length * S a + W b
  | [], b => by simp [W, S]
  | x :: a, b => by
    simp only [List.cons_append, W, S, W_append a b, List.length_append]
    rw [show a.length + b.length + 1 = (a.length + 1) + b.length by omega, Nat.add_mul, Nat.mul_add]
    omega
theorem mod_step (n a b x s w : Nat) : (((b + (a + x) % 65521) % 65521) + n * ((a + x) % 65521) + w) % 65521 = (b + (n + 1) * a + ((n + 1) * x + w)) % 65521 ∧ ((a + x) % 65521 + s) % 65521 = (a + (x + s)) % 65521 := by
  refine ⟨?_, by omega⟩
  have h : n * (a + x) = 65521 * (n * ((a + x) / 65521)) + n * ((a + x) % 65521) := by
    conv => lhs; rw [← Nat.div_add_mod (a + x) 65521, Nat.mul_add]
    rw [← Nat.mul_assoc, Nat.mul_comm n 65521, Nat.mul_assoc]
  rw [Nat.mul_add] at h
  rw [Nat.add_mul, Nat.add_mul]
  generalize n * ((a + x) % 65521) = p at h ⊢
  generalize n * ((a + x) / 65521) = q at h
  generalize n * a = u at h ⊢
  generalize n * x = v at h ⊢
  omega
theorem l7_1_spec {l : List Int} (hb : IsB l) (hl : l.length ≤ 10000) : ∀ (k i a b : Nat), l.length < i + k → i ≤ l.length → a < 65521 → b < 65521 →
    loopN g7_1 o7_1 b7_1 k (l, ((l.length : Nat) : Int), (i : Int), (a : Int), (b : Int), ()) = some (.inl ((((a + S (l.drop i)) % 65521 : Nat) : Int), (((b + (l.length - i) * a + W (l.drop i)) % 65521 : Nat) : Int), ())) := by
  intro k
  induction k with
  | zero => intro i a b h1 h2; omega
  | succ k ih =>
    intro i a b h1 h2 h3 h4
    rw [loopN_succ]
    generalize hL : loopN g7_1 o7_1 b7_1 k = L at ih ⊢
    unfold b7_1
    dsimp only
    rw [Int.toNat_natCast]
    rcases Nat.lt_or_ge i l.length with h | h
    · have hm : l.getD i 0 ∈ l := by
        rw [List.getD_eq_getElem?_getD, List.getElem?_eq_getElem h]
        exact List.getElem_mem _
      obtain ⟨x0, x1⟩ := hb _ hm
      have hx : (l.getD i 0) = (((l.getD i 0).toNat : Nat) : Int) := by omega
      have hd : l.drop i = l.getD i 0 :: l.drop (i + 1) := by
        rw [List.getD_eq_getElem?_getD, List.getElem?_eq_getElem h]
        exact List.drop_eq_getElem_cons h
      generalize hxn : (l.getD i 0).toNat = x at hx
      have w1 : IntKind.wrap .i64 (l.getD i 0) = (x : Int) := by rw [hx, wrap_i64 (by omega)]
      have w2 : IntKind.wrap .i64 ((a : Int) + (x : Int)) = ((a + x : Nat) : Int) := by rw [wrap_i64 (by omega)]; omega
      have w3 : Int.tmod (((a + x : Nat) : Int)) 65521 = (((a + x) % 65521 : Nat) : Int) := rfl
      have w4 : IntKind.wrap .i64 ((b : Int) + (((a + x) % 65521 : Nat) : Int)) = ((b + (a + x) % 65521 : Nat) : Int) := by rw [wrap_i64 (by omega)]; omega
      have w5 : Int.tmod (((b + (a + x) % 65521 : Nat) : Int)) 65521 = (((b + (a + x) % 65521) % 65521 : Nat) : Int) := rfl
      rw [if_pos (by rw [decide_eq_true_eq]; omega), if_pos (by omega), if_pos (by omega), w1, w2, w3, w4, w5, Option.bind_some, Sum.elim_inl, show IntKind.wrap .i64 ((i : Int) + 1) = ((i + 1 : Nat) : Int) by rw [wrap_i64 (by omega)]; omega]
      have hI := ih (i + 1) ((a + x) % 65521) ((b + (a + x) % 65521) % 65521) (by omega) (by omega) (by omega) (by omega)
      rw [hI, hd]
      simp only [S, W, hxn]
      have hlen : (l.drop (i + 1)).length = l.length - (i + 1) := List.length_drop ..
      obtain ⟨m1, m2⟩ := mod_step (l.length - (i + 1)) a b x (S (l.drop (i + 1))) (W (l.drop (i + 1)))
      rw [hlen, m1, m2, show l.length - (i + 1) + 1 = l.length - i by omega]
    · rw [if_neg (by rw [decide_eq_true_eq]; omega), List.drop_of_length_le (by omega), show l.length - i = 0 by omega]
      simp only [S, W, Nat.zero_mul, Nat.add_zero]
      rw [Nat.mod_eq_of_lt h3, Nat.mod_eq_of_lt h4]
      rfl
def lowS (l : List Int) : Nat := (1 + S l) % 65521
def highS (l : List Int) : Nat := (l.length + W l) % 65521
theorem f7_eqn {l : List Int} (hb : IsB l) (hl : l.length ≤ 10000) : f7 (l, ()) = some (((highS l * 65536 + lowS l : Nat) : Int), ()) := by
  have h := l7_1_spec hb hl 18446744073709551616 0 1 0 (by omega) (by omega) (by omega) (by omega)
  rw [List.drop_zero, Nat.sub_zero, Nat.mul_one, Nat.zero_add] at h
  unfold f7
  dsimp only
  have h' : loopN g7_1 o7_1 b7_1 18446744073709551616 (l, ((l.length : Nat) : Int), 0, 1, 0, ()) = some (.inl (((lowS l : Nat) : Int), ((highS l : Nat) : Int), ())) := h
  rw [show l7_1 = loopN g7_1 o7_1 b7_1 18446744073709551616 from rfl]
  generalize loopN g7_1 o7_1 b7_1 18446744073709551616 (l, ((l.length : Nat) : Int), 0, 1, 0, ()) = X at h' ⊢
  subst h'
  rw [Option.bind_some, Sum.elim_inl]
  dsimp only
  have l1 : lowS l < 65521 := Nat.mod_lt _ (by omega)
  have l2 : highS l < 65521 := Nat.mod_lt _ (by omega)
  have w1 : IntKind.wrap .i64 (((highS l : Nat) : Int) * 65536) = ((highS l * 65536 : Nat) : Int) := by rw [wrap_i64 (by omega)]; omega
  rw [w1, or64 (by omega) (by omega), Nat.or_comm, show highS l * 65536 = highS l * 2 ^ 16 from rfl, or_split _ (by omega), wrap_i64 (by omega)]
  congr 2
  omega
end Go.Ev.Zlib
namespace Go.Ev.Zlib

/-! # A sum at the end -/
def sumZ (l : List Int) : Nat := highS l * 65536 + lowS l
theorem sumZ_lt (l : List Int) : sumZ l < 4294967296 := by
  have l1 : lowS l < 65521 := Nat.mod_lt _ (by omega)
  have l2 : highS l < 65521 := Nat.mod_lt _ (by omega)
  unfold sumZ
  omega
def s4 (n : Nat) : List Int := [((n / 16777216 % 256 : Nat) : Int), ((n / 65536 % 256 : Nat) : Int), ((n / 256 % 256 : Nat) : Int), ((n % 256 : Nat) : Int)]
theorem isB_s4 (n : Nat) : IsB (s4 n) := fun x hx => by
  unfold s4 at hx
  simp only [List.mem_cons, List.not_mem_nil, or_false] at hx
  omega
theorem be_s4 {n : Nat} (h : n < 4294967296) : be (s4 n) = n := by
  unfold s4
  simp only [be, Int.toNat_natCast, List.length_cons, List.length_nil]
  omega
def packZ (B : List Int) (n : Nat) : List Int := ([120, 1] ++ B) ++ s4 n
theorem b10_1_a (x0 d : List Int) : b10_1 (x0, d, [], ByteArray.mk #[120, 1], 0, ()) = some (.inl (x0, d, [120], ByteArray.mk #[120, 1], 1, ())) := by
  have h : Go.Utf8.decode (ByteArray.mk #[120, 1]) 0 = (120, 1) := by decide +kernel
  unfold b10_1
  dsimp only
  rw [h]
  rfl
theorem b10_1_b (x0 d : List Int) : b10_1 (x0, d, [120], ByteArray.mk #[120, 1], 1, ()) = some (.inl (x0, d, [120, 1], ByteArray.mk #[120, 1], 2, ())) := by
  have h : Go.Utf8.decode (ByteArray.mk #[120, 1]) 1 = (1, 1) := by decide +kernel
  unfold b10_1
  dsimp only
  rw [h]
  rfl
theorem b10_1_c (x0 d : List Int) : b10_1 (x0, d, [120, 1], ByteArray.mk #[120, 1], 2, ()) = some (.inr (.inl (x0, d, [120, 1], ()))) := rfl
theorem l10_1_head (x0 d : List Int) : l10_1 (x0, d, [], ByteArray.mk #[120, 1], 0, ()) = some (.inl (x0, d, [120, 1], ())) := by
  rw [show l10_1 = loopN g10_1 o10_1 b10_1 (18446744073709551613 + 1 + 1 + 1) from rfl]
  rw [loopN_succ, b10_1_a, Option.bind_some, Sum.elim_inl, loopN_succ, b10_1_b, Option.bind_some, Sum.elim_inl, loopN_succ, b10_1_c, Option.bind_some, Sum.elim_inr]
/-- Bytes that are packed. -/
theorem f10_eqn {b : List Int} (hB : IsB b) (hl : b.length ≤ 3000) : ∃ T B, Toks b 0 T ∧ Blk T B ∧ T.all isT = true ∧ T.length ≤ 3000 ∧ f10 (b, ()) = some (0, packZ B (sumZ b), ()) := by
  obtain ⟨T, B, h1, h2, h3, h4, h5, hT, hTl⟩ := deflate_eqn hB hl
  have hBs := h5.small
  refine ⟨T, B, h1, h5, hT, hTl, ?_⟩
  unfold f10
  dsimp only
  rw [h4, Option.bind_some]
  dsimp only
  rw [if_neg (by decide), full, l10_1_head, Option.bind_some, Sum.elim_inl]
  dsimp only
  rw [full ([120, 1] : List Int)]
  have hs := sumZ_lt b
  have hf7 : f7 (b, ()) = some (((sumZ b : Nat) : Int), ()) := f7_eqn hB (by omega)
  rw [if_pos (by rw [List.length_cons, List.length_cons, List.length_nil]; omega), hf7, Option.bind_some]
  dsimp only
  generalize sumZ b = n at hs ⊢
  have w1 : IntKind.wrap .u8 (Int.fdiv (n : Int) 16777216) = ((n / 16777216 % 256 : Nat) : Int) := by rw [wrap_u8, Int.fdiv_eq_ediv_of_nonneg _ (by omega)]; omega
  have w2 : IntKind.wrap .u8 (Int.fdiv (n : Int) 65536) = ((n / 65536 % 256 : Nat) : Int) := by rw [wrap_u8, Int.fdiv_eq_ediv_of_nonneg _ (by omega)]; omega
  have w3 : IntKind.wrap .u8 (Int.fdiv (n : Int) 256) = ((n / 256 % 256 : Nat) : Int) := by rw [wrap_u8, Int.fdiv_eq_ediv_of_nonneg _ (by omega)]; omega
  have w4 : IntKind.wrap .u8 (n : Int) = ((n % 256 : Nat) : Int) := by rw [wrap_u8]; omega
  have e4 : ∀ a b c d : Int, List.take 4 (List.drop 0 (List.set (List.set (List.set (List.set (List.replicate 4 (0 : Int)) 0 a) 1 b) 2 c) 3 d)) = [a, b, c, d] := fun _ _ _ _ => rfl
  rw [w1, w2, w3, w4, e4, full ([120, 1] ++ B : List Int), if_pos (by rw [List.length_append, List.length_cons, List.length_cons, List.length_nil]; simp only [List.length_cons, List.length_nil]; omega), if_pos rfl]
  rfl
theorem l12_1_spec (out : List Int) {l : List Int} (hl : l.length ≤ 4) (hB : IsB l) : ∀ (k i acc : Nat), l.length < i + k → i ≤ l.length → acc < 256 ^ i →
    loopN g12_1 o12_1 b12_1 k (out, (acc : Int), l, ((l.length : Nat) : Int), (i : Int), ()) = some (.inl (out, ((acc * 256 ^ (l.length - i) + be (l.drop i) : Nat) : Int), ())) := by
  intro k
  induction k with
  | zero => intro i acc h1 h2; omega
  | succ k ih =>
    intro i acc h1 h2 h3
    rw [loopN_succ]
    generalize hL : loopN g12_1 o12_1 b12_1 k = L at ih ⊢
    unfold b12_1
    dsimp only
    rcases Nat.lt_or_ge i l.length with h | h
    · have hx := hB.get i
      rw [drop_getD h 0, if_pos (by rw [decide_eq_true_eq]; omega), if_pos (by omega), if_pos (by omega), Int.toNat_natCast]
      have hbl : be (l.getD i 0 :: l.drop (i + 1)) = (l.getD i 0).toNat * 256 ^ (l.drop (i + 1)).length + be (l.drop (i + 1)) := rfl
      rw [hbl, List.length_drop]
      generalize l.getD i 0 = x at hx ⊢
      obtain ⟨y, rfl⟩ : ∃ y : Nat, x = (y : Int) := ⟨x.toNat, by omega⟩
      have hacc : acc < 16777216 := by
        have : 256 ^ i ≤ 256 ^ 3 := Nat.pow_le_pow_right (by omega) (by omega)
        have e : (256 : Nat) ^ 3 = 16777216 := rfl
        omega
      have w1 : IntKind.wrap .i64 ((acc : Int) * 256) = ((acc * 2 ^ 8 : Nat) : Int) := by rw [wrap_i64 (by omega)]; omega
      rw [w1, wrap_i64 (n := (y : Int)) (by omega), or64 (by omega) (by omega), shl_or (by omega), wrap_i64 (by omega), Option.bind_some, Sum.elim_inl,
        show IntKind.wrap .i64 ((i : Int) + 1) = ((i + 1 : Nat) : Int) by rw [wrap_i64 (by omega)]; omega]
      have hI := ih (i + 1) (acc * 2 ^ 8 + y) (by omega) (by omega) (by rw [Nat.pow_succ]; omega)
      rw [hI]
      refine congrArg (fun q : Nat => some (Sum.inl (out, (q : Int), ()))) ?_
      have e : acc * 2 ^ 8 * 256 ^ (l.length - (i + 1)) = acc * 256 ^ (l.length - i) := by
        rw [Nat.mul_assoc, show (2 : Nat) ^ 8 = 256 ^ 1 from rfl, ← Nat.pow_add, show 1 + (l.length - (i + 1)) = l.length - i by omega]
      rw [Int.toNat_natCast, Nat.add_mul, e, Nat.add_assoc]
    · rw [if_neg (by rw [decide_eq_true_eq]; omega), show l.length - i = 0 by omega, List.drop_of_length_le h, Nat.pow_zero, Nat.mul_one]
      rfl
/-- What is unpacked behind a packed block. -/
theorem f12_eqn {b : List Int} (hB : IsB b) (hl : b.length ≤ 3000) {T : List Tok} {B : List Int} (h1 : Toks b 0 T) (hT : T.all isT = true) (hTl : T.length ≤ 3000) (h5 : Blk T B) {most : Int} (hm0 : ((b.length : Nat) : Int) ≤ most) (hm : most ≤ 1048576) {post : List Int} (hp : IsB post) (hpl : post.length ≤ 1000) :
    f12 (([120, 1] ++ B) ++ post, most, ()) = if post.length < 4 then some ([], 6, ()) else if be (post.take 4) ≠ sumZ b then some ([], 7, ()) else some (b, 0, ()) := by
  have hBs := h5.small
  have hlen : (([120, 1] ++ B) ++ post).length = B.length + post.length + 2 := by
    rw [List.length_append, List.length_append]; simp only [List.length_cons, List.length_nil]; omega
  have g0 : (([120, 1] ++ B) ++ post).getD 0 0 = 120 := rfl
  have g1 : (([120, 1] ++ B) ++ post).getD 1 0 = 1 := rfl
  have d2 : (([120, 1] ++ B) ++ post).drop 2 = B ++ post := rfl
  have hBp : IsB (B ++ post) := h5.b.append hp
  have hi := inflate_deflated h1 hT hTl h5 hm0 hm post
  have hf18 := f18_eqn hBp (by rw [List.length_append]; omega) most
  rw [hi] at hf18
  unfold f12
  dsimp only
  rw [g0, g1, d2, hlen]
  have w1 : IntKind.wrap .i64 (2 + ((B.length : Nat) : Int)) = ((2 + B.length : Nat) : Int) := by rw [wrap_i64 (by omega)]; omega
  have d3 : (([120, 1] ++ B) ++ post).drop (2 + B.length) = post := by
    rw [List.drop_append, List.drop_of_length_le (by rw [List.length_append]; simp only [List.length_cons, List.length_nil]; omega), List.nil_append]
    have e0 : 2 + B.length - ([120, 1] ++ B : List Int).length = 0 := by rw [List.length_append]; simp only [List.length_cons, List.length_nil]; omega
    rw [e0, List.drop_zero]
  rw [if_neg (by rw [decide_eq_true_eq]; omega), if_neg (by rw [decide_eq_true_eq]; omega), if_neg (by rw [decide_eq_true_eq]; omega), if_pos (by omega), if_neg (by decide), if_pos (by omega), if_neg (by decide), if_pos (by omega), if_pos (by omega), if_neg (by decide), if_pos (by omega), if_neg (by decide), if_pos (by omega), hf18, Option.bind_some]
  dsimp only
  rw [if_neg (by decide), w1, if_pos (by omega), if_pos (by omega), Int.toNat_natCast, d3]
  by_cases c : post.length < 4
  · rw [if_pos c, if_pos (by rw [decide_eq_true_eq]; omega)]
  · have ht : (post.take 4).length = 4 := by rw [List.length_take]; omega
    have h := l12_1_spec b (l := post.take 4) (by omega) (hp.take 4) FU 0 0 (by unfold FU; omega) (Nat.zero_le _) (by decide)
    rw [List.drop_zero, Nat.zero_mul, Nat.zero_add] at h
    have h' : loopN g12_1 o12_1 b12_1 FU (b, 0, post.take 4, (((post.take 4).length : Nat) : Int), 0, ()) = _ := h
    rw [if_neg c, if_neg (by rw [decide_eq_true_eq]; omega), if_pos (by omega), show l12_1 = loopN g12_1 o12_1 b12_1 FU from rfl, h', Option.bind_some, Sum.elim_inl]
    dsimp only
    have hf7 : f7 (b, ()) = some (((sumZ b : Nat) : Int), ()) := f7_eqn hB (by omega)
    rw [hf7, Option.bind_some]
    dsimp only
    by_cases c2 : be (post.take 4) = sumZ b
    · rw [if_neg (show ¬ (be (post.take 4) ≠ sumZ b) from fun h => h c2), c2, if_neg (by simp)]
    · rw [if_pos (show be (post.take 4) ≠ sumZ b from c2), if_pos (by rw [bne_iff_ne]; omega)]
end Go.Ev.Zlib
namespace Go.Ev.Zlib

/-! # The statements -/
theorem pack_len (B : List Int) (n : Nat) : (packZ B n).length = B.length + 6 := by
  unfold packZ s4
  rw [List.length_append, List.length_append]
  simp only [List.length_cons, List.length_nil]
  omega
theorem pre_len (B : List Int) : ([120, 1] ++ B : List Int).length = B.length + 2 := by
  rw [List.length_append]
  simp only [List.length_cons, List.length_nil]
  omega
theorem pack_get (B : List Int) (n j : Nat) : (packZ B n).getD (B.length + 2 + j) 0 = (s4 n).getD j 0 := by
  unfold packZ
  rw [List.getD_eq_getElem?_getD, List.getElem?_append_right (by rw [pre_len]; omega), pre_len, show B.length + 2 + j - (B.length + 2) = j by omega, ← List.getD_eq_getElem?_getD]
theorem zlibBack_pure {x0 x1 : List Int} (hB0 : IsB x0) (hB1 : IsB x1) : f5 (x0, x1, ()) = some (true, ()) := by
  unfold f5
  dsimp only
  by_cases c1 : ((x0.length : Nat) : Int) > 2000
  · rw [if_pos (decide_eq_true c1)]
  rw [if_neg (fun h => c1 (of_decide_eq_true h))]
  by_cases c2 : ((x1.length : Nat) : Int) > 300
  · rw [if_pos (decide_eq_true c2)]
  rw [if_neg (fun h => c2 (of_decide_eq_true h))]
  obtain ⟨T, B, h1, h5, hT, hTl, hf⟩ := f10_eqn hB0 (by omega)
  have hBs := h5.small
  have hn := sumZ_lt x0
  have hpl := pack_len B (sumZ x0)
  have hs4l : (s4 (sumZ x0)).length = 4 := rfl
  have u1 := f12_eqn hB0 (by omega) h1 hT hTl h5 (most := 2000) (by omega) (by decide) (post := s4 (sumZ x0) ++ x1) ((isB_s4 _).append hB1) (by rw [List.length_append, hs4l]; omega)
  rw [if_neg (by rw [List.length_append, hs4l]; omega), List.take_left' hs4l, be_s4 hn, if_neg (fun h => h rfl), ← List.append_assoc] at u1
  have u1' : f12 (packZ B (sumZ x0) ++ x1, 2000, ()) = some (x0, 0, ()) := u1
  have u2 := f12_eqn hB0 (by omega) h1 hT hTl h5 (most := 2000) (by omega) (by decide) (post := (s4 (sumZ x0)).take 3) ((isB_s4 _).take 3) (by rw [List.length_take, hs4l]; omega)
  rw [if_pos (by rw [List.length_take, hs4l]; decide)] at u2
  have ht : (packZ B (sumZ x0)).take (B.length + 5) = ([120, 1] ++ B) ++ (s4 (sumZ x0)).take 3 := by
    unfold packZ
    rw [List.take_append, List.take_of_length_le (by rw [pre_len]; omega), pre_len, show B.length + 5 - (B.length + 2) = 3 by omega]
  have w4 : IntKind.wrap .i64 (((packZ B (sumZ x0)).length : Int) - 4) = ((B.length + 2 + 0 : Nat) : Int) := by rw [hpl, wrap_i64 (by omega)]; omega
  have w3 : IntKind.wrap .i64 (((packZ B (sumZ x0)).length : Int) - 3) = ((B.length + 2 + 1 : Nat) : Int) := by rw [hpl, wrap_i64 (by omega)]; omega
  have w2 : IntKind.wrap .i64 (((packZ B (sumZ x0)).length : Int) - 2) = ((B.length + 2 + 2 : Nat) : Int) := by rw [hpl, wrap_i64 (by omega)]; omega
  have w1 : IntKind.wrap .i64 (((packZ B (sumZ x0)).length : Int) - 1) = ((B.length + 2 + 3 : Nat) : Int) := by rw [hpl, wrap_i64 (by omega)]; omega
  have e0 : List.take 0 (List.drop 0 (List.replicate 0 (0 : Int))) ++ packZ B (sumZ x0) = packZ B (sumZ x0) := rfl
  rw [hf, Option.bind_some]
  dsimp only
  rw [if_neg (show ¬ (((0 : Int) != 0) = true) by decide), if_neg (show ¬ (decide (((packZ B (sumZ x0)).length : Int) < 6) = true) by rw [decide_eq_true_eq, hpl]; omega)]
  simp only [full, e0, w4, w3, w2, w1, Int.toNat_natCast, Nat.zero_add, Nat.sub_zero, pack_get]
  rw [if_pos (by rw [hpl]; omega), if_pos (by rw [hpl]; omega), u1', Option.bind_some]
  rw [if_pos (by omega), if_pos (by rw [hpl]; omega), if_pos (by omega), if_pos (by rw [hpl]; omega), if_pos (by omega), if_pos (by rw [hpl]; omega), if_pos (by omega), if_pos (by rw [hpl]; omega), if_pos (by omega), if_pos (by rw [hpl]; omega)]
  rw [List.drop_zero, show B.length + 2 + 3 = B.length + 5 by omega, ht, u2, Option.bind_some, awake_true, Option.bind_some]
  dsimp only
  have hf7 : f7 (x0, ()) = some (((sumZ x0 : Nat) : Int), ()) := f7_eqn hB0 (by omega)
  rw [if_pos rfl, if_pos (show ((0 : Int) == 0) = true from rfl), if_pos (beq_self_eq_true _), hf7, Option.bind_some]
  dsimp only
  generalize sumZ x0 = n at hn ⊢
  have q0 : (s4 n).getD 0 0 = ((n / 16777216 % 256 : Nat) : Int) := rfl
  have q1 : (s4 n).getD 1 0 = ((n / 65536 % 256 : Nat) : Int) := rfl
  have q2 : (s4 n).getD 2 0 = ((n / 256 % 256 : Nat) : Int) := rfl
  have q3 : (s4 n).getD 3 0 = ((n % 256 : Nat) : Int) := rfl
  rw [q0, q1, q2, q3]
  have m0 : n / 16777216 % 256 < 256 := Nat.mod_lt _ (by decide)
  have m1 : n / 65536 % 256 < 256 := Nat.mod_lt _ (by decide)
  have m2 : n / 256 % 256 < 256 := Nat.mod_lt _ (by decide)
  have m3 : n % 256 < 256 := Nat.mod_lt _ (by decide)
  have hs : 16777216 * (n / 16777216 % 256) + 65536 * (n / 65536 % 256) + 256 * (n / 256 % 256) + n % 256 = n := by omega
  generalize n / 16777216 % 256 = a at m0 hs ⊢
  generalize n / 65536 % 256 = b at m1 hs ⊢
  generalize n / 256 % 256 = c at m2 hs ⊢
  generalize n % 256 = d at m3 hs ⊢
  rw [wrap_i64 (n := (a : Int)) (by omega), wrap_i64 (n := (b : Int)) (by omega), wrap_i64 (n := (c : Int)) (by omega), wrap_i64 (n := (d : Int)) (by omega),
    wrap_i64 (n := 16777216 * (a : Int)) (by omega), wrap_i64 (n := 65536 * (b : Int)) (by omega), wrap_i64 (n := 256 * (c : Int)) (by omega), wrap_i64 (n := 16777216 * (a : Int) + 65536 * (b : Int)) (by omega),
    wrap_i64 (n := 16777216 * (a : Int) + 65536 * (b : Int) + 256 * (c : Int)) (by omega), wrap_i64 (by omega)]
  rw [if_pos (by rw [beq_iff_eq]; omega)]
  rfl
theorem zlibTurned_pure {x0 : List Int} (hB0 : IsB x0) (x1 : Int) {x2 : Int} (hx : 0 ≤ x2 ∧ x2 < 256) : f6 (x0, x1, x2, ()) = some (true, ()) := by
  unfold f6
  dsimp only
  by_cases c1 : ((x0.length : Nat) : Int) > 1000
  · rw [if_pos (decide_eq_true c1)]
  rw [if_neg (fun h => c1 (of_decide_eq_true h))]
  by_cases c2 : x1 < 0
  · rw [if_pos (decide_eq_true c2)]
  rw [if_neg (fun h => c2 (of_decide_eq_true h))]
  by_cases c3 : x1 > 3
  · rw [if_pos (decide_eq_true c3)]
  rw [if_neg (fun h => c3 (of_decide_eq_true h))]
  obtain ⟨j, rfl⟩ : ∃ j : Nat, x1 = (j : Int) := ⟨x1.toNat, by omega⟩
  have hj : j < 4 := by omega
  obtain ⟨T, B, h1, h5, hT, hTl, hf⟩ := f10_eqn hB0 (by omega)
  have hBs := h5.small
  have hn := sumZ_lt x0
  have hpl := pack_len B (sumZ x0)
  have hs4l : (s4 (sumZ x0)).length = 4 := rfl
  have hsB := isB_s4 (sumZ x0)
  have hset : IsB ((s4 (sumZ x0)).set j x2) := hsB.set hx
  have hsl : ((s4 (sumZ x0)).set j x2).length = 4 := by rw [List.length_set, hs4l]
  have u1 := f12_eqn hB0 (by omega) h1 hT hTl h5 (most := 1000) (by omega) (by decide) (post := (s4 (sumZ x0)).set j x2) hset (by rw [hsl]; omega)
  rw [if_neg (by rw [hsl]; decide), List.take_of_length_le (by rw [hsl]; decide)] at u1
  have es : (packZ B (sumZ x0)).set (B.length + 2 + j) x2 = ([120, 1] ++ B) ++ (s4 (sumZ x0)).set j x2 := by
    unfold packZ
    rw [List.set_append_right _ _ (by rw [pre_len]; omega), pre_len, show B.length + 2 + j - (B.length + 2) = j by omega]
  have w4 : IntKind.wrap .i64 (IntKind.wrap .i64 (((packZ B (sumZ x0)).length : Int) - 4) + (j : Int)) = ((B.length + 2 + j : Nat) : Int) := by
    rw [hpl, wrap_i64 (n := ((B.length + 6 : Nat) : Int) - 4) (by omega), wrap_i64 (by omega)]; omega
  rw [hf, Option.bind_some]
  dsimp only
  rw [if_neg (show ¬ (((0 : Int) != 0) = true) by decide), if_neg (show ¬ (decide (((packZ B (sumZ x0)).length : Int) < 6) = true) by rw [decide_eq_true_eq, hpl]; omega)]
  simp only [w4, Int.toNat_natCast, Nat.zero_add, pack_get, es]
  have hwl : List.take (packZ B (sumZ x0)).length (List.drop 0 ([120, 1] ++ B ++ (s4 (sumZ x0)).set j x2)) = [120, 1] ++ B ++ (s4 (sumZ x0)).set j x2 := by
    rw [List.drop_zero, List.take_of_length_le (by rw [hpl, List.length_append, pre_len, hsl]; omega)]
  rw [if_pos (by omega), if_pos (by rw [hpl]; omega), if_pos (by omega), if_pos (by rw [hpl]; omega), hwl, u1]
  by_cases c : (s4 (sumZ x0)).getD j 0 = x2
  · have e : (s4 (sumZ x0)).set j x2 = s4 (sumZ x0) := by
      rw [← c, List.getD_eq_getElem?_getD, List.getElem?_eq_getElem (by rw [hs4l]; exact hj)]
      exact List.set_getElem_self _
    rw [e, be_s4 hn, if_neg (fun h => h rfl), Option.bind_some, awake_true, Option.bind_some]
    dsimp only
    rw [if_pos rfl, c, show (x2 == x2) = true from beq_self_eq_true x2]
    rfl
  · have hne : be ((s4 (sumZ x0)).set j x2) ≠ sumZ x0 := fun h => by
      have h2 : (s4 (sumZ x0)).set j x2 = s4 (sumZ x0) := be_inj hset hsB (by rw [hsl, hs4l]) (by rw [h, be_s4 hn])
      refine c ?_
      rw [← h2, List.getD_eq_getElem?_getD, List.getElem?_set_self (by rw [hs4l]; exact hj)]
      rfl
    have hb : ((s4 (sumZ x0)).getD j 0 == x2) = false := beq_eq_false_iff_ne.2 c
    rw [if_pos hne, Option.bind_some, awake_true, Option.bind_some]
    dsimp only
    rw [if_pos rfl, hb, if_pos (show (((7 : Int) == 0) == false) = true from rfl), if_neg (by decide)]
    rfl
end Go.Ev.Zlib
