/- Part of a proof about the given program: InflT. -/
import Derived.Test.YtibeakoeoinkjaaInflS
namespace Go.Ev.Inflate

theorem b11_1_stored {b : List Int} (hb : IsB b) (hl : b.length ≤ 100000) {n : Nat} {most : Int} (hn : (n : Int) ≤ most) (hm : most ≤ 1048576) {T : List Tok} (hT : T.length ≤ n) {p : Nat} (hp : p + 3 ≤ 8 * b.length)
    (hk : bitsAt b (p + 1) 2 = 0) {n' p' : Nat} {T' : List Tok} (hs : storedR b most n T (p + 3) = .inl (n', T', p')) :
    b11_1 (b, (n : Int), most, b, ((ra p : Nat) : Int), ((rw' b p : Nat) : Int), ((rm p : Nat) : Int), T, ()) = if bitsAt b p 1 = 1 then some (.inr (.inr (.inl (b, (n' : Int), most, b, ((ra p' : Nat) : Int), ((rw' b p' : Nat) : Int), ((rm p' : Nat) : Int), T', ())))) else some (.inl (b, (n' : Int), most, b, ((ra p' : Nat) : Int), ((rw' b p' : Nat) : Int), ((rm p' : Nat) : Int), T', ())) := by
  have hst := f19_eqn hb hl hn hm hT (p := p + 3) (by omega)
  rw [hs] at hst
  have hst' : f19 ((n : Int), most, b, ((ra (p + 3) : Nat) : Int), ((rw' b (p + 3) : Nat) : Int), ((rm (p + 3) : Nat) : Int), T, ()) = some (0, (n' : Int), most, b, ((ra p' : Nat) : Int), ((rw' b p' : Nat) : Int), ((rm p' : Nat) : Int), T', ()) := hst
  have e1 : List.take 2 (List.drop 0 (List.set (List.set (List.replicate 2 (0 : Int)) 0 1) 1 2)) = [1, 2] := rfl
  unfold b11_1
  dsimp only
  rw [if_pos rfl, e1, f18_eqn hb hl (by intro n hn; rcases List.mem_cons.1 hn with rfl | h; omega; rw [List.mem_singleton] at h; omega) (by decide) _ _ T (show p ≤ 8 * b.length by omega), numsR_two b p (x := 1) (y := 2), show Int.toNat 1 = 1 from rfl, show Int.toNat 2 = 2 from rfl, if_pos (show p + 1 + 2 ≤ 8 * b.length by omega), hk]
  dsimp only
  rw [Option.bind_some]
  dsimp only
  rw [if_neg (show ¬ (((0 : Int) != 0) = true) by decide), if_pos rfl]
  unfold b11_2
  dsimp only
  generalize hv : bitsAt b p 1 = v
  have g0 : ([(v : Int), ((0 : Nat) : Int)] : List Int).getD 0 0 = (v : Int) := rfl
  have g1 : ([(v : Int), ((0 : Nat) : Int)] : List Int).getD 1 0 = 0 := rfl
  rw [g1, if_pos (show (1 : Int) < ((List.length [(v : Int), ((0 : Nat) : Int)] : Nat) : Int) by simp), if_pos (show ((0 : Int) == 0) = true from rfl), if_pos rfl, show p + 1 + 2 = p + 3 from rfl, hst', Option.bind_some]
  dsimp only
  rw [if_pos rfl, Option.bind_some, Sum.elim_inl]
  dsimp only
  rw [if_neg (show ¬ (((0 : Int) != 0) = true) by decide), g0, if_pos (show (0 : Int) < ((List.length [(v : Int), ((0 : Nat) : Int)] : Nat) : Int) by simp)]
  by_cases c : v = 1
  · rw [if_pos (show ((v : Int) == 1) = true by rw [beq_iff_eq]; omega), if_pos c, if_pos rfl]
  · rw [if_neg (show ¬ ((v : Int) == 1) = true by rw [beq_iff_eq]; omega), if_neg c, if_pos rfl]

/-! # Rows of bytes as blocks -/
def blkB (last : Int) (r : List Int) : List Int := [last, ((r.length % 256 : Nat) : Int), ((r.length / 256 : Nat) : Int), ((255 - r.length % 256 : Nat) : Int), ((255 - r.length / 256 : Nat) : Int)] ++ r
def pack : List (List Int) → List Int
  | [] => []
  | r :: l => blkB (if l = [] then 1 else 0) r ++ pack l
theorem length_blkB (x : Int) (r : List Int) : (blkB x r).length = r.length + 5 := by
  unfold blkB
  rw [List.length_append]
  simp only [List.length_cons, List.length_nil]
  omega
theorem isB_blkB {x : Int} (hx : 0 ≤ x ∧ x < 256) {r : List Int} (hr : IsB r) (hl : r.length ≤ 300) : IsB (blkB x r) := fun y hy => by
  unfold blkB at hy
  rcases List.mem_append.1 hy with h | h
  · simp only [List.mem_cons, List.not_mem_nil, or_false] at h
    omega
  · exact hr y h
theorem isB_pack : ∀ {l : List (List Int)}, (∀ r ∈ l, IsB r ∧ r.length ≤ 300) → IsB (pack l)
  | [], _ => fun _ h => by cases h
  | r :: l, h => by
    unfold pack
    have hr := h r (List.mem_cons_self ..)
    refine (isB_blkB ?_ hr.1 hr.2).append (isB_pack fun s hs => h s (List.mem_cons_of_mem _ hs))
    by_cases c : l = []
    · rw [if_pos c]; omega
    · rw [if_neg c]; omega
theorem length_pack : ∀ {l : List (List Int)}, (∀ r ∈ l, r.length ≤ 300) → (pack l).length ≤ 305 * l.length ∧ l.flatten.length ≤ 300 * l.length
  | [], _ => ⟨Nat.le_refl _, Nat.le_refl _⟩
  | r :: l, h => by
    have hr := h r (List.mem_cons_self ..)
    have ih := length_pack fun s hs => h s (List.mem_cons_of_mem _ hs)
    unfold pack
    rw [List.length_append, length_blkB, List.flatten_cons, List.length_append, List.length_cons]
    omega
theorem valB_five (a c d e f : Int) (l : List Int) : valB ([a, c, d, e, f] ++ l) = a.toNat + 256 * (c.toNat + 256 * (d.toNat + 256 * (e.toNat + 256 * (f.toNat + 256 * valB l)))) := rfl
theorem bitsAt_drop {b : List Int} (hb : IsB b) {q : Nat} (hq : q ≤ b.length) (i n : Nat) : bitsAt b (8 * q + i) n = valB (b.drop q) / 2 ^ i % 2 ^ n := by
  unfold bitsAt
  rw [valB_drop hb hq, pow256, Nat.div_div_eq_div_mul, ← Nat.pow_add]
theorem compl_xor {v : Nat} (h : v < 65536) : v ^^^ (65535 - v) = 65535 := by
  apply Nat.eq_of_testBit_eq
  intro i
  rw [Nat.testBit_xor, show 65535 - v = 2 ^ 16 - (v + 1) by omega, Nat.testBit_two_pow_sub_succ h, show 65535 = 2 ^ 16 - 1 from rfl, Nat.testBit_two_pow_sub_one]
  rcases Nat.lt_or_ge i 16 with hi | hi
  · rw [decide_eq_true hi]; cases v.testBit i <;> rfl
  · rw [decide_eq_false (by omega), Nat.testBit_lt_two_pow (Nat.lt_of_lt_of_le h (Nat.pow_le_pow_right (by omega : 0 < 2) hi))]; rfl
theorem stored_at {pre : List Int} (hpre : IsB pre) {x : Int} (hx : x = 0 ∨ x = 1) {r : List Int} (hr : IsB r) (hrl : r.length ≤ 300) {post : List Int} (hpost : IsB post) {most : Int} (n : Nat) (T : List Tok) (hmost : ((n + r.length : Nat) : Int) ≤ most) :
    8 * pre.length + 3 ≤ 8 * (pre ++ (blkB x r ++ post)).length ∧ bitsAt (pre ++ (blkB x r ++ post)) (8 * pre.length) 1 = x.toNat ∧ bitsAt (pre ++ (blkB x r ++ post)) (8 * pre.length + 1) 2 = 0 ∧
    storedR (pre ++ (blkB x r ++ post)) most n T (8 * pre.length + 3) = .inl (n + r.length, T ++ lits r, 8 * (pre ++ blkB x r).length) := by
  have hb : IsB (pre ++ (blkB x r ++ post)) := hpre.append ((isB_blkB (by omega) hr hrl).append hpost)
  have hdrop : (pre ++ (blkB x r ++ post)).drop pre.length = blkB x r ++ post := List.drop_left
  have hlen : (pre ++ (blkB x r ++ post)).length = pre.length + (r.length + 5 + post.length) := by rw [List.length_append, List.length_append, length_blkB]
  have hval : valB (blkB x r ++ post) = x.toNat + 256 * (r.length % 256 + 256 * (r.length / 256 + 256 * ((255 - r.length % 256) + 256 * ((255 - r.length / 256) + 256 * valB (r ++ post))))) := by
    unfold blkB
    rw [List.append_assoc, valB_five]
    simp only [Int.toNat_natCast]
  generalize hV : valB (r ++ post) = V at hval
  have k0 := bitsAt_drop hb (q := pre.length) (by omega) 0 1
  have k1 := bitsAt_drop hb (q := pre.length) (by omega) 1 2
  have k2 := bitsAt_drop hb (q := pre.length) (by omega) 8 16
  have k3 := bitsAt_drop hb (q := pre.length) (by omega) 24 16
  rw [hdrop, hval] at k0 k1 k2 k3
  rw [show (2 : Nat) ^ 24 = 16777216 from rfl, show (2 : Nat) ^ 16 = 65536 from rfl] at k3
  have hra : ra (8 * pre.length + 3) = pre.length + 1 := by unfold ra; omega
  have j2 : bitsAt (pre ++ (blkB x r ++ post)) (8 * pre.length + 8) 16 = r.length := by rw [k2]; omega
  have j3 : bitsAt (pre ++ (blkB x r ++ post)) (8 * pre.length + 24) 16 = 65535 - r.length := by
    rw [k3]
    have t1 : ∀ a b c W : Nat, a < 256 → b < 256 → c < 256 → (a + 256 * (b + 256 * (c + 256 * W))) / 16777216 = W := by intro a b c W h1 h2 h3; omega
    rw [t1 _ _ _ _ (by omega) (by omega) (by omega)]
    omega
  refine ⟨by omega, ?_, by rw [k1]; omega, ?_⟩
  · rw [Nat.add_zero] at k0; rw [k0]; omega
  · unfold storedR
    rw [hra, show 8 * (pre.length + 1) = 8 * pre.length + 8 by omega, show 8 * pre.length + 8 + 16 = 8 * pre.length + 24 by omega, j2, j3, if_neg (by omega), if_neg (fun h => h (compl_xor (by omega))), if_neg (by omega), if_neg (by omega)]
    have e1 : (pre ++ (blkB x r ++ post)).drop (pre.length + 1 + 4) = r ++ post := by
      rw [show pre.length + 1 + 4 = pre.length + 5 from rfl, ← List.drop_drop, hdrop]
      rfl
    rw [e1, List.take_left, List.length_append, length_blkB, show pre.length + 1 + 4 + r.length = pre.length + (r.length + 5) by omega]
theorem l11_1_stored {most : Int} (hm : most ≤ 1048576) {b : List Int} (hb : IsB b) (hbl : b.length ≤ 100000) : ∀ (l : List (List Int)) (k n : Nat) (pre : List Int) (T : List Tok), l ≠ [] → l.length < k → b = pre ++ pack l → IsB pre → (∀ r ∈ l, IsB r ∧ r.length ≤ 300) → ((n + l.flatten.length : Nat) : Int) ≤ most → T.length ≤ n →
    loopN g11_1 o11_1 b11_1 k (b, (n : Int), most, b, ((ra (8 * pre.length) : Nat) : Int), ((rw' b (8 * pre.length) : Nat) : Int), ((rm (8 * pre.length) : Nat) : Int), T, ()) = some (.inr (.inl (b, ((n + l.flatten.length : Nat) : Int), most, b, ((ra (8 * b.length) : Nat) : Int), ((rw' b (8 * b.length) : Nat) : Int), ((rm (8 * b.length) : Nat) : Int), T ++ lits l.flatten, ()))) := by
  intro l
  induction l with
  | nil => intro k n pre T h; exact absurd rfl h
  | cons r l ih =>
    intro k n pre T _ hk hbe hpre hall hmost hT
    obtain ⟨k, rfl⟩ : ∃ j, k = j + 1 := ⟨k - 1, by omega⟩
    rw [loopN_succ]
    generalize hL : loopN g11_1 o11_1 b11_1 k = L at ih ⊢
    have hr := hall r (List.mem_cons_self ..)
    have hpost : IsB (pack l) := isB_pack fun s hs => hall s (List.mem_cons_of_mem _ hs)
    have hfl : (r :: l).flatten.length = r.length + l.flatten.length := by rw [List.flatten_cons, List.length_append]
    have hpk : pack (r :: l) = blkB (if l = [] then 1 else 0) r ++ pack l := rfl
    rw [hpk] at hbe
    have hx : (if l = [] then (1 : Int) else 0) = 0 ∨ (if l = [] then (1 : Int) else 0) = 1 := by
      by_cases c : l = []
      · rw [if_pos c]; exact .inr rfl
      · rw [if_neg c]; exact .inl rfl
    obtain ⟨s1, s2, s3, s4⟩ := stored_at hpre hx hr.1 hr.2 hpost (most := most) n T (by omega)
    rw [← hbe] at s1 s2 s3 s4
    have hn : (n : Int) ≤ most := by omega
    rw [b11_1_stored hb hbl hn hm hT s1 s3 s4, s2]
    by_cases c : l = []
    · subst c
      rw [if_pos rfl, if_pos (show Int.toNat 1 = 1 from rfl)]
      have hp0 : pack ([] : List (List Int)) = [] := rfl
      have hb' : b = pre ++ blkB 1 r := by rw [hbe, hp0, List.append_nil, if_pos rfl]
      have hfl' : ([r] : List (List Int)).flatten = r := by rw [List.flatten_cons, List.flatten_nil, List.append_nil]
      rw [← hb', hfl']
      rfl
    · rw [if_neg c, if_neg (by decide), Option.bind_some, Sum.elim_inl]
      have hnn : ((n + r.length + l.flatten.length : Nat) : Int) ≤ most := by omega
      have hI := ih k (n + r.length) (pre ++ blkB 0 r) (T ++ lits r) c (by rw [List.length_cons] at hk; omega) (by rw [hbe, if_neg c, List.append_assoc]) (hpre.append (isB_blkB (by omega) hr.1 hr.2)) (fun s hs => hall s (List.mem_cons_of_mem _ hs)) hnn (by rw [List.length_append]; unfold lits; rw [List.length_map]; omega)
      rw [hL] at hI
      rw [hI, hfl, Nat.add_assoc, List.append_assoc]
      unfold lits
      rw [← List.map_append, List.flatten_cons]
theorem exp_lits (most : Int) : ∀ (l out : List Int), ((out.length + l.length : Nat) : Int) ≤ most → exp most (lits l) out = .inl (out ++ l)
  | [], out, _ => by rw [List.append_nil]; rfl
  | x :: l, out, h => by
    rw [List.length_cons] at h
    have hst : exp most (lits (x :: l)) out = if (0 : Int) > ((out.length : Nat) : Int) then .inr 4 else if ((out.length : Nat) : Int) + max 0 1 > most then .inr 2 else exp most (lits l) (out ++ [x]) := rfl
    rw [hst, if_neg (by omega), if_neg (by omega), exp_lits most l _ (by rw [List.length_append, List.length_singleton]; omega), List.append_assoc]
    rfl
theorem isT_lits {l : List Int} (h : IsB l) : (lits l).all isT = true := by
  rw [List.all_eq_true]
  intro t ht
  unfold lits at ht
  obtain ⟨x, hx, rfl⟩ := List.mem_map.1 ht
  have := h x hx
  rw [isT_iff]
  exact .inl ⟨rfl, rfl, by dsimp only; omega, by dsimp only; omega⟩
theorem isB_flatten {l : List (List Int)} (h : ∀ r ∈ l, IsB r ∧ r.length ≤ 300) : IsB l.flatten := fun x hx => by
  obtain ⟨r, hr, hxr⟩ := List.mem_flatten.1 hx
  exact (h r hr).1 x hxr
theorem f17_pos {b : List Int} (hl : b.length ≤ 100000) : f17 (b, ()) = some (b, ((ra 0 : Nat) : Int), ((rw' b 0 : Nat) : Int), ((rm 0 : Nat) : Int), ()) := by
  rw [f17_eqn (by omega)]
  have e1 : ra 0 = 0 := rfl
  have e2 : rm 0 = 0 := rfl
  have e3 : rw' b 0 = 0 := by unfold rw'; rw [e2, Nat.pow_zero, Nat.mod_one]
  rw [e1, e2, e3]
  rfl
/-- What Tokens answers when its blocks end. -/
theorem f11_ends {b : List Int} (hl : b.length ≤ 100000) {most : Int} (h0 : 0 ≤ most) (hm : most ≤ 1048576) {n : Int} {T : List Tok} {p : Nat} (hp : p ≤ 8 * b.length)
    (h : loopN g11_1 o11_1 b11_1 18446744073709551616 (b, 0, most, b, ((ra 0 : Nat) : Int), ((rw' b 0 : Nat) : Int), ((rm 0 : Nat) : Int), [], ()) = some (.inr (.inl (b, n, most, b, ((ra p : Nat) : Int), ((rw' b p : Nat) : Int), ((rm p : Nat) : Int), T, ())))) :
    f11 (b, most, ()) = some (T, (((p + 7) / 8 : Nat) : Int), 0, ()) := by
  unfold f11
  dsimp only
  rw [if_neg (by rw [decide_eq_true_eq]; omega), if_neg (by rw [decide_eq_true_eq]; omega), f17_pos hl, Option.bind_some]
  dsimp only
  rw [show l11_1 = loopN g11_1 o11_1 b11_1 18446744073709551616 from rfl, h, Option.bind_some, Sum.elim_inr, Sum.elim_inl]
  dsimp only
  rw [f25_left hl hp, Option.bind_some]
  dsimp only
  rw [show Int.tdiv ((8 * b.length - p : Nat) : Int) 8 = (((8 * b.length - p) / 8 : Nat) : Int) from rfl, wrap_i64 (n := (((8 * b.length - p) / 8 : Nat) : Int)) (by omega), wrap_i64 (by omega), full]
  refine congrArg (fun q => some (T, q, (0 : Int), ())) ?_
  omega
theorem f10_stored {l : List (List Int)} (hne : l ≠ []) (hall : ∀ r ∈ l, IsB r ∧ r.length ≤ 300) (hlen : l.length ≤ 20) : f10 (pack l, 6000, ()) = some (l.flatten, (((pack l).length : Nat) : Int), 0, ()) := by
  obtain ⟨h1, h2⟩ := length_pack (l := l) fun r hr => (hall r hr).2
  have hb := isB_pack hall
  have hr := l11_1_stored (most := 6000) (by omega) hb (by omega) l 18446744073709551616 0 [] [] hne (by omega) rfl (fun _ h => by cases h) hall (by omega) (Nat.le_refl _)
  have hT := f11_ends (b := pack l) (by omega) (most := 6000) (by omega) (by omega) (p := 8 * (pack l).length) (by omega) hr
  rw [List.nil_append] at hT
  unfold f10
  dsimp only
  rw [hT, Option.bind_some]
  dsimp only
  rw [if_neg (by decide), f7_eqn (by unfold lits; rw [List.length_map]; omega)]
  unfold expd
  rw [if_neg (by rw [isT_lits (isB_flatten hall)]; rintro (h | h | h) <;> first | omega | cases h), exp_lits 6000 l.flatten [] (by rw [List.length_nil]; omega)]
  rw [Option.bind_some]
  dsimp only
  rw [List.nil_append, show (8 * (pack l).length + 7) / 8 = (pack l).length by omega]
theorem f10_empty : f10 ([], 6000, ()) = some ([], 0, 6, ()) := by
  have h1 : b11_1 ([], 0, 6000, [], ((ra 0 : Nat) : Int), ((rw' [] 0 : Nat) : Int), ((rm 0 : Nat) : Int), [], ()) = some (.inr (.inl ([], 0, 6, ()))) := by
    have e1 : List.take 2 (List.drop 0 (List.set (List.set (List.replicate 2 (0 : Int)) 0 1) 1 2)) = [1, 2] := rfl
    unfold b11_1
    dsimp only
    rw [if_pos rfl, e1, f18_eqn (b := []) (fun _ h => by cases h) (by decide) (by intro n hn; rcases List.mem_cons.1 hn with rfl | h; omega; rw [List.mem_singleton] at h; omega) (by decide) _ _ [] (Nat.le_refl 0), numsR_two [] 0 (x := 1) (y := 2), if_neg (by decide)]
    rfl
  have h2 : loopN g11_1 o11_1 b11_1 18446744073709551616 ([], 0, 6000, [], ((ra 0 : Nat) : Int), ((rw' [] 0 : Nat) : Int), ((rm 0 : Nat) : Int), [], ()) = some (.inl ([], 0, 6, ())) := by
    rw [show 18446744073709551616 = 18446744073709551615 + 1 from rfl, loopN_succ, h1]
    rfl
  unfold f10 f11
  dsimp only
  rw [if_neg (by decide), if_neg (by decide), f17_pos (b := []) (by decide), Option.bind_some]
  dsimp only
  rw [show l11_1 = loopN g11_1 o11_1 b11_1 18446744073709551616 from rfl, h2, Option.bind_some, Sum.elim_inl, Option.bind_some]
  rfl

/-! # The statement -/
theorem b5_2_eqn (x1 : List (List Int)) {i : Nat} (h : i < x1.length) (hl : x1.length ≤ 20) (n : Int) (B W : List Int) :
    b5_2 (x1, (i : Int), n, 0, B, W, ()) = some (.inl (x1, (i : Int), n, (if x1.drop (i + 1) = [] then 1 else 0), B, W, ())) := by
  unfold b5_2
  dsimp only
  rw [wrap_i64 (n := ((x1.length : Nat) : Int) - 1) (by omega)]
  by_cases c : i + 1 = x1.length
  · rw [if_pos (show ((i : Int) == ((x1.length : Nat) : Int) - 1) = true by rw [beq_iff_eq]; omega), if_pos rfl, if_pos rfl, if_pos (List.drop_of_length_le (by omega))]
  · rw [if_neg (show ¬ ((i : Int) == ((x1.length : Nat) : Int) - 1) = true by rw [beq_iff_eq]; omega), if_pos rfl, if_pos rfl, if_neg (fun e => by have := congrArg List.length e; rw [List.length_drop, List.length_nil] at this; omega)]
theorem hd_eq {r : List Int} (hr : r.length ≤ 300) (x : Int) :
    List.take 5 (List.drop 0 (List.set (List.set (List.set (List.set (List.set (List.replicate 5 (0 : Int)) 0 x) 1 (IntKind.wrap .u8 (Int.tmod ((r.length : Nat) : Int) 256))) 2 (IntKind.wrap .u8 (IntKind.wrap .i64 (Int.tdiv ((r.length : Nat) : Int) 256)))) 3 (IntKind.wrap .u8 (IntKind.wrap .i64 (255 - (Int.tmod ((r.length : Nat) : Int) 256))))) 4 (IntKind.wrap .u8 (IntKind.wrap .i64 (255 - (IntKind.wrap .i64 (Int.tdiv ((r.length : Nat) : Int) 256)))))))
      = [x, ((r.length % 256 : Nat) : Int), ((r.length / 256 : Nat) : Int), ((255 - r.length % 256 : Nat) : Int), ((255 - r.length / 256 : Nat) : Int)] := by
  have e1 : Int.tmod ((r.length : Nat) : Int) 256 = ((r.length % 256 : Nat) : Int) := rfl
  have e2 : Int.tdiv ((r.length : Nat) : Int) 256 = ((r.length / 256 : Nat) : Int) := rfl
  rw [e1, e2, wrap_i64 (n := ((r.length / 256 : Nat) : Int)) (by omega), wrap_i64 (n := 255 - ((r.length % 256 : Nat) : Int)) (by omega), wrap_i64 (n := 255 - ((r.length / 256 : Nat) : Int)) (by omega), wrap_u8, wrap_u8, wrap_u8, wrap_u8]
  have d1 : ((r.length % 256 : Nat) : Int) % 256 = ((r.length % 256 : Nat) : Int) := by omega
  have d2 : ((r.length / 256 : Nat) : Int) % 256 = ((r.length / 256 : Nat) : Int) := by omega
  have d3 : (255 - ((r.length % 256 : Nat) : Int)) % 256 = ((255 - r.length % 256 : Nat) : Int) := by omega
  have d4 : (255 - ((r.length / 256 : Nat) : Int)) % 256 = ((255 - r.length / 256 : Nat) : Int) := by omega
  rw [d1, d2, d3, d4]
  rfl
theorem l5_1_spec {x1 : List (List Int)} (hl : x1.length ≤ 20) : ∀ (k i : Nat) (B W : List Int), x1.length < i + k → i ≤ x1.length → B.length ≤ 305 * i → W.length ≤ 300 * i →
    (loopN g5_1 o5_1 b5_1 k (x1, (i : Int), B, W, ()) = some (.inr (.inl (true, ())))) ∨
    ((∀ r ∈ x1.drop i, r.length ≤ 300) ∧ loopN g5_1 o5_1 b5_1 k (x1, (i : Int), B, W, ()) = some (.inl (x1, B ++ pack (x1.drop i), W ++ (x1.drop i).flatten, ()))) := by
  intro k
  induction k with
  | zero => intro i B W h1 h2; omega
  | succ k ih =>
    intro i B W h1 h2 h3 h4
    rw [loopN_succ]
    generalize hL : loopN g5_1 o5_1 b5_1 k = L at ih ⊢
    unfold b5_1
    dsimp only
    rcases Nat.lt_or_ge i x1.length with h | h
    · rw [drop_getD h [], if_pos (by rw [decide_eq_true_eq]; omega), if_pos (by omega), if_pos (by omega), Int.toNat_natCast]
      by_cases c : 300 < (x1.getD i []).length
      · rw [if_pos (by rw [decide_eq_true_eq]; omega)]
        exact .inl rfl
      · rw [if_neg (by rw [decide_eq_true_eq]; omega), if_pos rfl, if_pos rfl, b5_2_eqn x1 h hl, Option.bind_some, Sum.elim_inl]
        dsimp only
        rw [hd_eq (r := x1.getD i []) (by omega), Int.toNat_natCast]
        generalize hg : x1.getD i [] = r at c ⊢
        have hbl : ∀ x : Int, (B ++ [x, ((r.length % 256 : Nat) : Int), ((r.length / 256 : Nat) : Int), ((255 - r.length % 256 : Nat) : Int), ((255 - r.length / 256 : Nat) : Int)]) ++ r = B ++ blkB x r := fun x => by rw [List.append_assoc]; rfl
        rw [full, full, full, hbl]
        have hlen5 : ∀ x : Int, (B ++ [x, ((r.length % 256 : Nat) : Int), ((r.length / 256 : Nat) : Int), ((255 - r.length % 256 : Nat) : Int), ((255 - r.length / 256 : Nat) : Int)]).length = B.length + 5 := fun x => by rw [List.length_append]; rfl
        have hlen5' : ∀ x : Int, ([x, ((r.length % 256 : Nat) : Int), ((r.length / 256 : Nat) : Int), ((255 - r.length % 256 : Nat) : Int), ((255 - r.length / 256 : Nat) : Int)]).length = 5 := fun x => rfl
        rw [hlen5, hlen5', if_pos (by omega), if_pos (by omega), if_pos (by omega), if_pos (by omega), if_pos (by omega), if_pos (by omega), if_pos (by omega), if_pos rfl, if_pos rfl, Option.bind_some, Sum.elim_inl, show IntKind.wrap .i64 ((i : Int) + 1) = ((i + 1 : Nat) : Int) by rw [wrap_i64 (by omega)]; omega]
        rcases ih (i + 1) (B ++ blkB (if x1.drop (i + 1) = [] then 1 else 0) r) (W ++ r) (by omega) (by omega) (by rw [List.length_append, length_blkB]; omega) (by rw [List.length_append]; omega) with hI | ⟨hI1, hI2⟩
        · exact .inl hI
        · refine .inr ⟨fun s hs => ?_, ?_⟩
          · rcases List.mem_cons.1 hs with rfl | hs
            · omega
            · exact hI1 s hs
          · rw [hI2, List.append_assoc, List.append_assoc, List.flatten_cons]
            rfl
    · rw [List.drop_of_length_le h, if_neg (by rw [decide_eq_true_eq]; omega), if_pos rfl, if_pos rfl]
      refine .inr ⟨fun r hr => (by cases hr), ?_⟩
      have hp0 : pack ([] : List (List Int)) = [] := rfl
      rw [hp0, List.flatten_nil, List.append_nil, List.append_nil]
      rfl
theorem inflateStored_pure {x1 : List (List Int)} (hB : ∀ r ∈ x1, IsB r) : f5 (x1, ()) = some (true, ()) := by
  unfold f5
  dsimp only
  by_cases c : 20 < x1.length
  · rw [if_pos (by rw [decide_eq_true_eq]; omega)]
  · rw [if_neg (by rw [decide_eq_true_eq]; omega), show l5_1 = loopN g5_1 o5_1 b5_1 18446744073709551616 from rfl]
    rcases l5_1_spec (x1 := x1) (by omega) 18446744073709551616 0 [] [] (by omega) (by omega) (by simp) (by simp) with h | ⟨h1, h⟩
    · have h' : loopN g5_1 o5_1 b5_1 18446744073709551616 (x1, 0, [], [], ()) = _ := h
      rw [h', Option.bind_some, Sum.elim_inr, Sum.elim_inl]
    · have h' : loopN g5_1 o5_1 b5_1 18446744073709551616 (x1, 0, [], [], ()) = _ := h
      rw [h', Option.bind_some, Sum.elim_inl, List.drop_zero, List.nil_append, List.nil_append]
      dsimp only
      rw [List.drop_zero] at h1
      rw [full, full]
      by_cases e : x1 = []
      · subst e
        have hp0 : pack ([] : List (List Int)) = [] := rfl
        rw [hp0, f10_empty, Option.bind_some, awake_true]
        rfl
      · rw [f10_stored e (fun r hr => ⟨hB r hr, h1 r hr⟩) (by omega), Option.bind_some, if_neg (show ¬ ((((x1.length : Nat) : Int) == 0) = true) from fun h => e (List.eq_nil_of_length_eq_zero (by rw [beq_iff_eq] at h; omega))), awake_true, Option.bind_some, if_pos rfl]
        dsimp only
        rw [if_pos (by rfl), if_pos (beq_self_eq_true _), beq_self_eq_true]
end Go.Ev.Inflate
