/- Part of a proof about the given program: InflS. -/
import Derived.Test.YtibeakoeoinkjaaInflE
import Derived.Test.YtibeakoeoinkjaaInflRd
namespace Go.Ev.Inflate

/-! # Some numbers -/
def numsR (b : List Int) : List Int → Nat → List Int → Option (List Int) × Nat
  | [], p, out => (some out, p)
  | n :: l, p, out => if p + n.toNat ≤ 8 * b.length then numsR b l (p + n.toNat) (out ++ [((bitsAt b p n.toNat : Nat) : Int)]) else (none, p)
theorem l18_1_spec {b : List Int} (hb : IsB b) (hl : b.length ≤ 100000) {ns : List Int} (hn : ∀ n ∈ ns, 0 ≤ n ∧ n ≤ 24) (hs : ns.length ≤ 100) (A B : Int) (T : List Tok) : ∀ (k i p : Nat) (out : List Int), ns.length < i + k → i ≤ ns.length → p ≤ 8 * b.length → out.length ≤ 1000 + i →
    loopN g18_1 o18_1 b18_1 k (ns, ((ns.length : Nat) : Int), (i : Int), A, B, b, ((ra p : Nat) : Int), ((rw' b p : Nat) : Int), ((rm p : Nat) : Int), T, out, ()) =
      (match numsR b (ns.drop i) p out with
      | (some o, p') => some (.inl (A, B, b, ((ra p' : Nat) : Int), ((rw' b p' : Nat) : Int), ((rm p' : Nat) : Int), T, o, ()))
      | (none, p') => some (.inr (.inl ([], 6, A, B, b, ((ra p' : Nat) : Int), ((rw' b p' : Nat) : Int), ((rm p' : Nat) : Int), T, ())))) := by
  intro k
  induction k with
  | zero => intro i p out h1 h2; omega
  | succ k ih =>
    intro i p out h1 h2 h3 h4
    rw [loopN_succ]
    generalize hL : loopN g18_1 o18_1 b18_1 k = L at ih ⊢
    unfold b18_1
    dsimp only
    rcases Nat.lt_or_ge i ns.length with h | h
    · have hm : ns.getD i 0 ∈ ns := by
        rw [List.getD_eq_getElem?_getD, List.getElem?_eq_getElem h]
        exact List.getElem_mem _
      have hn' := hn _ hm
      rw [drop_getD h 0, if_pos (by rw [decide_eq_true_eq]; omega), if_pos (by omega), if_pos (by omega), Int.toNat_natCast]
      generalize ns.getD i 0 = x at hn' ⊢
      obtain ⟨n, rfl⟩ : ∃ n : Nat, x = (n : Int) := ⟨x.toNat, by omega⟩
      unfold numsR
      rw [Int.toNat_natCast]
      by_cases c : p + n ≤ 8 * b.length
      · rw [if_pos c, f25_eqn hb hl (by omega) c, Option.bind_some]
        dsimp only
        rw [if_neg (by decide), one_set, full, if_pos (by rw [List.length_singleton]; omega), if_pos rfl, if_pos rfl, Option.bind_some, Sum.elim_inl, show IntKind.wrap .i64 ((i : Int) + 1) = ((i + 1 : Nat) : Int) by rw [wrap_i64 (by omega)]; omega]
        exact ih (i + 1) (p + n) _ (by omega) (by omega) c (by rw [List.length_append, List.length_singleton]; omega)
      · rw [if_neg c, f25_more hl h3 (by omega) (by omega), Option.bind_some]
        dsimp only
        rw [if_pos (by decide), if_pos rfl]
        rfl
    · rw [List.drop_of_length_le h, if_neg (by rw [decide_eq_true_eq]; omega), if_pos rfl, if_pos rfl]
      rfl
theorem f18_eqn {b : List Int} (hb : IsB b) (hl : b.length ≤ 100000) {ns : List Int} (hn : ∀ n ∈ ns, 0 ≤ n ∧ n ≤ 24) (hs : ns.length ≤ 100) (A B : Int) (T : List Tok) {p : Nat} (hp : p ≤ 8 * b.length) :
    f18 (ns, A, B, b, ((ra p : Nat) : Int), ((rw' b p : Nat) : Int), ((rm p : Nat) : Int), T, ()) = (match numsR b ns p [] with
      | (some o, p') => some (o, 0, A, B, b, ((ra p' : Nat) : Int), ((rw' b p' : Nat) : Int), ((rm p' : Nat) : Int), T, ())
      | (none, p') => some ([], 6, A, B, b, ((ra p' : Nat) : Int), ((rw' b p' : Nat) : Int), ((rm p' : Nat) : Int), T, ())) := by
  have h := l18_1_spec hb hl hn hs A B T 18446744073709551616 0 p [] (by omega) (by omega) hp (by simp)
  have h' : loopN g18_1 o18_1 b18_1 18446744073709551616 (ns, ((ns.length : Nat) : Int), 0, A, B, b, ((ra p : Nat) : Int), ((rw' b p : Nat) : Int), ((rm p : Nat) : Int), T, [], ()) = _ := h
  unfold f18
  dsimp only
  rw [if_pos rfl, show l18_1 = loopN g18_1 o18_1 b18_1 18446744073709551616 from rfl, h', List.drop_zero]
  generalize numsR b ns p [] = r
  obtain ⟨o, p'⟩ := r
  cases o with
  | none =>
    dsimp only
    rw [Option.bind_some, Sum.elim_inr, Sum.elim_inl, if_pos rfl]
  | some o =>
    dsimp only
    rw [Option.bind_some, Sum.elim_inl, if_pos rfl, full]

/-! # A token more -/
theorem f28_eqn (x : Int) {len : Int} (hlen : len ≤ 1000) (back : Int) {n : Nat} {most : Int} (hn : (n : Int) ≤ most) (hm : most ≤ 1048576) (b' : List Int) (a w m : Int) {T : List Tok} (hT : T.length ≤ n) :
    f28 (x, len, back, (n : Int), most, b', a, w, m, T, ()) =
      if back > (n : Int) then some (4, (n : Int), most, b', a, w, m, T, ()) else if (n : Int) + max len 1 > most then some (2, (n : Int), most, b', a, w, m, T, ())
      else some (0, ((n + max len.toNat 1 : Nat) : Int), most, b', a, w, m, T ++ [(x, len, back)], ()) := by
  unfold f28
  dsimp only
  have w1 : IntKind.wrap .i64 ((n : Int) + max len 1) = (n : Int) + max len 1 := wrap_i64 (by omega)
  rw [w1]
  by_cases c1 : back > (n : Int)
  · rw [if_pos (decide_eq_true c1), if_pos c1, if_pos rfl]
  · rw [if_neg (fun h => c1 (of_decide_eq_true h)), if_neg c1]
    by_cases c2 : (n : Int) + max len 1 > most
    · rw [if_pos (decide_eq_true c2), if_pos c2, if_pos rfl]
    · have e1 : List.take 1 (List.drop 0 (List.set (List.replicate 1 ((0 : Int), (0 : Int), (0 : Int))) 0 (x, len, back))) = [(x, len, back)] := rfl
      rw [if_neg (fun h => c2 (of_decide_eq_true h)), if_neg c2, e1, full, if_pos (by rw [List.length_singleton]; omega), if_pos rfl, show (n : Int) + max len 1 = ((n + max len.toNat 1 : Nat) : Int) by omega]

/-! # A block of bytes -/
def lits (l : List Int) : List Tok := l.map fun x => (x, 0, 0)
theorem l19_1_spec {bs : List Int} (hbs : IsB bs) (hbl : bs.length ≤ 100000) {most : Int} (hm : most ≤ 1048576) (b' : List Int) (a w m : Int) : ∀ (k i n : Nat) (T : List Tok), bs.length < i + k → i ≤ bs.length → ((n + (bs.length - i) : Nat) : Int) ≤ most → T.length ≤ n →
    loopN g19_1 o19_1 b19_1 k (bs, ((bs.length : Nat) : Int), (i : Int), (n : Int), most, b', a, w, m, T, ()) = some (.inl (((n + (bs.length - i) : Nat) : Int), most, b', a, w, m, T ++ lits (bs.drop i), ())) := by
  intro k
  induction k with
  | zero => intro i n T h1 h2; omega
  | succ k ih =>
    intro i n T h1 h2 h3 h4
    rw [loopN_succ]
    generalize hL : loopN g19_1 o19_1 b19_1 k = L at ih ⊢
    unfold b19_1
    dsimp only
    rcases Nat.lt_or_ge i bs.length with h | h
    · have hx := hbs.get i
      rw [drop_getD h 0, if_pos (by rw [decide_eq_true_eq]; omega), if_pos (by omega), if_pos (by omega), Int.toNat_natCast, if_pos rfl]
      generalize bs.getD i 0 = x at hx ⊢
      rw [wrap_i64 (n := x) (by omega), f28_eqn x (by omega) 0 (by omega) hm b' a w m h4, if_neg (by omega), if_neg (by omega), Option.bind_some]
      dsimp only
      rw [if_pos rfl, Option.bind_some, Sum.elim_inl, show IntKind.wrap .i64 ((i : Int) + 1) = ((i + 1 : Nat) : Int) by rw [wrap_i64 (by omega)]; omega]
      rw [ih (i + 1) _ _ (by omega) (by omega) (by omega) (by rw [List.length_append, List.length_singleton]; omega)]
      rw [List.append_assoc, show n + max (Int.toNat 0) 1 + (bs.length - (i + 1)) = n + (bs.length - i) by simp only [Int.toNat_zero]; omega]
      rfl
    · rw [List.drop_of_length_le h, if_neg (by rw [decide_eq_true_eq]; omega), if_pos rfl, show bs.length - i = 0 by omega]
      unfold lits
      rw [List.map_nil, List.append_nil]
      rfl
theorem numsR_two (b : List Int) (p : Nat) {x y : Int} : numsR b [x, y] p [] =
    if p + x.toNat + y.toNat ≤ 8 * b.length then (some [((bitsAt b p x.toNat : Nat) : Int), ((bitsAt b (p + x.toNat) y.toNat : Nat) : Int)], p + x.toNat + y.toNat)
    else (none, if p + x.toNat ≤ 8 * b.length then p + x.toNat else p) := by
  unfold numsR
  by_cases c1 : p + x.toNat ≤ 8 * b.length
  · rw [if_pos c1, if_pos c1]
    unfold numsR
    by_cases c2 : p + x.toNat + y.toNat ≤ 8 * b.length
    · rw [if_pos c2, if_pos c2]
      rfl
    · rw [if_neg c2, if_neg c2]
  · rw [if_neg c1, if_neg c1, if_neg (by omega)]
theorem xor64 {a b : Nat} (ha : a < 18446744073709551616) (hb : b < 18446744073709551616) : (BitVec.ofInt 64 (a : Int) ^^^ BitVec.ofInt 64 (b : Int)).toNat = a ^^^ b := by
  rw [BitVec.toNat_xor, ofInt_toNat ha, ofInt_toNat hb]
/-- What a stored block does: what is told behind it and how many bits were read, or why not. -/
def storedR (b : List Int) (most : Int) (n : Nat) (T : List Tok) (p : Nat) : (Nat × List Tok × Nat) ⊕ Int :=
  if 8 * b.length < 8 * ra p + 32 then .inr 6
  else if bitsAt b (8 * ra p) 16 ^^^ bitsAt b (8 * ra p + 16) 16 ≠ 65535 then .inr 4
  else if b.length < ra p + 4 + bitsAt b (8 * ra p) 16 then .inr 6
  else if ((n + bitsAt b (8 * ra p) 16 : Nat) : Int) > most then .inr 2
  else .inl (n + bitsAt b (8 * ra p) 16, T ++ lits ((b.drop (ra p + 4)).take (bitsAt b (8 * ra p) 16)), 8 * (ra p + 4 + bitsAt b (8 * ra p) 16))
def Ends (b : List Int) (most : Int) (r : (Nat × List Tok × Nat) ⊕ Int) (o : Option go19.D) : Prop :=
  match r with
  | .inl (n, T, p) => o = some (0, (n : Int), most, b, ((ra p : Nat) : Int), ((rw' b p : Nat) : Int), ((rm p : Nat) : Int), T, ())
  | .inr e => e ≠ 0 ∧ ∃ z, o = some (e, z)
theorem f19_eqn {b : List Int} (hb : IsB b) (hl : b.length ≤ 100000) {n : Nat} {most : Int} (hn : (n : Int) ≤ most) (hm : most ≤ 1048576) {T : List Tok} (hT : T.length ≤ n) {p : Nat} (hp : p ≤ 8 * b.length) :
    Ends b most (storedR b most n T p) (f19 ((n : Int), most, b, ((ra p : Nat) : Int), ((rw' b p : Nat) : Int), ((rm p : Nat) : Int), T, ())) := by
  have hq : ra p ≤ b.length := by unfold ra; omega
  have h1 : ra (8 * ra p) = ra p := by unfold ra; omega
  generalize hqe : ra p = q at hq h1
  unfold storedR f19
  rw [hqe]
  dsimp only
  have hA := f26_pos hl hp
  rw [hqe] at hA
  rw [hA, Option.bind_some]
  dsimp only
  rw [if_pos rfl]
  have e1 : List.take 2 (List.drop 0 (List.set (List.set (List.replicate 2 (0 : Int)) 0 16) 1 16)) = [16, 16] := rfl
  rw [e1, f18_eqn hb hl (by intro n hn; rcases List.mem_cons.1 hn with rfl | h; omega; rw [List.mem_singleton] at h; omega) (by decide) _ _ T (show 8 * q ≤ 8 * b.length by omega)]
  rw [numsR_two b (8 * q) (x := 16) (y := 16), show Int.toNat 16 = 16 from rfl]
  by_cases c1 : 8 * b.length < 8 * q + 32
  · rw [if_pos c1, if_neg (show ¬ (8 * q + 16 + 16 ≤ 8 * b.length) by omega)]
    dsimp only
    rw [Option.bind_some]
    dsimp only
    rw [if_pos (by decide), if_pos rfl]
    exact ⟨by decide, _, rfl⟩
  · rw [if_neg c1, if_pos (show 8 * q + 16 + 16 ≤ 8 * b.length by omega)]
    dsimp only
    rw [Option.bind_some]
    dsimp only
    have b1 := bitsAt_lt b (8 * q) 16
    have b2 := bitsAt_lt b (8 * q + 16) 16
    generalize hv0 : bitsAt b (8 * q) 16 = v0 at b1 ⊢
    generalize bitsAt b (8 * q + 16) 16 = v1 at b2 ⊢
    have g0 : ([(v0 : Int), (v1 : Int)] : List Int).getD 0 0 = (v0 : Int) := rfl
    have g1 : ([(v0 : Int), (v1 : Int)] : List Int).getD 1 0 = (v1 : Int) := rfl
    have hx : v0 ^^^ v1 < 2 ^ 16 := Nat.xor_lt_two_pow b1 b2
    rw [if_neg (show ¬ (((0 : Int) != 0) = true) by decide), if_pos (show (0 : Int) < ((List.length [(v0 : Int), (v1 : Int)] : Nat) : Int) by simp), if_pos (show (1 : Int) < ((List.length [(v0 : Int), (v1 : Int)] : Nat) : Int) by simp), g0, g1, xor64 (by omega) (by omega), wrap_i64 (by omega)]
    by_cases c3 : v0 ^^^ v1 = 65535
    · rw [if_neg (show ¬ (v0 ^^^ v1 ≠ 65535) from fun h => h c3), if_neg (show ¬ ((((v0 ^^^ v1 : Nat) : Int) != 65535) = true) by rw [c3]; decide), if_pos (show (0 : Int) < ((List.length [(v0 : Int), (v1 : Int)] : Nat) : Int) by simp)]
      rw [show 8 * q + 16 + 16 = 8 * (q + 4) by omega]
      by_cases c4 : b.length < q + 4 + v0
      · rw [if_pos c4, f27_more hl (by omega) c4 (by omega), Option.bind_some]
        dsimp only
        rw [if_pos (by decide), if_pos rfl]
        exact ⟨by decide, _, rfl⟩
      · have hlen : ((b.drop (q + 4)).take v0).length = v0 := by rw [List.length_take, List.length_drop]; omega
        rw [if_neg c4, f27_eqn hl (by omega), Option.bind_some]
        dsimp only
        rw [if_neg (show ¬ (((0 : Int) != 0) = true) by decide), hlen, wrap_i64 (by omega)]
        by_cases c5 : ((n + v0 : Nat) : Int) > most
        · rw [if_pos c5, if_pos (decide_eq_true (by omega)), if_pos rfl]
          exact ⟨by decide, _, rfl⟩
        · have hr := l19_1_spec (bs := (b.drop (q + 4)).take v0) ((hb.drop _).take _) (by omega) hm b ((ra (8 * (q + 4 + v0)) : Nat) : Int) ((rw' b (8 * (q + 4 + v0)) : Nat) : Int) ((rm (8 * (q + 4 + v0)) : Nat) : Int) 18446744073709551616 0 n T (by omega) (by omega) (by omega) hT
          rw [hlen, Nat.sub_zero, List.drop_zero] at hr
          have hr' : loopN g19_1 o19_1 b19_1 18446744073709551616 ((b.drop (q + 4)).take v0, ((v0 : Nat) : Int), 0, (n : Int), most, b, ((ra (8 * (q + 4 + v0)) : Nat) : Int), ((rw' b (8 * (q + 4 + v0)) : Nat) : Int), ((rm (8 * (q + 4 + v0)) : Nat) : Int), T, ()) = _ := hr
          rw [if_neg c5, if_neg (by rw [decide_eq_true_eq]; omega), if_pos rfl]
          have e3 : List.take v0 (List.drop 0 (List.take v0 (List.drop (q + 4) b))) = List.take v0 (List.drop (q + 4) b) := by rw [List.drop_zero, List.take_take, Nat.min_self]
          rw [e3, show l19_1 = loopN g19_1 o19_1 b19_1 18446744073709551616 from rfl, hr', Option.bind_some, Sum.elim_inl]
          dsimp only
          rw [if_pos rfl]
          rfl
    · rw [if_pos (show _ ≠ _ from c3), if_pos (by rw [bne_iff_ne]; omega), if_pos rfl]
      exact ⟨by decide, _, rfl⟩
end Go.Ev.Inflate
