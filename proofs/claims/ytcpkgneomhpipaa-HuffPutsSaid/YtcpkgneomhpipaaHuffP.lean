/- Part of a proof about the given program: HuffP. -/
import Derived.Test.YtcpkgneomhpipaaHuffW
import Derived.Test.YtcpkgneomhpipaaHuffRg
namespace Go.Ev.Huff

/-! # A writer is told by the bits that were put -/
structure Wr (bits : List Bool) (w m : Nat) (bs : List Int) : Prop where
  hm : m < 8
  hw : w < 2 ^ m
  hb : IsB bs
  len : 8 * bs.length + m = bits.length
  num : V bs w = nb bits
theorem Wr.nil : Wr [] 0 0 [] := ⟨by decide, by decide, (fun _ h => by cases h), rfl, rfl⟩
theorem Wr.put {bits : List Bool} {w m : Nat} {bs : List Int} (h : Wr bits w m bs) (hl : bits.length ≤ 700000) {n v : Nat} (hn : n ≤ 24) (hv : v < 2 ^ n) :
    ∃ (w' m' : Nat) (bs' : List Int), f32 ((v : Int), (n : Int), (w : Int), (m : Int), bs, ()) = some (0, (w' : Int), (m' : Int), bs', ()) ∧ Wr (bits ++ bitsN v n) w' m' bs' := by
  have hlen := h.len
  obtain ⟨w', m', bs', h1, h2, h3, h4, h5, h6⟩ := f10_good hn hv h.hm h.hw h.hb (by omega)
  refine ⟨w', m', bs', h1, h2, h3, h4, ?_, ?_⟩
  · rw [List.length_append, bitsN_length]; omega
  · rw [h6, h.num, hlen, nb_append, nb_bitsN, Nat.mod_eq_of_lt hv, Nat.mul_comm]
theorem Wr.put1 {bits : List Bool} {w m : Nat} {bs : List Int} (h : Wr bits w m bs) (hl : bits.length ≤ 700000) {v : Nat} (hv : v < 2) :
    ∃ (w' m' : Nat) (bs' : List Int), f32 ((v : Int), 1, (w : Int), (m : Int), bs, ()) = some (0, (w' : Int), (m' : Int), bs', ()) ∧ Wr (bits ++ [decide (v = 1)]) w' m' bs' := by
  obtain ⟨w', m', bs', h1, h2⟩ := h.put hl (n := 1) (v := v) (by omega) hv
  refine ⟨w', m', bs', h1, ?_⟩
  have e : bitsN v 1 = [decide (v = 1)] := by
    have : bitsN v 1 = [decide (v % 2 = 1)] := rfl
    rw [this, Nat.mod_eq_of_lt hv]
  rw [e] at h2
  exact h2
theorem Wr.bytes {bits : List Bool} {w m : Nat} {bs : List Int} (h : Wr bits w m bs) (hl : bits.length ≤ 700000) :
    ∃ B : List Int, f20 ((w : Int), (m : Int), bs, ()) = some ((w : Int), (m : Int), bs, B, ()) ∧ IsB B ∧ B.length = (bits.length + 7) / 8 ∧ valB B = nb bits := by
  have hlen := h.len
  obtain ⟨h1, h2, h3⟩ := outB_spec h.hm h.hw h.hb
  exact ⟨outB w m bs, f20_eqn (by omega), h1, by rw [h3, hlen], by rw [h2, h.num]⟩

/-! # A word's bits, the highest one first -/
def wb : Nat → Nat → List Bool
  | _, 0 => []
  | c, n + 1 => wb (c / 2) n ++ [decide (c % 2 = 1)]
theorem wb_length : ∀ (n c : Nat), (wb c n).length = n
  | 0, c => rfl
  | n + 1, c => by rw [wb, List.length_append, wb_length n, List.length_singleton]
theorem wb_grow (c : Nat) {n k : Nat} (h : k < n) : wb (c / 2 ^ (n - (k + 1))) (k + 1) = wb (c / 2 ^ (n - k)) k ++ [decide (c / 2 ^ (n - (k + 1)) % 2 = 1)] := by
  rw [wb, Nat.div_div_eq_div_mul, ← Nat.pow_succ, show (n - (k + 1)).succ = n - k by omega]
theorem l18_1_spec : ∀ (k n c : Nat) (suf : List Bool), n < k → n ≤ 15 → c < 1000000000 → n + suf.length ≤ 100 →
    loopN g18_1 o18_1 b18_1 k ((c : Int), (n : Int) - 1, List.replicate n false ++ suf, ()) = some (.inl (wb c n ++ suf, ())) := by
  intro k
  induction k with
  | zero => intro n c suf h; omega
  | succ k ih =>
    intro n c suf h1 h2 h3 h4
    rw [loopN_succ]
    generalize hL : loopN g18_1 o18_1 b18_1 k = L at ih ⊢
    unfold b18_1
    dsimp only
    cases n with
    | zero => rw [if_neg (by rw [decide_eq_true_eq]; omega), if_pos rfl]; rfl
    | succ n =>
      have e : (((n + 1 : Nat) : Int) - 1) = (n : Int) := by omega
      have hs : (List.replicate (n + 1) false ++ suf).set n (decide (c % 2 = 1)) = List.replicate n false ++ (decide (c % 2 = 1) :: suf) := by
        rw [List.replicate_succ', List.append_assoc, List.set_append_right _ _ (by rw [List.length_replicate]; omega), List.length_replicate, Nat.sub_self]
        rfl
      rw [e, if_pos (by rw [decide_eq_true_eq]; omega), if_pos (by omega), if_pos (by rw [List.length_append, List.length_replicate]; omega), if_pos (by rw [List.length_set]), Int.toNat_natCast, Nat.zero_add, tmod2, tdiv2 (by omega), hs, Option.bind_some, Sum.elim_inl, wrap_i64 (n := (n : Int) - 1) (by omega), ih n (c / 2) _ (by omega) (by omega) (by omega) (by rw [List.length_cons]; omega), wb, List.append_assoc]
      rfl
/-- The bits that are put for a sign. -/
def word (l : List Int) (s : Int) : List Bool := if 0 ≤ s ∧ s < ((l.length : Nat) : Int) then wb (code l s.toNat).toNat (l.getD s.toNat 0).toNat else []
theorem code_lim {l : List Int} (hl : l.length ≤ 320) (hk : Ok l) (s : Nat) : 0 ≤ code l s ∧ code l s ≤ 20000000 := by
  have h := hk.get s
  unfold code
  by_cases c : 0 < l.getD s 0
  · rw [if_pos c]
    have h1 := base_lim hl (n := (l.getD s 0).toNat) (by omega)
    have h2 := cnt_le (l.take s) (l.getD s 0).toNat
    have h3 : (l.take s).length ≤ l.length := by rw [List.length_take]; omega
    omega
  · rw [if_neg c]; omega
theorem word_length_le {l : List Int} (hk : Ok l) (s : Int) : (word l s).length ≤ 15 := by
  unfold word
  by_cases c : 0 ≤ s ∧ s < ((l.length : Nat) : Int)
  · rw [if_pos c, wb_length]
    have h := hk.get s.toNat
    omega
  · rw [if_neg c]; exact Nat.zero_le _
theorem f18_eqn {l : List Int} (he : err l = 0) (s : Int) : f18 (l, s, ()) = some (word l s, ()) := by
  obtain ⟨hl, hk, _⟩ := err_ok he
  unfold f18 word
  dsimp only
  by_cases c1 : s < 0
  · rw [if_pos (decide_eq_true c1), if_neg (by omega)]
  · rw [if_neg (fun h => c1 (of_decide_eq_true h))]
    by_cases c2 : s ≥ ((l.length : Nat) : Int)
    · rw [if_pos (decide_eq_true c2), if_neg (by omega)]
    · rw [if_neg (fun h => c2 (of_decide_eq_true h)), if_pos (by omega), if_pos (by omega), if_pos (show 0 ≤ s ∧ s < ((l.length : Nat) : Int) by omega)]
      have h := hk.get s.toNat
      have hcl : (codes l).length = l.length := tab_length ..
      have hcg : (codes l).getD (0 + s.toNat) 0 = code l s.toNat := by rw [Nat.zero_add]; exact tab_get (by omega) _
      have hc := code_lim hl hk s.toNat
      rw [f10_eqn, if_pos he]
      generalize hx : l.getD s.toNat 0 = x at h ⊢
      obtain ⟨n, rfl⟩ : ∃ n : Nat, x = (n : Int) := ⟨x.toNat, by omega⟩
      by_cases c3 : n = 0
      · subst c3
        rw [if_pos (by rfl)]
        rfl
      · have w1 : IntKind.wrap .i64 ((n : Int) - 1) = (n : Int) - 1 := wrap_i64 (by omega)
        have w2 : (code l s.toNat) = (((code l s.toNat).toNat : Nat) : Int) := by omega
        have hr := l18_1_spec 18446744073709551616 n (code l s.toNat).toNat [] (by omega) (by omega) (by omega) (by rw [List.length_nil]; omega)
        rw [List.append_nil, List.append_nil] at hr
        rw [if_neg (show ¬ ((((n : Int)) == 0) = true) by rw [beq_iff_eq]; omega), Option.bind_some]
        dsimp only
        rw [if_pos (by omega), if_pos (by omega), if_pos (by omega), if_pos (show (n : Int) ≤ (n : Int) from Int.le_refl _), if_pos (show (n : Int) ≤ 281474976710656 by omega), if_pos (by omega), if_pos (by omega), if_pos (by omega), if_pos (by omega), Int.toNat_natCast, if_pos (by rw [List.length_replicate]), hcg, w1, w2, show l18_1 = loopN g18_1 o18_1 b18_1 18446744073709551616 from rfl, hr, Option.bind_some, Sum.elim_inl]
        dsimp only
        rw [if_pos rfl, Int.toNat_natCast]
theorem f31_eqn {l : List Int} (hl : l.length ≤ 320) (hk : Ok l) {s : Nat} (hs : s < l.length) {n k : Nat} (hx : l.getD s 0 = (n : Int)) (hkn : k < n) (x2 x5 : List Int) :
    f31 ((k : Int), x2, l, codes l, x5, (s : Int), ()) = some ((((code l s).toNat / 2 ^ (n - (k + 1)) % 2 : Nat) : Int), x2, l, codes l, x5, (s : Int), ()) := by
  have hcl : (codes l).length = l.length := tab_length ..
  have hcg : (codes l).getD s 0 = code l s := tab_get hs _
  have hc := code_lim hl hk s
  have hn := hk.get s
  rw [hx] at hn
  have w2 : (code l s) = (((code l s).toNat : Nat) : Int) := by omega
  unfold f31
  dsimp only
  have w1 : IntKind.wrap .i64 (IntKind.wrap .i64 ((n : Int) - 1) - (k : Int)) = ((n - (k + 1) : Nat) : Int) := by rw [wrap_i64 (n := (n : Int) - 1) (by omega), wrap_i64 (by omega)]; omega
  rw [if_pos (by omega), if_pos (by omega), if_pos (by omega), if_pos (by omega), Int.toNat_natCast, hx, hcg, w1, if_neg (by omega), if_pos rfl, minN (by omega), w2, fdiv_pow, Int.toNat_natCast]
  generalize hv : (code l s).toNat / 2 ^ (n - (k + 1)) = v
  have hvl : v ≤ 20000000 := by
    rw [← hv]
    exact Nat.le_trans (Nat.div_le_self _ _) (by omega)
  have e : (BitVec.ofInt 64 (v : Int) &&& BitVec.ofInt 64 1).toNat = v % 2 := by
    rw [show (1 : Int) = ((1 : Nat) : Int) from rfl, and64 (by omega) (by omega), Nat.and_one_is_mod]
  rw [e, wrap_i64 (by omega)]
theorem l19_1_spec {l : List Int} (hl : l.length ≤ 320) (hk : Ok l) {s : Nat} (hs : s < l.length) {n : Nat} (hx : l.getD s 0 = (n : Int)) (x2 x5 : List Int) {bits : List Bool} (hbl : bits.length ≤ 100000) : ∀ (j k w m : Nat) (bs : List Int), n < k + j → k ≤ n → Wr (bits ++ wb ((code l s).toNat / 2 ^ (n - k)) k) w m bs →
    ∃ (w' m' : Nat) (bs' : List Int), loopN g19_1 o19_1 b19_1 j ((n : Int), (k : Int), x2, l, codes l, x5, (w : Int), (m : Int), (s : Int), bs, ()) = some (.inl (x2, l, codes l, x5, (w' : Int), (m' : Int), bs', ())) ∧ Wr (bits ++ wb (code l s).toNat n) w' m' bs' := by
  have hn := hk.get s
  rw [hx] at hn
  intro j
  induction j with
  | zero => intro k w m bs h1 h2; omega
  | succ j ih =>
    intro k w m bs h1 h2 h3
    rw [loopN_succ]
    generalize hL : loopN g19_1 o19_1 b19_1 j = L at ih ⊢
    unfold b19_1
    dsimp only
    rcases Nat.lt_or_ge k n with h | h
    · obtain ⟨w', m', bs', p1, p2⟩ := h3.put1 (v := (code l s).toNat / 2 ^ (n - (k + 1)) % 2) (by rw [List.length_append, wb_length]; omega) (Nat.mod_lt _ (by decide))
      rw [List.append_assoc, ← wb_grow _ h] at p2
      rw [if_pos (by rw [decide_eq_true_eq]; omega), if_pos rfl, f31_eqn hl hk hs hx h, Option.bind_some]
      dsimp only
      rw [if_pos rfl, p1, Option.bind_some]
      dsimp only
      rw [if_neg (by decide), if_pos rfl, if_pos rfl, Option.bind_some, Sum.elim_inl, show IntKind.wrap .i64 ((k : Int) + 1) = ((k + 1 : Nat) : Int) by rw [wrap_i64 (by omega)]; omega]
      exact ih (k + 1) w' m' bs' (by omega) (by omega) p2
    · have e : k = n := by omega
      subst e
      rw [Nat.sub_self, Nat.pow_zero, Nat.div_one] at h3
      rw [if_neg (by rw [decide_eq_true_eq]; omega), if_pos rfl, if_pos rfl]
      exact ⟨w, m, bs, rfl, h3⟩
theorem f19_eqn {l : List Int} (hl : l.length ≤ 320) (hk : Ok l) (s : Int) (x2 x5 : List Int) {bits : List Bool} (hbl : bits.length ≤ 100000) {w m : Nat} {bs : List Int} (hw : Wr bits w m bs) :
    ∃ (e : Int) (w' m' : Nat) (bs' : List Int), f19 (s, x2, l, codes l, x5, (w : Int), (m : Int), bs, ()) = some (e, x2, l, codes l, x5, (w' : Int), (m' : Int), bs', ()) ∧ Wr (bits ++ word l s) w' m' bs' ∧ ((word l s = [] ∧ e = 8) ∨ (word l s ≠ [] ∧ e = 0)) := by
  unfold f19 word
  dsimp only
  by_cases c1 : s < 0
  · rw [if_pos (decide_eq_true c1), if_pos rfl, if_pos rfl, if_neg (by omega), List.append_nil]
    exact ⟨8, w, m, bs, rfl, hw, .inl ⟨rfl, rfl⟩⟩
  · rw [if_neg (fun h => c1 (of_decide_eq_true h))]
    by_cases c2 : s ≥ ((l.length : Nat) : Int)
    · rw [if_pos (decide_eq_true c2), if_pos rfl, if_pos rfl, if_neg (by omega), List.append_nil]
      exact ⟨8, w, m, bs, rfl, hw, .inl ⟨rfl, rfl⟩⟩
    · rw [if_neg (fun h => c2 (of_decide_eq_true h)), if_pos (by omega), if_pos (by omega), if_pos (show 0 ≤ s ∧ s < ((l.length : Nat) : Int) by omega)]
      obtain ⟨t, rfl⟩ : ∃ t : Nat, s = (t : Int) := ⟨s.toNat, by omega⟩
      have h := hk.get t
      rw [Int.toNat_natCast]
      generalize hx : l.getD t 0 = x at h ⊢
      obtain ⟨n, rfl⟩ : ∃ n : Nat, x = (n : Int) := ⟨x.toNat, by omega⟩
      rw [Int.toNat_natCast]
      by_cases c3 : n = 0
      · subst c3
        rw [if_pos (show (((0 : Nat) : Int) == 0) = true from rfl), if_pos rfl, if_pos rfl]
        have e : wb (code l t).toNat 0 = [] := rfl
        rw [e, List.append_nil]
        exact ⟨8, w, m, bs, rfl, hw, .inl ⟨rfl, rfl⟩⟩
      · have hw0 : Wr (bits ++ wb ((code l t).toNat / 2 ^ (n - 0)) 0) w m bs := by
          have e : ∀ c, wb c 0 = [] := fun _ => rfl
          rw [e, List.append_nil]; exact hw
        obtain ⟨w', m', bs', p1, p2⟩ := l19_1_spec hl hk (by omega) hx x2 x5 hbl 18446744073709551616 0 w m bs (by omega) (by omega) hw0
        have p1' : loopN g19_1 o19_1 b19_1 18446744073709551616 ((n : Int), 0, x2, l, codes l, x5, (w : Int), (m : Int), (t : Int), bs, ()) = _ := p1
        rw [if_neg (show ¬ ((((n : Nat) : Int) == 0) = true) by rw [beq_iff_eq]; omega), if_pos (by omega), if_pos (by omega), if_pos rfl, if_pos rfl, show l19_1 = loopN g19_1 o19_1 b19_1 18446744073709551616 from rfl, p1', Option.bind_some, Sum.elim_inl]
        dsimp only
        rw [if_pos rfl, if_pos rfl]
        refine ⟨0, w', m', bs', rfl, p2, .inr ⟨fun e => ?_, rfl⟩⟩
        have := congrArg List.length e
        rw [wb_length, List.length_nil] at this
        exact c3 this
end Go.Ev.Huff
