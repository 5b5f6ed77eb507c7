/- Part of a proof about the given program: AsA. -/
import Derived.Test.YtbgbplacpjcmfaaStr
import Derived.Test.YtbgbplacpjcmfaaRule
import Derived.Test.YtbgbplacpjcmfaaF
namespace Go.Ev.Asc
set_option maxRecDepth 100000
open Go.Proofs

/-! # Signs (layer 10): what the document's own makes -/
theorem f9_eqn : f9 () = some (true, ()) := by kernel_rfl
theorem take_snoc {l : List Int} {k : Nat} (h : k < l.length) : l.take (k + 1) = l.take k ++ [l.getD k 0] := by
  rw [List.take_add_one, List.getElem?_eq_getElem h, List.getD_eq_getElem?_getD, List.getElem?_eq_getElem h]; rfl
theorem str_size (a : List Int) : (bytesStr a).size = a.length := bytesStr_size a
theorem f8_eqn {xs : List Int} (h : xs.length ≤ 140737488355328) : f8 (xs, ()) = some (xs, ()) := by
  unfold f8
  dsimp only
  rw [if_pos (by simp only [Nat.zero_add]; exact h), if_pos (by omega), if_pos rfl]
  rfl
def digS : ByteArray := ByteArray.mk #[48, 49, 50, 51, 52, 53, 54, 55, 56, 57, 65, 66, 67, 68, 69, 70]
theorem dig_cut {y : Int} (h : 0 ≤ y ∧ y < 16) : digS.extract y.toNat (y + 1).toNat = bytesStr [hexDig y] := by
  have hall : ∀ n : Fin 16, (digS.extract n.val (n.val + 1)).data.toList = (bytesStr [hexDig (n.val : Int)]).data.toList := by decide
  obtain ⟨m, rfl⟩ : ∃ m : Nat, y = (m : Int) := ⟨y.toNat, by omega⟩
  have := hall ⟨m, by omega⟩
  exact str_ext' (by simpa using this)

theorem f11_eqn {b : List Int} (hb : IsB b) (hl : b.length ≤ 1099511627776) : f11 (b, ()) = some (bytesStr (hexA b ++ [62]), ()) := by
  have h : l11_1 (b, digS, bytesStr [], 0, ()) = some (.inl (bytesStr (hexA b), ())) := by
    have h := loop_rule (g := g11_1) (outs := o11_1) (body := b11_1)
      (fun q => ∃ i : Nat, i ≤ b.length ∧ q = (b, digS, bytesStr (hexA (b.take i)), (i : Int), ()))
      (fun q => b.length - q.2.2.2.1.toNat)
      (fun o => o = .inl (bytesStr (hexA b), ())) ?_ 18446744073709551616 (b, digS, bytesStr [], 0, ()) ⟨0, by omega, rfl⟩ (by dsimp only; omega)
    · obtain ⟨o, h1, h2⟩ := h
      subst h2
      exact h1
    · rintro q ⟨i, hi, rfl⟩
      unfold b11_1
      dsimp only
      by_cases hc : i < b.length
      · left
        have hx := hb.get i
        have e1 : IntKind.wrap .u8 (Int.tdiv (b.getD i 0) 16) = b.getD i 0 / 16 := by rw [Int.tdiv_eq_ediv_of_nonneg hx.1, wrap_u8]; omega
        have e2 : Int.tmod (b.getD i 0) 16 = b.getD i 0 % 16 := by rw [Int.tmod_eq_emod_of_nonneg hx.1]
        have e3 : IntKind.wrap .u8 (b.getD i 0 / 16 + 1) = b.getD i 0 / 16 + 1 := by rw [wrap_u8]; omega
        have e4 : IntKind.wrap .u8 (b.getD i 0 % 16 + 1) = b.getD i 0 % 16 + 1 := by rw [wrap_u8]; omega
        have hs : digS.size = 16 := rfl
        have hl2 : (hexA (b.take i)).length ≤ 2 * 1099511627776 := by rw [hexA_len, List.length_take]; omega
        rw [Int.toNat_natCast, e1, e2, e3, e4, hs, dig_cut (by omega), dig_cut (by omega), str_cat, str_cat, str_size, str_size, str_size, str_size]
        refine ⟨(b, digS, bytesStr (hexA (b.take (i + 1))), ((i + 1 : Nat) : Int), ()), ?_, ⟨i + 1, by omega, rfl⟩, by dsimp only; omega⟩
        rw [take_snoc hc, hexA_snoc]
        simp only [List.length_append, List.length_singleton]
        repeat rw [if_pos (by first | omega | exact decide_eq_true (by omega))]
        rw [wrap_i64 (by omega), List.append_assoc]
        rfl
      · right
        have e : i = b.length := by omega
        rw [if_neg (fun h => by have := of_decide_eq_true h; omega), e, List.take_length]
        exact ⟨_, rfl, rfl⟩
  unfold f11
  dsimp only
  generalize hX : l11_1 _ = X
  rw [show X = _ from hX.symm.trans h, Option.bind_some, Sum.elim_inl]
  dsimp only
  rw [str_size, if_pos (by rw [hexA_len]; omega), show ByteArray.mk #[62] = bytesStr [62] from rfl, str_cat]

def sgL (N : Int) : Nat → List Int
  | 0 => []
  | k + 1 => sign N k :: sgL N k
theorem sgL_len (N : Int) : ∀ k, (sgL N k).length = k
  | 0 => rfl
  | k + 1 => by simp [sgL, sgL_len N k]
theorem f21_eqn {N : Int} (h : 0 ≤ N ∧ N < 4294967296) : f21 (N, ()) = some (bytesStr (fiveA N), ()) := by
  have h : l21_1 (N, bytesStr [], 0, ()) = some (.inl (bytesStr (fiveA N), ())) := by
    have h := loop_rule (g := g21_1) (outs := o21_1) (body := b21_1)
      (fun q => ∃ k : Nat, k ≤ 5 ∧ q = (N / 85 ^ k, bytesStr (sgL N k), (k : Int), ()))
      (fun q => 5 - q.2.2.1.toNat)
      (fun o => o = .inl (bytesStr (fiveA N), ())) ?_ 18446744073709551616 (N, bytesStr [], 0, ()) ⟨0, by omega, by simp [sgL]⟩ (by dsimp only; omega)
    · obtain ⟨o, h1, h2⟩ := h
      subst h2
      exact h1
    · rintro q ⟨k, hk, rfl⟩
      obtain ⟨d1, d2, d3⟩ := div85 h.1 k
      unfold b21_1
      dsimp only
      by_cases hc : k < 5
      · left
        refine ⟨(N / 85 ^ (k + 1), bytesStr (sgL N (k + 1)), ((k + 1 : Nat) : Int), ()), ?_, ⟨k + 1, by omega, rfl⟩, by dsimp only; omega⟩
        have e1 : IntKind.wrap .u8 (IntKind.wrap .i64 (33 + Int.tmod (N / 85 ^ k) 85)) = sign N k := by
          rw [Int.tmod_eq_emod_of_nonneg d1, wrap_i64 (by omega), wrap_u8]
          unfold sign
          omega
        rw [e1, show ByteArray.mk (List.toArray (List.map (fun y1 : Int => UInt8.ofNat (Int.toNat y1)) (List.take (1 : Nat) (List.drop (0 : Nat) (List.set (List.replicate (1 : Nat) (0 : Int)) (0 : Nat) (sign N k)))))) = bytesStr [sign N k] from rfl, str_cat, str_size, str_size, sgL_len, if_pos (decide_eq_true (by omega)), if_pos (by simp; omega), Int.tdiv_eq_ediv_of_nonneg d1, wrap_i64 (by omega), wrap_i64 (by omega), d3]
        rfl
      · right
        have e : k = 5 := by omega
        rw [if_neg (fun h => by have := of_decide_eq_true h; omega), e]
        exact ⟨_, rfl, rfl⟩
  unfold f21
  dsimp only
  generalize hX : l21_1 _ = X
  rw [show X = _ from hX.symm.trans h, Option.bind_some, Sum.elim_inl]

theorem l13_2_eqn {b : List Int} (hb : IsB b) (hl : b.length ≤ 1099511627776) {i : Nat} (hi : i ≤ b.length) (out : ByteArray) : l13_2 (b, out, (i : Int), 0, 0, ()) = some (.inl (b, out, (i : Int), wordK ((b.drop i).take 4) 4, ())) := by
  have hp : ∀ x ∈ (b.drop i).take 4, 0 ≤ x ∧ x < 256 := fun x hx => hb x (List.mem_of_mem_drop (List.mem_of_mem_take hx))
  have h := loop_rule (g := g13_2) (outs := o13_2) (body := b13_2)
    (fun q => ∃ k : Nat, k ≤ 4 ∧ q = (b, out, (i : Int), wordK ((b.drop i).take 4) k, (k : Int), ()))
    (fun q => 4 - q.2.2.2.2.1.toNat)
    (fun o => o = .inl (b, out, (i : Int), wordK ((b.drop i).take 4) 4, ())) ?_ 18446744073709551616 (b, out, (i : Int), 0, 0, ()) ⟨0, by omega, rfl⟩ (by dsimp only; omega)
  · obtain ⟨o, h1, h2⟩ := h
    subst h2
    exact h1
  · rintro q ⟨k, hk, rfl⟩
    unfold b13_2
    dsimp only
    by_cases hc : k < 4
    · left
      have hw := wordK_small hp hc
      have hx := hb.get (i + k)
      refine ⟨(b, out, (i : Int), wordK ((b.drop i).take 4) (k + 1), ((k + 1 : Nat) : Int), ()), ?_, ⟨k + 1, by omega, rfl⟩, by dsimp only; omega⟩
      have hg : ((b.drop i).take 4).getD k 0 = b.getD (i + k) 0 := by
        rw [List.getD_eq_getElem?_getD, List.getD_eq_getElem?_getD, List.getElem?_take, if_pos hc, List.getElem?_drop]
      have hs : wordK ((b.drop i).take 4) (k + 1) = wordK ((b.drop i).take 4) k * 256 + b.getD (i + k) 0 := by rw [← hg]; rfl
      rw [hs]
      generalize wordK ((b.drop i).take 4) k = W at hw
      rw [if_pos (decide_eq_true (by omega)), wrap_i64 (n := (i : Int) + k) (by omega), wrap_i64 (n := 256 * W) (by omega), wrap_i64 (n := (k : Int) + 1) (by omega)]
      by_cases h2 : i + k < b.length
      · rw [if_pos (decide_eq_true (by omega)), if_pos (by omega), if_pos (by omega), show ((i : Int) + k).toNat = i + k by omega, wrap_i64 (n := b.getD (i + k) 0) (by omega), wrap_i64 (by omega), Int.mul_comm]
        rfl
      · rw [if_neg (fun h => by have := of_decide_eq_true h; omega), List.getD_eq_getElem?_getD, List.getElem?_eq_none (by omega), Int.mul_comm]
        simp
    · right
      have e : k = 4 := by omega
      rw [if_neg (fun h => by have := of_decide_eq_true h; omega), e]
      exact ⟨_, rfl, rfl⟩

theorem f13_eqn {b : List Int} (hb : IsB b) (hl : b.length ≤ 1099511627776) : f13 (b, ()) = some (bytesStr (putA b ++ [126, 62]), ()) := by
  have hcn : chunkNo 4 b.length ≤ b.length := by unfold chunkNo; omega
  have h : l13_1 (b, bytesStr [], 0, ()) = some (.inl (bytesStr (putA b), ())) := by
    have h := loop_rule (g := g13_1) (outs := o13_1) (body := b13_1)
      (fun q => ∃ j : Nat, j ≤ chunkNo 4 b.length ∧ q = (b, bytesStr (putB b j), ((4 * j : Nat) : Int), ()))
      (fun q => b.length + 4 - q.2.2.1.toNat)
      (fun o => o = .inl (bytesStr (putA b), ())) ?_ 18446744073709551616 (b, bytesStr [], 0, ()) ⟨0, by omega, rfl⟩ (by dsimp only; omega)
    · obtain ⟨o, h1, h2⟩ := h
      subst h2
      exact h1
    · rintro q ⟨j, hj, rfl⟩
      have hlt := @chunkNo_lt 4 b.length j (by omega)
      unfold b13_1
      dsimp only
      by_cases hc : 4 * j < b.length
      · left
        obtain ⟨i, hi⟩ : ∃ i, 4 * j = i := ⟨_, rfl⟩
        rw [hi] at hc ⊢
        have hpl := putB_len b j
        have hp : ∀ x ∈ (b.drop i).take 4, 0 ≤ x ∧ x < 256 := fun x hx => hb x (List.mem_of_mem_drop (List.mem_of_mem_take hx))
        have hch : chunks 4 b j = (b.drop i).take 4 := by unfold chunks; rw [show j * 4 = i by omega]
        have hcl : ((b.drop i).take 4).length = min 4 (b.length - i) := by rw [List.length_take, List.length_drop]
        refine ⟨(b, bytesStr (putB b (j + 1)), ((i + 4 : Nat) : Int), ()), ?_, ⟨j + 1, by omega, by rw [show 4 * (j + 1) = i + 4 by omega]⟩, by dsimp only; omega⟩
        rw [if_pos (decide_eq_true (by omega)), l13_2_eqn hb hl (by omega), Option.bind_some, Sum.elim_inl]
        dsimp only
        rw [chunk_step, hch]
        have hN := wordK_range hp 4
        rw [show (256 : Int) ^ 4 = 4294967296 by decide] at hN
        unfold groupA
        generalize (b.drop i).take 4 = p at hN hcl
        generalize wordK p 4 = N at hN
        rw [wrap_i64 (n := (b.length : Int) - i) (by omega), wrap_i64 (n := (i : Int) + 4) (by omega)]
        have hm : min ((b.length : Int) - i) 4 = (p.length : Int) := by omega
        rw [hm]
        have hfl : (fiveA N).length = 5 := rfl
        by_cases hz : N = 0
        · rw [if_pos (beq_iff_eq.2 hz)]
          by_cases h4 : p.length = 4
          · rw [if_pos (beq_iff_eq.2 (by omega)), if_pos (show N = 0 ∧ p.length = 4 from ⟨hz, h4⟩), str_size, if_pos (by omega), show ByteArray.mk #[122] = bytesStr [122] from rfl, str_cat]
            rfl
          · rw [if_neg (fun h => h4 (by have := beq_iff_eq.1 h; omega)), if_neg (fun h : N = 0 ∧ p.length = 4 => h4 h.2), f21_eqn hN, Option.bind_some]
            dsimp only
            rw [wrap_i64 (by omega), str_size, hfl, if_pos (by omega), if_pos (by omega), str_cut, List.drop_zero, str_size, str_size, List.length_take, hfl, if_pos (by omega), str_cat, show ((p.length : Int) + 1).toNat = p.length + 1 by omega]
            rfl
        · rw [if_neg (fun h => hz (beq_iff_eq.1 h)), if_neg (fun h : N = 0 ∧ p.length = 4 => hz h.1), f21_eqn hN, Option.bind_some]
          dsimp only
          rw [wrap_i64 (by omega), str_size, hfl, if_pos (by omega), if_pos (by omega), str_cut, List.drop_zero, str_size, str_size, List.length_take, hfl, if_pos (by omega), str_cat, show ((p.length : Int) + 1).toNat = p.length + 1 by omega]
          rfl
      · right
        have e : j = chunkNo 4 b.length := by
          rcases Nat.lt_or_ge j (chunkNo 4 b.length) with h | h
          · have := hlt.1 h; omega
          · omega
        rw [if_neg (fun h => by have := of_decide_eq_true h; omega), e]
        exact ⟨_, rfl, rfl⟩
  have hpl := putB_len b (chunkNo 4 b.length)
  unfold f13
  dsimp only
  generalize hX : l13_1 _ = X
  rw [show X = _ from hX.symm.trans h, Option.bind_some, Sum.elim_inl]
  dsimp only
  rw [str_size, if_pos (by unfold putA; omega), show ByteArray.mk #[126, 62] = bytesStr [126, 62] from rfl, str_cat]

theorem byB_of {b : List Int} (h : IsB b) : byB b = true := List.all_eq_true.2 fun x hx => by have := h x hx; simp; omega
theorem f10_eqn {b : List Int} (hb : IsB b) (hl : b.length ≤ 1099511627776) : f10 (b, ()) = some (bytesStr (hexA b ++ [62]), ()) := by
  unfold f10
  rw [if_pos ⟨hl, byB_of hb⟩]
theorem f12_eqn {b : List Int} (hb : IsB b) (hl : b.length ≤ 1099511627776) : f12 (b, ()) = some (bytesStr (putA b ++ [126, 62]), ()) := by
  unfold f12
  rw [if_pos ⟨hl, byB_of hb⟩]

theorem full (l : List Int) : List.take l.length (List.drop (0 : Nat) l) = l := by rw [List.drop_zero, List.take_length]
theorem puts_true {b : List Int} (hb : IsB b) : f3 (b, ()) = some (true, ()) := by
  unfold f3
  dsimp only
  by_cases hl : b.length > 500
  · rw [if_pos (decide_eq_true (by omega))]
  rw [if_neg (fun h => hl (by have := of_decide_eq_true h; omega)), f8_eqn (by omega), Option.bind_some, f9_eqn, Option.bind_some]
  dsimp only
  repeat rw [full]
  rw [if_pos rfl, f10_eqn hb (by omega), Option.bind_some, f11_eqn hb (by omega), Option.bind_some]
  dsimp only
  rw [if_pos (by simp), f12_eqn hb (by omega), Option.bind_some, f13_eqn hb (by omega), Option.bind_some]
  dsimp only
  rw [if_pos (by simp)]
  repeat rw [full]
  simp
end Go.Ev.Asc
