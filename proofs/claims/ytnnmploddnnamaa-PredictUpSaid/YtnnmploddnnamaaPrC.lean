/- Part of a proof about the given program: PrC. -/
import Derived.Test.YtnnmploddnnamaaPrB
namespace Go.Ev.Pre
set_option maxRecDepth 100000

/-! ## The loops over one row -/
theorem take_snoc {l : List Int} {k : Nat} (h : k < l.length) : l.take (k + 1) = l.take k ++ [l.getD k 0] := by
  rw [List.take_add_one, List.getElem?_eq_getElem h, List.getD_eq_getElem?_getD, List.getElem?_eq_getElem h]; rfl
theorem back_take {l : List Int} {s k : Nat} (hs : 1 ≤ s) : back (l.take k) s k = back l s k := by
  unfold back
  by_cases h : k < s
  · rw [if_pos h, if_pos h]
  · rw [if_neg h, if_neg h, List.getD_eq_getElem?_getD, List.getD_eq_getElem?_getD, List.getElem?_take, if_pos (by omega)]
theorem full (l : List Int) : List.take l.length (List.drop (0 : Nat) l) = l := by rw [List.drop_zero, List.take_length]
theorem one_row (b : Int) : List.take (1 : Nat) (List.drop (0 : Nat) (List.set (List.replicate (1 : Nat) (0 : Int)) (0 : Nat) b)) = [b] := rfl
theorem told_eq {s : Nat} {t : Int} {ab pre : List Int} {k : Nat} (h : pre.length = k) : told s t ab pre = tells t (back pre s k) (ab.getD k 0) (back ab s k) := by subst h; rfl
theorem getD_int {l : List Int} {k : Nat} : (if (k : Int) < 0 then 0 else l.getD (k : Int).toNat 0) = l.getD k 0 := by rw [if_neg (by omega), Int.toNat_natCast]

theorem l8_4_eqn {tag e n fr : Int} {s : Nat} {data res out ab : List Int} (hd : IsB data) (ha : IsB ab) (hs : 1 ≤ s) (hs2 : s ≤ 1000) (hl : data.length ≤ 1099511627776) :
    l8_4 (tag, data, (data.length : Int), 0, e, n, fr, (s : Int), [], res, out, ab, ()) = some (.inl (e, n, fr, (s : Int), uGo s tag ab [] data, res, out, ab, ())) := by
  have h := loop_rule (g := g8_4) (outs := o8_4) (body := b8_4)
    (fun x => ∃ k : Nat, k ≤ data.length ∧ x = (tag, data, (data.length : Int), (k : Int), e, n, fr, (s : Int), uGo s tag ab [] (data.take k), res, out, ab, ()))
    (fun x => data.length - x.2.2.2.1.toNat)
    (fun o => o = .inl (e, n, fr, (s : Int), uGo s tag ab [] data, res, out, ab, ())) ?_ 18446744073709551616 (tag, data, (data.length : Int), 0, e, n, fr, (s : Int), [], res, out, ab, ()) ⟨0, by omega, by simp [uGo]⟩ (by dsimp only; omega)
  · obtain ⟨o, h1, h2⟩ := h
    subst h2
    exact h1
  · rintro x ⟨k, hk, rfl⟩
    have hrow : IsB (uGo s tag ab [] (data.take k)) := uGo_isB
    have hlen : (uGo s tag ab [] (data.take k)).length = k := by rw [uGo_len, List.length_take]; omega
    generalize hr : uGo s tag ab [] (data.take k) = row at hrow hlen
    unfold b8_4
    dsimp only
    by_cases hc : k < data.length
    · left
      have hx := hd.get k
      have ht := tells_range (t := tag) (back_range hrow s k) (ha.get k) (back_range ha s k)
      rw [if_pos (by rw [decide_eq_true_eq]; omega), if_pos (by omega), if_pos (by omega), wrap_i64 (n := (k : Int) - s) (by omega), full row, full ab, f22_eqn hrow, f22_eqn ha, f22_eqn ha, Option.bind_some, Option.bind_some, Option.bind_some]
      dsimp only
      rw [back_int, back_int, getD_int, f21_eqn (back_range hrow s k) (ha.get k) (back_range ha s k), Option.bind_some]
      dsimp only
      rw [one_row, wrap_u8, wrap_u8, Int.toNat_natCast, if_pos (by rw [hlen]; simp; omega), if_pos rfl, if_pos rfl, if_pos rfl, if_pos rfl, wrap_i64 (by omega)]
      refine ⟨_, rfl, ⟨k + 1, by omega, ?_⟩, by dsimp only; omega⟩
      rw [take_snoc hc, uGo_snoc, hr, List.nil_append, told_eq hlen, show (((k + 1 : Nat)) : Int) = (k : Int) + 1 by omega]
      congr 8
      congr 2
      congr 1
      omega
    · right
      have e1 : k = data.length := by omega
      subst e1
      rw [if_neg (by rw [decide_eq_true_eq]; omega), if_pos rfl, if_pos rfl, if_pos rfl, if_pos rfl]
      rw [List.take_length] at hr
      subst hr
      exact ⟨_, rfl, rfl⟩

theorem l9_4_eqn {tag fr : Int} {s n i f : Nat} {b out ab data : List Int} (hb : IsB b) (ha : IsB ab) (hs : 1 ≤ s) (hs2 : s ≤ 1000) (hf : fr = (f : Int)) (hi : i + f + n ≤ b.length) (hl : b.length ≤ 1099511627776) (hdat : data = (b.drop (i + f)).take n) :
    l9_4 (b, (n : Int), (s : Int), fr, (i : Int), tag, 0, out, ab, [], ()) = some (.inl (b, (n : Int), (s : Int), fr, (i : Int), out, uGo s tag ab [] data, ())) := by
  subst hf
  have hdl : data.length = n := by rw [hdat, List.length_take, List.length_drop]; omega
  have hd : IsB data := by rw [hdat]; exact (hb.drop _).take _
  have hget : ∀ k, k < n → b.getD (i + f + k) 0 = data.getD k 0 := fun k hk => by
    rw [hdat, List.getD_eq_getElem?_getD, List.getD_eq_getElem?_getD, List.getElem?_take, if_pos hk, List.getElem?_drop]
  clear hdat
  have h := loop_rule (g := g9_4) (outs := o9_4) (body := b9_4)
    (fun x => ∃ k : Nat, k ≤ n ∧ x = (b, (n : Int), (s : Int), (f : Int), (i : Int), tag, (k : Int), out, ab, uGo s tag ab [] (data.take k), ()))
    (fun x => n - x.2.2.2.2.2.2.1.toNat)
    (fun o => o = .inl (b, (n : Int), (s : Int), (f : Int), (i : Int), out, uGo s tag ab [] data, ())) ?_ 18446744073709551616 (b, (n : Int), (s : Int), (f : Int), (i : Int), tag, 0, out, ab, [], ()) ⟨0, by omega, by simp [uGo]⟩ (by dsimp only; omega)
  · obtain ⟨o, h1, h2⟩ := h
    subst h2
    exact h1
  · rintro x ⟨k, hk, rfl⟩
    have hrow : IsB (uGo s tag ab [] (data.take k)) := uGo_isB
    have hlen : (uGo s tag ab [] (data.take k)).length = k := by rw [uGo_len, List.length_take]; omega
    generalize hr : uGo s tag ab [] (data.take k) = row at hrow hlen
    unfold b9_4
    dsimp only
    by_cases hc : k < n
    · left
      have hx := hd.get k
      have ht := tells_range (t := tag) (back_range hrow s k) (ha.get k) (back_range ha s k)
      rw [if_pos (by rw [decide_eq_true_eq]; omega), wrap_i64 (n := (i : Int) + f) (by omega), wrap_i64 (n := (i : Int) + f + k) (by omega), if_pos (by omega), if_pos (by omega), wrap_i64 (n := (k : Int) - s) (by omega), full row, full ab, f25_eqn hrow, f25_eqn ha, f25_eqn ha, Option.bind_some, Option.bind_some, Option.bind_some]
      dsimp only
      rw [back_int, back_int, getD_int, f24_eqn (back_range hrow s k) (ha.get k) (back_range ha s k), Option.bind_some]
      dsimp only
      rw [one_row, show ((i : Int) + f + k).toNat = i + f + k by omega, hget k hc, wrap_i64 (n := data.getD k 0) (by omega), wrap_i64 (by omega), wrap_u8, if_pos (by rw [hlen]; simp; omega), if_pos rfl, if_pos rfl, if_pos rfl, wrap_i64 (by omega)]
      refine ⟨_, rfl, ⟨k + 1, by omega, ?_⟩, by dsimp only; omega⟩
      rw [take_snoc (by omega), uGo_snoc, hr, List.nil_append, told_eq hlen, show (((k + 1 : Nat)) : Int) = (k : Int) + 1 by omega, Int.tmod_eq_emod_of_nonneg (by omega)]
      congr 9
      congr 2
      congr 1
      omega
    · right
      have e1 : k = data.length := by omega
      subst e1
      rw [if_neg (by rw [decide_eq_true_eq]; omega), if_pos rfl, if_pos rfl]
      rw [List.take_length] at hr
      subst hr
      exact ⟨_, rfl, rfl⟩

theorem l10_6_eqn {how p c b w tag : Int} {s : Nat} {data out ab : List Int} (hd : IsB data) (ha : IsB ab) (hs : 1 ≤ s) (hs2 : s ≤ 1000) (hl : data.length ≤ 1099511627776) (ho : out.length ≤ 1099511627776) :
    l10_6 (data, how, data, (data.length : Int), 0, p, c, b, w, tag, (s : Int), ab, out, ()) = some (.inl (data, p, c, b, w, tag, (s : Int), ab, out ++ dGo s how ab [] data, ())) := by
  have h := loop_rule (g := g10_6) (outs := o10_6) (body := b10_6)
    (fun x => ∃ k : Nat, k ≤ data.length ∧ x = (data, how, data, (data.length : Int), (k : Int), p, c, b, w, tag, (s : Int), ab, out ++ dGo s how ab [] (data.take k), ()))
    (fun x => data.length - x.2.2.2.2.1.toNat)
    (fun o => o = .inl (data, p, c, b, w, tag, (s : Int), ab, out ++ dGo s how ab [] data, ())) ?_ 18446744073709551616 (data, how, data, (data.length : Int), 0, p, c, b, w, tag, (s : Int), ab, out, ()) ⟨0, by omega, by simp [dGo]⟩ (by dsimp only; omega)
  · obtain ⟨o, h1, h2⟩ := h
    subst h2
    exact h1
  · rintro x ⟨k, hk, rfl⟩
    have hlen : (dGo s how ab [] (data.take k)).length = k := by rw [dGo_len, List.length_take]; omega
    have hlt : (data.take k).length = k := by rw [List.length_take]; omega
    generalize hr : dGo s how ab [] (data.take k) = row at hlen
    unfold b10_6
    dsimp only
    by_cases hc : k < data.length
    · left
      have hx := hd.get k
      have ht := tells_range (t := how) (back_range hd s k) (ha.get k) (back_range ha s k)
      rw [if_pos (by rw [decide_eq_true_eq]; omega), if_pos (by omega), if_pos (by omega), wrap_i64 (n := (k : Int) - s) (by omega), f22_eqn hd, f22_eqn ha, f22_eqn ha, Option.bind_some, Option.bind_some, Option.bind_some]
      dsimp only
      rw [back_int, back_int, getD_int, f21_eqn (back_range hd s k) (ha.get k) (back_range ha s k), Option.bind_some]
      dsimp only
      rw [full (out ++ row), one_row, wrap_u8, wrap_u8, Int.toNat_natCast, if_pos (by rw [List.length_append, hlen]; simp; omega), if_pos rfl, wrap_i64 (by omega)]
      refine ⟨_, rfl, ⟨k + 1, by omega, ?_⟩, by dsimp only; omega⟩
      rw [take_snoc hc, dGo_snoc, hr, List.nil_append, told_eq hlt, back_take hs, show (((k + 1 : Nat)) : Int) = (k : Int) + 1 by omega, List.append_assoc]
      congr 13
      congr 2
      congr 1
      omega
    · right
      have e1 : k = data.length := by omega
      subst e1
      rw [if_neg (by rw [decide_eq_true_eq]; omega), if_pos rfl]
      rw [List.take_length] at hr
      subst hr
      exact ⟨_, rfl, rfl⟩

theorem l11_3_eqn {how p c b w tag i : Int} {s n : Nat} {bs data out ab : List Int} (hd : IsB data) (hn : data.length = n) (ha : IsB ab) (hs : 1 ≤ s) (hs2 : s ≤ 1000) (hl : data.length ≤ 1099511627776) (ho : out.length ≤ 1099511627776) :
    l11_3 (tag, bs, (n : Int), (s : Int), ab, i, data, how, 0, p, c, b, w, out, ()) = some (.inl (tag, bs, (n : Int), (s : Int), i, data, p, c, b, w, out ++ dGo s how ab [] data, ())) := by
  subst hn
  have h := loop_rule (g := g11_3) (outs := o11_3) (body := b11_3)
    (fun x => ∃ k : Nat, k ≤ data.length ∧ x = (tag, bs, (data.length : Int), (s : Int), ab, i, data, how, (k : Int), p, c, b, w, out ++ dGo s how ab [] (data.take k), ()))
    (fun x => data.length - x.2.2.2.2.2.2.2.2.1.toNat)
    (fun o => o = .inl (tag, bs, (data.length : Int), (s : Int), i, data, p, c, b, w, out ++ dGo s how ab [] data, ())) ?_ 18446744073709551616 (tag, bs, (data.length : Int), (s : Int), ab, i, data, how, 0, p, c, b, w, out, ()) ⟨0, by omega, by simp [dGo]⟩ (by dsimp only; omega)
  · obtain ⟨o, h1, h2⟩ := h
    subst h2
    exact h1
  · rintro x ⟨k, hk, rfl⟩
    have hlen : (dGo s how ab [] (data.take k)).length = k := by rw [dGo_len, List.length_take]; omega
    have hlt : (data.take k).length = k := by rw [List.length_take]; omega
    generalize hr : dGo s how ab [] (data.take k) = row at hlen
    unfold b11_3
    dsimp only
    by_cases hc : k < data.length
    · left
      have hx := hd.get k
      have ht := tells_range (t := how) (back_range hd s k) (ha.get k) (back_range ha s k)
      rw [if_pos (by rw [decide_eq_true_eq]; omega), if_pos (by omega), if_pos (by omega), wrap_i64 (n := (k : Int) - s) (by omega), f25_eqn hd, f25_eqn ha, f25_eqn ha, Option.bind_some, Option.bind_some, Option.bind_some]
      dsimp only
      rw [back_int, back_int, getD_int, f24_eqn (back_range hd s k) (ha.get k) (back_range ha s k), Option.bind_some]
      dsimp only
      rw [full (out ++ row), one_row, Int.toNat_natCast, wrap_i64 (n := data.getD k 0) (by omega), wrap_i64 (n := data.getD k 0 + 256) (by omega), wrap_i64 (by omega), wrap_u8, if_pos (by rw [List.length_append, hlen]; simp; omega), if_pos rfl, wrap_i64 (by omega)]
      refine ⟨_, rfl, ⟨k + 1, by omega, ?_⟩, by dsimp only; omega⟩
      rw [take_snoc hc, dGo_snoc, hr, List.nil_append, told_eq hlt, back_take hs, show (((k + 1 : Nat)) : Int) = (k : Int) + 1 by omega, List.append_assoc, Int.tmod_eq_emod_of_nonneg (by omega)]
      congr 14
      congr 2
      congr 1
      omega
    · right
      have e1 : k = data.length := by omega
      subst e1
      rw [if_neg (by rw [decide_eq_true_eq]; omega), if_pos rfl]
      rw [List.take_length] at hr
      subst hr
      exact ⟨_, rfl, rfl⟩
end Go.Ev.Pre
