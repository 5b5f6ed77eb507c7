/- The function behind slices.Chunk hands the parts of the row, one behind the other, to yield. -/
import Derived.Test.YtnnmploddnnamaaEvEE
import Derived.Test.YtnnmploddnnamaaChecked
import Derived.LoopNIn
import Derived.LoopIn
import Derived.WalkKit
import Derived.OwnWalkIn
import Derived.TacticsInMore
import Derived.Shelf.Abstract
namespace Go.Ev
open Go.Proofs Go.Ev Go Go.Shelf Go.RowKit
set_option maxRecDepth 100000
set_option maxHeartbeats 4000000
attribute [local go_sem] Oper.semAt_some

theorem chunk_walk (F : Fence) (m : Nat) (h27 : F.fn 27) (hro : F.round = none) (hm : 1 ≤ m) (l B1 u1 B2 u2 : Nat) (ad : Option Addr) (b off n len cap : Nat) (hn : 1 ≤ n) (hn2 : n ≤ 1099511627776) (hl2 : len ≤ 1099511627776) (hlc : len ≤ cap) (had : 0 < len → ad = some ⟨b, off, none⟩) (J : Nat → World → Prop) (Jx : World → Prop)
    (hg : ∀ k W W', J k W → Grown W W' → J k W') (hC : ∀ k W, J k W → W.cell? ⟨B1, u1, none⟩ = some (.slice ad len cap) ∧ W.cell? ⟨B2, u2, none⟩ = some (.int .i64 n))
    (hY : ∀ k W, k < chunkNo n len → J k W → YieldAt F (m - 1) Try.prog l #[part b off n len k] W fun e W' => (e = .returned (.bool true) ∧ J (k + 1) W') ∨ (e = .returned (.bool false) ∧ Jx W'))
    (W : World) (h0 : J 0 W) :
    CallsIn F m Try.prog 27 #[.func (.yield l) #[] #[], .pointer (some ⟨B1, u1, none⟩), .pointer (some ⟨B2, u2, none⟩)] W fun e W' => (∃ v, e = .returned v) ∧ (J (chunkNo n len) W' ∨ Jx W') := by
  refine callsIn_of_wp Try.func27 rfl h27 ?_ hro
  simp only [Try.ntmps27, List.size_toArray, List.length_cons, List.length_nil, Nat.reduceAdd, Nat.reduceSub, Array.replicate_succ, Array.replicate_zero, List.push_toArray, List.append_toArray, List.nil_append, List.cons_append]
  gi_wp2
  gi_loopw [4] (fun i wr => ∃ k : Nat, k ≤ chunkNo n len ∧ i = .int .i64 ((k * n : Nat) : Int) ∧ J k wr)
    (fun i _ => len + n - (intOf i).toNat)
  case atStart => exact ⟨0, Nat.zero_le _, by simp, h0⟩
  case round =>
    obtain ⟨k, hk, rfl, hJ⟩ := hrel
    obtain ⟨c1, c2⟩ := hC k wr hJ
    obtain ⟨i, hi⟩ : ∃ i, k * n = i := ⟨_, rfl⟩
    rw [hi]
    by_cases hlt : i < len
    · obtain rfl := had (by omega)
      have hlt' : (i : Int) < (len : Int) := by omega
      have hkn : k < chunkNo n len := (chunkNo_lt hn).2 (hi ▸ hlt)
      have d1 : wr.drew.cell? ⟨B1, u1, none⟩ = some (.slice (some ⟨b, off, none⟩) len cap) := c1
      have d2 : wr.drew.cell? ⟨B2, u2, none⟩ = some (.int .i64 n) := c2
      have e1 : i ≤ len := by omega
      have e2 : len ≤ cap := hlc
      have e3 : (0 : Int) ≤ (i : Int) := by omega
      have e4 : (i : Int) ≤ (len : Int) := by omega
      have e5 : (len : Int) ≤ (cap : Int) := by omega
      have e6 : ¬ cap = i := by omega
      obtain ⟨e, he⟩ : ∃ e : Nat, min n (len - i) = e := ⟨_, rfl⟩
      have he' : (if len - i < n then ((len - i : Nat) : Int) else (n : Int)) = (e : Int) := by
        rw [← he]; split <;> omega
      gi_wp2
      refine wpIn_mono (Q := fun x a w' => x = .normal ∧ w' = wr.drew ∧ a = { tmps := #[.func (.yield l) #[] #[], .pointer (some ⟨B1, u1, none⟩), .pointer (some ⟨B2, u2, none⟩), undef, .int .i64 i, .int .i64 e, .int .i64 i, .slice (some ⟨b, off, none⟩) len cap, .int .i64 len, .bool true, u10, u11, u12, .int .i64 n, .slice (some ⟨b, off, none⟩) len cap, .int .i64 i, .slice (some ⟨b, off + i, none⟩) (len - i) (cap - i), .int .i64 ((len - i : Nat) : Int), .int .i64 e, u19, u20, u21, u22, u23, u24, u25, u26, u27, u28, u29, u30], defers := [] }) ?_ ?_
      · gi_region
        all_goals exact ⟨rfl, rfl, by first | rfl | (simp only [he']; done) | (trace_state; sorry)⟩
      rintro x a w' ⟨rfl, rfl, rfl⟩
      have f1 : (0 : Int) ≤ (i : Int) + e := by omega
      have f2 : (i : Int) + e ≤ cap := by omega
      have f3 : (i : Int) ≤ (i : Int) + e := by omega
      have f4 : i + e ≤ cap := by omega
      have f5 : ¬ cap = i := by omega
      have f6 : 0 < e := by omega
      have f7 : i + e - i = e := by omega
      have f8 : ¬ e = 0 := by omega
      have hJ' : J k wr.drew := hg _ _ _ hJ (Grown.drew wr)
      obtain ⟨fn, tmps, assign, body, hy, hR⟩ := hY k wr.drew hkn hJ'
      have hpart : part b off n len k = .slice (some ⟨b, off + i, none⟩) e e := by unfold part; rw [hi, he]
      rw [hpart] at hy
      gi_wp2
      refine hR.mono ?_
      rintro x W3 (⟨rfl, hJ3⟩ | ⟨rfl, hJx3⟩)
      · obtain ⟨p1, p2⟩ := hC (k + 1) W3 hJ3
        have g1 : (0 : Int) ≤ (i : Int) + n := by omega
        have g2 : (i : Int) + n < 9223372036854775808 := by omega
        gi_wp2
        go_roundw
        case rel => exact ⟨k + 1, by omega, by simp [Nat.add_mul, hi], hJ3⟩
        case measure => simp [intOf]; omega
      · gi_wp2
        refine bodyPost_ret (results_none rfl _ _ _) rfl ?_
        exact ⟨⟨_, rfl⟩, .inr hJx3⟩
    · have hlt' : ¬ (i : Int) < (len : Int) := by omega
      have hke : k = chunkNo n len := by
        rcases Nat.lt_or_ge k (chunkNo n len) with h | h
        · exact absurd (hi ▸ (chunkNo_lt hn).1 h) hlt
        · omega
      subst hke
      gi_wp2
      go_end0
      exact ⟨⟨_, rfl⟩, .inl hJ⟩

theorem chunk27_iter : ChunkIter Try.prog 27 := by
  refine ⟨enters_of Try.func27 (by kernel_rfl) rfl, ?_⟩
  intro B1 u1 B2 u2 ad b off n len cap hn hn2 hl2 hlc had l J Jx hg hC hY W h0
  have h := chunk_walk (fen none) 1 (by trivial) rfl (Nat.le_refl _) l B1 u1 B2 u2 ad b off n len cap hn hn2 hl2 hlc had J Jx hg hC (fun k W hk hJ => hY k _ W (by simp [hk]) hJ) W h0
  have h' : CallsIn (fen none) 0 Try.prog 27 _ W _ := callsIn_wide.2 (callsIn_wide.1 h)
  simpa using h'
end Go.Ev
