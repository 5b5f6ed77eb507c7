/- What ascii.Put gives back. -/
import Derived.Test.YtbgbplacpjcmfaaAscHex
import Derived.Test.YtbgbplacpjcmfaaBig
import Derived.LoopNIn
import Derived.WalkKit
namespace Go.Proofs
open Go.Shelf Go.RowKit Go.Ev

/-- Four bytes as one number; how far. -/
def wordK (p : List Int) : Nat → Int
  | 0 => 0
  | k + 1 => wordK p k * 256 + p.getD k 0
/-- The signs of a number, the last one first. -/
def sign (N : Int) (j : Nat) : Int := 33 + N / 85 ^ j % 85
def fiveA (N : Int) : List Int := [sign N 4, sign N 3, sign N 2, sign N 1, sign N 0]
def groupA (p : List Int) : List Int := if wordK p 4 = 0 ∧ p.length = 4 then [122] else (fiveA (wordK p 4)).take (p.length + 1)
def putB (bs : List Int) (k : Nat) : List Int := (List.range k).flatMap fun j => groupA (chunks 4 bs j)
def putA (bs : List Int) : List Int := putB bs (chunkNo 4 bs.length)

theorem wordK_range {p : List Int} (h : ∀ x ∈ p, 0 ≤ x ∧ x < 256) : ∀ k : Nat, 0 ≤ wordK p k ∧ wordK p k < 256 ^ k
  | 0 => ⟨Int.le_refl _, by show (0 : Int) < 256 ^ 0; decide⟩
  | k + 1 => by
    have ih := wordK_range h k
    have hx : 0 ≤ p.getD k 0 ∧ p.getD k 0 < 256 := by
      rw [List.getD_eq_getElem?_getD]
      cases hg : p[k]? with
      | none => exact ⟨by decide, by decide⟩
      | some x => exact h x (List.mem_of_getElem? hg)
    unfold wordK
    rw [Int.pow_succ]
    omega

theorem orI {N x : Int} (h1 : 0 ≤ N ∧ N < 16777216) (h2 : 0 ≤ x ∧ x < 256) : bits .or .i64 (N * 256) x = N * 256 + x := by
  obtain ⟨a, rfl⟩ : ∃ a : Nat, N = (a : Int) := ⟨N.toNat, by omega⟩
  obtain ⟨b, rfl⟩ : ∃ b : Nat, x = (b : Int) := ⟨x.toNat, by omega⟩
  show IntKind.wrap .i64 ((BitVec.ofInt 64 ((a : Int) * 256) ||| BitVec.ofInt 64 (b : Int)).toNat : Int) = _
  rw [show (a : Int) * 256 = ((a * 2 ^ 8 : Nat) : Int) by omega, Go.Ev.or64 (by omega) (by omega), Go.Ev.shl_or (by omega), Go.Ev.wrap_i64 (by omega)]
  omega
theorem div85 {N : Int} (h : 0 ≤ N) (c : Nat) : 0 ≤ N / 85 ^ c ∧ N / 85 ^ c ≤ N ∧ N / 85 ^ c / 85 = N / 85 ^ (c + 1) := by
  obtain ⟨n, rfl⟩ : ∃ n : Nat, N = (n : Int) := ⟨N.toNat, by omega⟩
  have e : ∀ c : Nat, (n : Int) / 85 ^ c = ((n / 85 ^ c : Nat) : Int) := fun c => by
    rw [show (85 : Int) = ((85 : Nat) : Int) from rfl, ← Int.natCast_pow, ← Int.natCast_ediv]
  rw [e, e]
  refine ⟨Int.natCast_nonneg _, Int.ofNat_le.2 (Nat.div_le_self _ _), ?_⟩
  rw [show (85 : Int) = ((85 : Nat) : Int) from rfl, ← Int.natCast_ediv, Nat.div_div_eq_div_mul, ← Nat.pow_succ]
theorem isBuilder_heap {T e : TypeId} {B b : Nat} {bs : List Value} {w w' : World} (h : Lib.IsBuilder T e B b bs w) {S : Nat} (hS : w.heap.size ≤ S) (hh : ∀ k, k < S → w'.heap[k]? = w.heap[k]?) : Lib.IsBuilder T e B b bs w' := by
  have lt : ∀ {k : Nat} {o : Obj}, w.heap[k]? = some o → k < S := fun {k o} hk => by
    have := (Array.getElem?_eq_some_iff.1 hk).1; omega
  have one : ∀ {q : Value}, Lib.BuilderAt T e B b q bs w → Lib.BuilderAt T e B b q bs w' := fun {q} ⟨hB, v, hb, ⟨hl, ho⟩, hne⟩ => by
    refine ⟨hB, v, (hh b (lt hb)).trans hb, ⟨hl, ?_⟩, hne⟩
    rcases ho with ho | ⟨g, cap, cur, h1, h2, h3, h4⟩
    · exact .inl ho
    · exact .inr ⟨g, cap, cur, h1, h2, (hh g (lt h3)).trans h3, h4⟩
  rcases h with h | h
  · exact .inl (one h)
  · exact .inr (one h)
theorem chunk_step (bs : List Int) (k : Nat) : putB bs (k + 1) = putB bs k ++ groupA (chunks 4 bs k) := by
  unfold putB
  rw [List.range_succ, List.flatMap_append]
  simp
theorem groupA_len (p : List Int) : (groupA p).length ≤ 5 := by
  unfold groupA
  split
  · simp
  · rw [List.length_take]; simp [fiveA]; omega
theorem putB_len (bs : List Int) : ∀ k : Nat, (putB bs k).length ≤ 5 * k
  | 0 => by simp [putB]
  | k + 1 => by
    rw [chunk_step, List.length_append]
    have := putB_len bs k
    have := groupA_len (chunks 4 bs k)
    omega
theorem sign_range {N : Int} (j : Nat) : 0 ≤ sign N j ∧ sign N j < 256 := by unfold sign; omega

theorem putB_range (bs : List Int) (k : Nat) : ∀ x ∈ putB bs k, 0 ≤ x ∧ x < 256 := fun x hx => by
  unfold putB at hx
  obtain ⟨j, _, hx⟩ := List.mem_flatMap.1 hx
  unfold groupA at hx
  split at hx
  · rw [List.mem_singleton.1 hx]; omega
  · have := List.mem_of_mem_take hx
    simp only [fiveA, List.mem_cons, List.not_mem_nil, or_false] at this
    rcases this with rfl | rfl | rfl | rfl | rfl <;> exact sign_range _
theorem wordK_small {p : List Int} (h : ∀ x ∈ p, 0 ≤ x ∧ x < 256) {k : Nat} (hk : k < 4) : 0 ≤ wordK p k ∧ wordK p k < 16777216 := by
  have := wordK_range h k
  rcases (by omega : k = 0 ∨ k = 1 ∨ k = 2 ∨ k = 3) with rfl | rfl | rfl | rfl <;> simp at this <;> omega

set_option maxHeartbeats 4000000 in
set_option maxRecDepth 100000 in
theorem Try.put_walk (bs : List Int) (hb : ∀ x ∈ bs, 0 ≤ x ∧ x < 256) (ad : Option Addr) (g off cap : Nat) (had : 0 < bs.length → ad = some ⟨g, off, none⟩) (hcap : bs.length ≤ cap) (hlen : bs.length ≤ 1099511627776) (w : World)
    (hg : ∀ j x, bs[j]? = some x → w.cell? ⟨g, off + j, none⟩ = some (.int .u8 x)) (hgs : 0 < bs.length → g < w.heap.size) :
    Calls Try.prog 12 #[.slice ad bs.length cap] w fun e w' => e = .returned (.string (bytesStr (putA bs ++ [126, 62]))) ∧ Below w.heap.size w w' := by
  obtain ⟨n, hn⟩ : ∃ n, bs.length = n := ⟨_, rfl⟩
  rw [hn] at hlen hcap had ⊢
  have HG := Try.hidA hg
  have HB := Try.hidA hb
  clear hg hb
  go_enter Try.func12, Try.ntmps12
  go_wp2
  have H1 := Try.hidA (Lib.fresh_isBuilder 36 5 w)
  have Hb1 := Try.hidA ((Below.refl w.heap.size w).alloc (Nat.le_refl _) (.cells #[.pointer none, .slice none 0 0] 36))
  go_loopw [4] (fun i wr => ∃ k : Nat, k ≤ chunkNo 4 n ∧ i = .int .i64 ((4 * k : Nat) : Int) ∧ Hid (Lib.IsBuilder 36 5 w.heap.size w.heap.size (VB (putB bs k)) wr) ∧ Hid (Below w.heap.size w wr)) (fun i _ => n + 4 - (intOf i).toNat)
  case atStart => exact ⟨0, Nat.zero_le _, rfl, H1, Hb1⟩
  case round =>
    obtain ⟨k, hk, rfl, HI, HW⟩ := hrel
    obtain ⟨i, hi⟩ : ∃ i, 4 * k = i := ⟨_, rfl⟩
    rw [hi]
    by_cases hlt : i < n
    · obtain rfl := had (by omega)
      have hlt' : (i : Int) < (n : Int) := by omega
      obtain ⟨e, he⟩ : ∃ e : Nat, min (i + 4) n = e := ⟨_, rfl⟩
      have he' : (if (n : Int) < (i : Int) + 4 then (n : Int) else (i : Int) + 4) = (e : Int) := by rw [← he]; split <;> omega
      have f1 : (0 : Int) ≤ (i : Int) := by omega
      have f2 : (i : Int) ≤ (e : Int) := by omega
      have f3 : (e : Int) ≤ (cap : Int) := by omega
      have f4 : ¬ cap = i := by omega
      have f5 : e ≤ cap := by omega
      have f6 : i ≤ e := by omega
      go_wp2
      obtain ⟨m, hm⟩ : ∃ m : Nat, (min ((i : Int) + 4) (n : Int)).toNat - i = m := ⟨_, rfl⟩
      rw [hm]
      have hm1 : m = min 4 (n - i) := by omega
      clear hm
      generalize min ((i : Int) + 4) (n : Int) = q
      obtain ⟨p, hp⟩ : ∃ p, chunks 4 bs k = p := ⟨_, rfl⟩
      have hpl : p.length = m := by rw [← hp]; unfold chunks; rw [List.length_take, List.length_drop]; omega
      have Hp := Try.hidA (show ∀ x ∈ p, 0 ≤ x ∧ x < 256 from fun x hx => by
        rw [← hp] at hx
        exact HB.out x (List.mem_of_mem_drop (List.mem_of_mem_take hx)))
      have HP := Try.hidA (show ∀ j x, p[j]? = some x → bs[i + j]? = some x from fun j x hj => by
        rw [← hp] at hj
        unfold chunks at hj
        rw [List.getElem?_take] at hj
        split at hj
        · rw [List.getElem?_drop, show k * 4 = i by omega] at hj; exact hj
        · cases hj)
      have hgw := hgs (by omega)
      have m4 : m ≤ 4 := by omega
      have Hm1 := Try.hidA hm1
      clear hm1
      have m1 : 1 ≤ m := by have := Hm1.out; omega
      go_loopw [6, 24] (fun nv kv w2 => ∃ j : Nat, j ≤ 4 ∧ kv = .int .i64 (j : Int) ∧ nv = .int .i64 (wordK p j) ∧ Hid (Lib.IsBuilder 36 5 w.heap.size w.heap.size (VB (putB bs k)) w2) ∧ Hid (Below w.heap.size w w2)) (fun _ kv _ => 4 - (intOf kv).toNat)
      case atStart => exact ⟨0, Nat.zero_le _, rfl, rfl, HI, HW⟩
      case round =>
        obtain ⟨j, hj, rfl, rfl, HI2, HW2⟩ := hrel
        by_cases hj4 : j < 4
        · have hj4' : (j : Int) < 4 := by omega
          by_cases hjm : j < m
          · have hjm' : (j : Int) < (m : Int) := by omega
            obtain ⟨x, hx⟩ : ∃ x, p[j]? = some x := ⟨_, List.getElem?_eq_getElem (by omega)⟩
            have hxr := Hp.out x (List.mem_of_getElem? hx)
            have hcx : wr.cell? ⟨g, off + i + j, none⟩ = some (.int .u8 x) := by
              rw [HW2.out.cell (p := ⟨g, off + i + j, none⟩) hgw, Nat.add_assoc]; exact HG.out (i + j) x (HP.out j x hx)
            obtain ⟨N, hN⟩ : ∃ N, wordK p j = N := ⟨_, rfl⟩
            have hNr := wordK_small Hp.out hj4
            rw [hN] at hNr ⊢
            obtain ⟨hN2, hN3⟩ := hNr
            have Hx := Try.hidA hx
            clear hx
            go_wp2
            refine ⟨⟨j + 1, by omega, by rw [Int.natCast_add]; rfl, ?_, HI2, HW2⟩, by simp [intOf]; omega⟩
            rw [orI ⟨hN2, hN3⟩ hxr]
            unfold wordK
            rw [hN, List.getD_eq_getElem?_getD, Hx.out]
            rfl
          · have hjm' : ¬ (j : Int) < (m : Int) := by omega
            obtain ⟨N, hN⟩ : ∃ N, wordK p j = N := ⟨_, rfl⟩
            have hNr := wordK_small Hp.out hj4
            rw [hN] at hNr ⊢
            obtain ⟨hN2, hN3⟩ := hNr
            go_wp2
            refine ⟨⟨j + 1, by omega, by rw [Int.natCast_add]; rfl, ?_, HI2, HW2⟩, by simp [intOf]; omega⟩
            unfold wordK
            rw [hN, List.getD_eq_getElem?_getD, List.getElem?_eq_none (by omega)]
            simp
        · have hj4' : ¬ (j : Int) < 4 := by omega
          obtain ⟨N, hN⟩ : ∃ N, wordK p j = N := ⟨_, rfl⟩
          have hNr := wordK_range Hp.out j
          rw [show j = 4 by omega] at hN hNr
          rw [show j = 4 by omega, hN]
          rw [hN, show (256 : Int) ^ 4 = 4294967296 by decide] at hNr
          obtain ⟨hN2, hN3⟩ := hNr
          obtain ⟨J, hJ⟩ : ∃ J : Int, ((4 : Nat) : Int) = J := ⟨_, rfl⟩
          rw [hJ]
          have hJ4 : ¬ J < 4 := by omega
          have hkn : k < chunkNo 4 n := (chunkNo_lt (by omega)).2 (by omega)
          have hbl : (VB (putB bs k)).length ≤ 5 * 1099511627776 := by
            have := putB_len bs k
            unfold VB; rw [List.length_map]; omega
          by_cases hz : N = 0 ∧ m = 4
          · obtain ⟨hN0, hm4⟩ := hz
            have hm4' : (m : Int) = 4 := by omega
            go_wp2_with (go_at_call 18; refine (Try.writeByte w.heap.size w.heap.size _ _ _ HI2.out (by omega) HW2.out.size).mono ?_)
            intro e2 w4 he2 h4 hb4
            subst he2
            have H4 := Try.hidA (show Lib.IsBuilder 36 5 w.heap.size w.heap.size (VB (putB bs (k + 1))) w4 from by
              refine Or.inr ?_
              rw [chunk_step, hp]
              unfold groupA
              rw [if_pos ⟨hN.trans hN0, by omega⟩]
              unfold VB at h4 ⊢
              rw [List.map_append]
              exact h4)
            have Hb4 := Try.hidA (HW2.out.trans hb4)
            clear h4 hb4
            go_wp2
            refine ⟨⟨k + 1, by omega, by rw [show 4 * (k + 1) = i + 4 by omega]; rfl, H4, Hb4⟩, by simp [intOf]; omega⟩
          · have hz' : ¬ (N = 0 ∧ (m : Int) = 4) := by omega
            obtain ⟨S, hS⟩ : ∃ S, wr.heap.size = S := ⟨_, rfl⟩
            obtain ⟨wq, hwq⟩ : ∃ wq, wr.alloc (.cells #[.int .u8 0, .int .u8 0, .int .u8 0, .int .u8 0, .int .u8 0] 42) = wq := ⟨_, rfl⟩
            have Hold := Try.hidA (show ∀ b, b < S → wq.heap[b]? = wr.heap[b]? from fun b hb => by rw [← hwq]; exact Lib.alloc_old wr _ b (by omega))
            have Hq := Try.hidA (show wq.heap[S]? = some (.cells #[.int .u8 0, .int .u8 0, .int .u8 0, .int .u8 0, .int .u8 0] 42 (0, 0)) by rw [← hwq, ← hS]; exact heap_alloc_new wr _)
            have HWq := Try.hidA (show Below w.heap.size w wq by rw [← hwq]; exact HW2.out.alloc HW2.out.size _)
            have HN := Try.hidA hN
            clear hN
            go_wp2
            all_goals (
              go_loopw [6, 49] (fun nv kv w3 => ∃ c : Nat, c ≤ 5 ∧ kv = .int .i64 (c : Int) ∧ nv = .int .i64 (N / 85 ^ c) ∧ Hid (Below S wq w3) ∧ Hid (∀ b : Nat, b < 5 → w3.cell? ⟨S, b, none⟩ = some (.int .u8 (if 5 ≤ b + c then sign N (4 - b) else 0))) ∧ Hid (∀ b : Nat, w3.frozen? ⟨S, b, none⟩ = false)) (fun _ kv _ => 5 - (intOf kv).toNat)
              case atStart =>
                refine ⟨0, Nat.zero_le _, rfl, by first | (simp; done) | (simp; omega), Below.refl _ _, fun b hb => ?_, fun b => Lib.frozen_of_heap Hq.out b⟩
                rw [Lib.cell_of_heap Hq.out]
                rcases (by omega : b = 0 ∨ b = 1 ∨ b = 2 ∨ b = 3 ∨ b = 4) with rfl | rfl | rfl | rfl | rfl <;> rfl
              case round =>
                obtain ⟨c, hc, rfl, rfl, HWS, HC, HF⟩ := hrel
                by_cases hc5 : c < 5
                · have hc5' : (c : Int) < 5 := by omega
                  obtain ⟨b, hb⟩ : ∃ b, c + b = 4 := ⟨4 - c, by omega⟩
                  have hb' : (4 : Int) - (c : Int) = (b : Int) := by omega
                  have hb5 : b < 5 := by omega
                  obtain ⟨M, hM⟩ : ∃ M, N / 85 ^ c = M := ⟨_, rfl⟩
                  obtain ⟨hM0, hM1, hM2⟩ := div85 hN2 c
                  rw [hM] at hM0 hM1 hM2 ⊢
                  have hM3 : M < 4294967296 := by omega
                  clear hM1
                  have hcb := HC.out b hb5
                  have hfb := HF.out b
                  go_wp2
                  refine ⟨⟨c + 1, by omega, by rw [Int.natCast_add]; rfl, by rw [← hM2], HWS.out.setCell (p := ⟨S, b, none⟩) (Nat.le_refl _) _, fun b2 hb2 => ?_, fun b2 => by rw [World.frozen?_setCell]; exact HF.out b2⟩, by simp [intOf]; omega⟩
                  by_cases hbb : b2 = b
                  · subst hbb
                    rw [World.cell?_setCell_same _ _ _ hcb, if_pos (by omega), show 4 - b2 = c by omega]
                    unfold sign
                    rw [hM]
                  · rw [World.cell?_setCell_other _ _ _ _ (by intro e; exact hbb (Addr.mk.inj e).2.1.symm), HC.out b2 hb2]
                    by_cases h5 : 5 ≤ b2 + c
                    · rw [if_pos h5, if_pos (by omega)]
                    · rw [if_neg h5, if_neg (by omega)]
                · have hc5' : ¬ (c : Int) < 5 := by omega
                  have ec : c = 5 := by omega
                  have hBwr : Lib.IsBuilder 36 5 w.heap.size w.heap.size (VB (putB bs k)) wr := isBuilder_heap (S := S) HI2.out (by omega) (fun b hb => (HWS.out.block b hb).trans (Hold.out b hb))
                  have HBwr := Try.hidA hBwr
                  have HWwr := Try.hidA (show Below w.heap.size w wr from HWq.out.trans (HWS.out.mono (by have := HW2.out.size; omega)))
                  have HC5 := Try.hidA (show ∀ j u, (VB ((fiveA N).take (m + 1)))[j]? = some u → wr.cell? ((⟨S, 0, none⟩ : Addr).add j) = some u from fun j u hju => by
                    have hj5 : j < 5 := by
                      have := (List.getElem?_eq_some_iff.1 hju).1
                      unfold VB at this
                      rw [List.length_map, List.length_take] at this
                      simp [fiveA] at this
                      omega
                    have hcj := HC.out j hj5
                    rw [if_pos (by omega)] at hcj
                    have : (⟨S, 0, none⟩ : Addr).add j = ⟨S, j, none⟩ := by simp [Addr.add]; omega
                    rw [this, hcj]
                    unfold VB at hju
                    rw [List.getElem?_map, List.getElem?_take] at hju
                    split at hju
                    · rcases (by omega : j = 0 ∨ j = 1 ∨ j = 2 ∨ j = 3 ∨ j = 4) with rfl | rfl | rfl | rfl | rfl <;> simpa [fiveA] using hju
                    · cases hju)
                  clear hBwr
                  have hSb : S ≠ w.heap.size := by have := (HI2.out : Lib.IsBuilder ..).elim (fun h => h.lt) (fun h => h.lt); omega
                  have g1 : (0 : Int) ≤ (m : Int) + 1 := by omega
                  have g2 : (m : Int) + 1 ≤ 5 := by omega
                  have hnl : (VB ((fiveA N).take (m + 1))).length = m + 1 := by
                    unfold VB; rw [List.length_map, List.length_take]; simp [fiveA]; omega
                  go_wp2_with (go_at_call 20; refine (Try.write w.heap.size w.heap.size _ ⟨S, 0, none⟩ (m + 1) 5 (VB ((fiveA N).take (m + 1))) _ HBwr.out hnl HC5.out hSb (fun u hu => by
                    obtain ⟨x, _, rfl⟩ := List.mem_map.1 hu
                    rfl) (by omega) HWwr.out.size).mono ?_)
                  intro e3 w5 he3 h5 hb5
                  subst he3
                  have H5 := Try.hidA (show Lib.IsBuilder 36 5 w.heap.size w.heap.size (VB (putB bs (k + 1))) w5 from by
                    refine Or.inr ?_
                    rw [chunk_step, hp]
                    unfold groupA
                    rw [if_neg (by rw [HN.out, hpl]; omega), HN.out, hpl]
                    unfold VB at h5 ⊢
                    rw [List.map_append]
                    first | exact h5 | (rw [(by assumption : N = 0)]; exact h5))
                  have Hb5 := Try.hidA (HWwr.out.trans hb5)
                  clear h5 hb5
                  go_wp2
                  refine ⟨⟨k + 1, by omega, by rw [show 4 * (k + 1) = i + 4 by omega]; rfl, H5, Hb5⟩, by simp [intOf]; omega⟩)
    · have hlt' : ¬ (i : Int) < (n : Int) := by omega
      have hke : k = chunkNo 4 n := by
        rcases Nat.lt_or_ge k (chunkNo 4 n) with h | h
        · have := (chunkNo_lt (by omega : 1 ≤ 4)).1 h; omega
        · omega
      have e2 : VB (putB bs k) = Lib.byteCells ((putB bs k).map fun n : Int => UInt8.ofNat n.toNat) := VB_cells (putB_range bs k)
      rw [e2] at HI
      go_wp2_with (go_at_call 19; refine (Try.Builder_String_any w.heap.size w.heap.size _ _ HI.out HW.out.size).mono ?_)
      intro e3 w3 he3 hb3
      subst he3
      have Hb3 := Try.hidA (HW.out.trans hb3)
      clear hb3
      have hpl := putB_len bs (chunkNo 4 n)
      have hcn : chunkNo 4 n ≤ n := by unfold chunkNo; omega
      have hsz : ¬ 9223372036854775807 < (putB bs (chunkNo 4 n)).length + 2 := by omega
      go_wp2
      go_ret
      refine ⟨?_, Hb3.out⟩
      show Ending.returned (Value.string _) = Ending.returned (Value.string (bytesStr (putA bs ++ [126, 62])))
      unfold bytesStr putA
      rw [List.map_append, hn]
      congr 2
end Go.Proofs
