/- What ascii.Hex gives back. -/
import Derived.Test.YtbgbplacpjcmfaaEvEE
import Derived.Test.YtbgbplacpjcmfaaAscBld
import Derived.Test.YtbgbplacpjcmfaaAscPlain
import Derived.Shelf.Strings.BuilderF
import Derived.Below
import Derived.BigCall
import Derived.BigGuard
namespace Go.Proofs
open Go.Shelf Go.RowKit Go.Ev

def hexDig (n : Int) : Int := if n < 10 then 48 + n else 55 + n
def hexA : List Int → List Int
  | [] => []
  | x :: xs => hexDig (x / 16) :: hexDig (x % 16) :: hexA xs
theorem hexA_snoc (x : Int) : ∀ l : List Int, hexA (l ++ [x]) = hexA l ++ [hexDig (x / 16), hexDig (x % 16)]
  | [] => rfl
  | y :: l => by simp [hexA, hexA_snoc x l]
theorem hexA_len : ∀ l : List Int, (hexA l).length = 2 * l.length
  | [] => rfl
  | y :: l => by simp [hexA, hexA_len l]; omega
def VB (l : List Int) : List Value := l.map (Value.int .u8)

theorem hexIdx {y : Int} (h : 0 ≤ y ∧ y < 16) (p : y.toNat < ByteArray.size { data := #[48, 49, 50, 51, 52, 53, 54, 55, 56, 57, 65, 66, 67, 68, 69, 70] }) :
    (({ data := #[48, 49, 50, 51, 52, 53, 54, 55, 56, 57, 65, 66, 67, 68, 69, 70] } : ByteArray)[y.toNat].toNat : Int) = hexDig y := by
  have hall : ∀ n : Fin 16, (({ data := #[48, 49, 50, 51, 52, 53, 54, 55, 56, 57, 65, 66, 67, 68, 69, 70] } : ByteArray)[n.val]'n.isLt).toNat = (hexDig (n.val : Int)).toNat ∧ 0 ≤ hexDig (n.val : Int) := by decide
  obtain ⟨m, rfl⟩ : ∃ m : Nat, y = (m : Int) := ⟨y.toNat, by omega⟩
  have := hall ⟨m, by omega⟩
  simp only [Int.toNat_natCast] at this ⊢
  omega
theorem hexDig_range {y : Int} (h : 0 ≤ y ∧ y < 16) : 0 ≤ hexDig y ∧ hexDig y < 256 := by unfold hexDig; split <;> omega
theorem hexA_range : ∀ {l : List Int}, (∀ x ∈ l, 0 ≤ x ∧ x < 256) → ∀ x ∈ hexA l, 0 ≤ x ∧ x < 256
  | [], _, x, hx => by cases hx
  | y :: l, h, x, hx => by
    have hy := h y (List.mem_cons_self ..)
    simp only [hexA, List.mem_cons] at hx
    rcases hx with rfl | rfl | hx
    · exact hexDig_range (by omega)
    · exact hexDig_range (by omega)
    · exact hexA_range (fun z hz => h z (List.mem_cons_of_mem _ hz)) x hx
theorem VB_cells : ∀ {l : List Int}, (∀ x ∈ l, 0 ≤ x ∧ x < 256) → VB l = Lib.byteCells (l.map fun n => UInt8.ofNat n.toNat)
  | [], _ => rfl
  | x :: l, h => by
    have hx := h x (List.mem_cons_self ..)
    have ih := VB_cells (l := l) (fun z hz => h z (List.mem_cons_of_mem _ hz))
    unfold VB Lib.byteCells at ih ⊢
    rw [List.map_cons, List.map_cons, List.map_cons, ih]
    congr 2
    have : (UInt8.ofNat x.toNat).toNat = x.toNat := by rw [UInt8.toNat_ofNat']; omega
    rw [this]; omega

theorem Try.hidA {p : Prop} (h : p) : Hid p := h

set_option maxHeartbeats 4000000 in
set_option maxRecDepth 100000 in
theorem Try.hex_walk (bs : List Int) (hb : ∀ x ∈ bs, 0 ≤ x ∧ x < 256) (ad : Option Addr) (g off cap : Nat) (had : 0 < bs.length → ad = some ⟨g, off, none⟩) (hcap : bs.length ≤ cap) (hlen : bs.length ≤ 1099511627776) (w : World)
    (hg : ∀ j x, bs[j]? = some x → w.cell? ⟨g, off + j, none⟩ = some (.int .u8 x)) (hgs : 0 < bs.length → g < w.heap.size) :
    Calls Try.prog 10 #[.slice ad bs.length cap] w fun e w' => e = .returned (.string (bytesStr (hexA bs ++ [62]))) ∧ Below w.heap.size w w' := by
  obtain ⟨n, hn⟩ : ∃ n, bs.length = n := ⟨_, rfl⟩
  rw [hn] at hlen hcap had ⊢
  have HG := Try.hidA hg
  have HB := Try.hidA hb
  clear hg hb
  go_enter Try.func10, Try.ntmps10
  go_wp2
  have H1 := Try.hidA (Lib.fresh_isBuilder 36 5 w)
  have Hb1 := Try.hidA ((Below.refl w.heap.size w).alloc (Nat.le_refl _) (.cells #[.pointer none, .slice none 0 0] 36))
  go_loopw [8] (fun i wr => ∃ k : Nat, k ≤ n ∧ i = .int .i64 k ∧ Hid (Lib.IsBuilder 36 5 w.heap.size w.heap.size (VB (hexA (bs.take k))) wr) ∧ Hid (Below w.heap.size w wr)) (fun i _ => n - (intOf i).toNat)
  case atStart => exact ⟨0, Nat.zero_le _, rfl, H1, Hb1⟩
  case round =>
    obtain ⟨k, hk, rfl, HI, HW⟩ := hrel
    by_cases hlt : k < n
    · obtain rfl := had (by omega)
      have hlt' : (k : Int) < (n : Int) := by omega
      obtain ⟨x, hx⟩ : ∃ x, bs[k]? = some x := ⟨_, List.getElem?_eq_getElem (by omega)⟩
      have hxr := HB.out x (List.mem_of_getElem? hx)
      have hgw := hgs (by omega)
      have hcx : wr.cell? ⟨g, off + k, none⟩ = some (.int .u8 x) := by
        rw [HW.out.cell (p := ⟨g, off + k, none⟩) hgw]; exact HG.out k x hx
      have Hx := Try.hidA hx
      clear hx
      have hvl : (VB (hexA (bs.take k))).length ≤ 2 * 1099511627776 := by
        unfold VB; rw [List.length_map, hexA_len, List.length_take]; omega
      have hBw : w.heap.size ≤ wr.heap.size := HW.out.size
      go_wp2_with (go_at_call 18; refine (Try.writeByte w.heap.size w.heap.size _ _ _ HI.out (by omega) hBw).mono ?_)
      rintro e w2 ⟨rfl, h2, hb2⟩
      have hBw2 : w.heap.size ≤ w2.heap.size := Nat.le_trans hBw hb2.size
      have H2 := Try.hidA h2
      have Hb2 := Try.hidA hb2
      clear h2 hb2
      go_wp2_with (go_at_call 18; refine (Try.writeByte w.heap.size w.heap.size _ _ _ (Or.inr H2.out) (by rw [List.length_append]; simp; omega) hBw2).mono ?_)
      rintro e w3 ⟨rfl, h3, hb3⟩
      have Hb3 := Try.hidA (HW.out.trans (Hb2.out.trans hb3))
      have H3 := Try.hidA h3
      clear h3 hb3
      go_wp2
      refine ⟨⟨k + 1, by omega, by rw [Int.natCast_add]; rfl, ?_, Hb3⟩, by simp [intOf]; omega⟩
      have e := H3.out
      rw [hexIdx (by omega), hexIdx (by omega), List.append_assoc] at e
      rw [List.take_add_one, Hx.out, Option.toList_some, hexA_snoc]
      exact Or.inr (by unfold VB at e ⊢; rw [List.map_append]; exact e)
    · have hke : k = n := by omega
      subst hke
      have hBw : w.heap.size ≤ wr.heap.size := HW.out.size
      rw [List.take_of_length_le (by omega)] at HI
      have hvl : (VB (hexA bs)).length ≤ 2 * 1099511627776 := by
        unfold VB; rw [List.length_map, hexA_len]; omega
      go_wp2_with (go_at_call 18; refine (Try.writeByte w.heap.size w.heap.size _ _ _ HI.out (by omega) hBw).mono ?_)
      rintro e w2 ⟨rfl, h2, hb2⟩
      have hBw2 : w.heap.size ≤ w2.heap.size := Nat.le_trans hBw hb2.size
      have e2 : VB (hexA bs) ++ [Value.int .u8 62] = Lib.byteCells ((hexA bs ++ [62]).map fun n : Int => UInt8.ofNat n.toNat) := by
        rw [← VB_cells (fun x hx => by
          rcases List.mem_append.1 hx with h | h
          · exact hexA_range HB.out x h
          · rw [List.mem_singleton.1 h]; omega)]
        unfold VB
        rw [List.map_append]; rfl
      rw [e2] at h2
      have H2 := Try.hidA h2
      have Hb2 := Try.hidA (HW.out.trans hb2)
      clear h2 hb2 e2
      go_wp2_with (go_at_call 19; refine (Try.Builder_String_any w.heap.size w.heap.size _ _ (Or.inr H2.out) hBw2).mono ?_)
      rintro e w3 ⟨rfl, hb3⟩
      have Hb3 := Try.hidA (Hb2.out.trans hb3)
      clear hb3
      go_wp2
      go_ret
      refine ⟨?_, Hb3.out⟩
      show Ending.returned (Value.string _) = Ending.returned (Value.string (bytesStr (hexA bs ++ [62])))
      unfold bytesStr
      rw [List.map_append]
      rfl
end Go.Proofs
