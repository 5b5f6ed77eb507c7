/- The contracts of ascii.Hex, ascii.Put and strings.Cut, as entries. -/
import Derived.Test.YtbgbplacpjcmfaaEvFF
import Derived.Test.YtbgbplacpjcmfaaAscPut
namespace Go.Ev.Asc
open Go.Proofs Go.RowKit
noncomputable abbrev PA := Go.Proofs.Try.prog

abbrev gi10 : Sg := ⟨[0], [.lf (.sl (.int .u8))], []⟩
abbrev go10 : Sg := ⟨[2], [.lf .str], []⟩
abbrev gi12 : Sg := ⟨[0], [.lf (.sl (.int .u8))], []⟩
abbrev go12 : Sg := ⟨[2], [.lf .str], []⟩
abbrev gi22 : Sg := ⟨[0, 1], [.lf .str, .lf .str], []⟩
abbrev go22 : Sg := ⟨[4, 5, 6], [.lf .str, .lf .str, .lf .bool], []⟩
def byB (xs : List Int) : Bool := xs.all fun x => decide (0 ≤ x) && decide (x < 256)
def f10 (x : gi10.D) : Option go10.D := if x.1.length ≤ 1099511627776 ∧ byB x.1 = true then some (bytesStr (hexA x.1 ++ [62]), ()) else none
def f12 (x : gi12.D) : Option go12.D := if x.1.length ≤ 1099511627776 ∧ byB x.1 = true then some (bytesStr (putA x.1 ++ [126, 62]), ()) else none
def f22 (x : gi22.D) : Option go22.D := if x.1.size < 4294967281 then some (⟨(Lib.cut x.1.data.toList x.2.1.data.toList).1.toArray⟩, ⟨(Lib.cut x.1.data.toList x.2.1.data.toList).2.1.toArray⟩, (Lib.cut x.1.data.toList x.2.1.data.toList).2.2, ()) else none
theorem byB_spec {xs : List Int} (h : byB xs = true) : ∀ x ∈ xs, 0 ≤ x ∧ x < 256 := fun x hx => by
  have := List.all_eq_true.1 h x hx
  simpa using this

theorem grown_below {w w' : World} (h : Below w.heap.size w w') : Grown w w' := ⟨h.size, h.block, h.os, h.tape, h.output⟩

theorem lift_u8 {A : Nat → Prop} {w : World} : ∀ {xs : List Int} {vs : List Value}, Lift (RelD A w (.int .u8)) xs vs → vs = xs.map (Value.int .u8)
  | [], _, h => h
  | x :: xs, vs, ⟨v1, v2, h1, h2, h3⟩ => by rw [h1, h2, lift_u8 h3]; rfl
/-- A row of bytes that came in, cell by cell. -/
theorem row_cells {φ : Phi} {A : Nat → Prop} {w : World} {xs : List Int} {v : Value} (h : RelV φ A w (.lf (.sl (.int .u8) xs none)) v) :
    ∃ ad b off c, v = .slice ad xs.length c ∧ xs.length ≤ c ∧ (0 < xs.length → ad = some ⟨b, off, none⟩) ∧ (∀ j x, xs[j]? = some x → w.cell? ⟨b, off + j, none⟩ = some (.int .u8 x)) ∧ (0 < xs.length → b < w.heap.size) := by
  simp only [RelV, RelL] at h
  obtain ⟨ad, c, rfl, _, hlc, hr⟩ := h
  rcases hr with rfl | ⟨b, off, vs, e, hA, hbs, hl, hc⟩
  · refine ⟨ad, 0, 0, c, rfl, hlc, ?_, ?_, ?_⟩
    · intro h; cases h
    · intro j x h; simp at h
    · intro h; cases h
  · refine ⟨ad, b, off, c, rfl, hlc, fun _ => e, fun j x hj => ?_, fun _ => hbs⟩
    exact hc j _ (by rw [lift_u8 hl, List.getElem?_map, hj]; rfl)

theorem f10_ok : EntOk PA 10 ⟨gi10, [go10], f10⟩ := by
  refine hand_ok rfl rfl ?_
  intro x y hx φ A w vals hv _
  unfold f10 at hx
  split at hx
  case isFalse => cases hx
  rename_i hc
  simp only [Option.some.injEq] at hx
  subst hx
  obtain ⟨v, vs', rfl, hv1, rfl⟩ := hv
  obtain ⟨ad, b, off, c, rfl, hlc, had, hcells, hb⟩ := row_cells hv1
  refine (Try.hex_walk x.1 (byB_spec hc.2) ad b off c had hlc hc.1 w hcells hb).mono fun e w' ⟨he, hw⟩ => ?_
  exact ⟨_, he, fun _ _ => rfl, grown_below hw⟩
theorem f12_ok : EntOk PA 12 ⟨gi12, [go12], f12⟩ := by
  refine hand_ok rfl rfl ?_
  intro x y hx φ A w vals hv _
  unfold f12 at hx
  split at hx
  case isFalse => cases hx
  rename_i hc
  simp only [Option.some.injEq] at hx
  subst hx
  obtain ⟨v, vs', rfl, hv1, rfl⟩ := hv
  obtain ⟨ad, b, off, c, rfl, hlc, had, hcells, hb⟩ := row_cells hv1
  refine (Try.put_walk x.1 (byB_spec hc.2) ad b off c had hlc hc.1 w hcells hb).mono fun e w' ⟨he, hw⟩ => ?_
  exact ⟨_, he, fun _ _ => rfl, grown_below hw⟩
theorem grown_drewN (w : World) : ∀ n, Grown w (w.drewN n)
  | 0 => ⟨Nat.le_refl _, fun _ _ => rfl, rfl, rfl, rfl⟩
  | n + 1 => by
    have h := grown_drewN w.drew n
    exact ⟨h.size, h.heap, h.os, h.tape, h.output⟩
theorem f22_ok : EntOk PA 22 ⟨gi22, [go22], f22⟩ := by
  refine hand_ok rfl rfl ?_
  intro x y hx φ A w vals hv hg
  unfold f22 at hx
  split at hx
  case isFalse => cases hx
  rename_i hc
  simp only [Option.some.injEq] at hx
  subst hx
  obtain ⟨v, vs', rfl, hv1, v2, vs2, rfl, hv2, rfl⟩ := hv
  obtain ⟨m, hm⟩ := hg 0 rfl
  have hv1 : v = .string x.1 := hv1
  have hv2 : v2 = .string x.2.1 := hv2
  subst hv1 hv2
  refine (Try.strings_Cut x.1 x.2.1 m w hc hm).mono fun e w' ⟨he, n, hw⟩ => ?_
  subst hw
  exact ⟨_, he, fun _ _ => ⟨_, rfl, _, _, rfl, rfl, _, _, rfl, rfl, _, _, rfl, rfl, rfl⟩, grown_drewN w n⟩
end Go.Ev.Asc
