/- Part of a proof about the given program: EvFF. -/
import Derived.Test.YtbgbplacpjcmfaaEvEE
namespace Go.Ev

/-! # Functions whose contract is proved by hand: no objects come in, none go out -/
theorem hand_ok {P : Program} {g : FuncId} {gi go : Sg} (hi : gi.os = []) (ho : go.os = []) {f : gi.D → Option (alt [go])}
    (h : ∀ x y, f x = some y → ∀ (φ : Phi) (A : Nat → Prop) (w : World) (vals : List Value), RelVs φ A w (gi.vals x) vals → (∀ k, globN = some k → ∃ m : Int, w.cell? ⟨k, 0, none⟩ = some (.int .i64 m)) →
      Calls P g ⟨vals⟩ w fun e w' => ∃ v, e = .returned v ∧ (∀ φ A, RelV φ A w' (altOut [go] y).1 v) ∧ Grown w w') : EntOk P g ⟨gi, [go], f⟩ := by
  intro x y hx args hl q hin hq φ A w vals hv hob hgl
  unfold packIn at hin
  cases hlen : Nat.beq hl.length gi.os.length with
  | false => rw [hlen] at hin; cases hin
  | true =>
    rw [hlen] at hin; simp only [cond] at hin
    have hlen := Nat.eq_of_beq_eq_true hlen
    obtain ⟨φ2, hφ2, _, hv2, hob2⟩ := packV_sound (tn := gi.tn) hin hq sig0_nodup.1 (by rw [sig0_len]; exact hlen) hob hv
    have hl0 : hl.length = 0 := by rw [hlen, hi]; rfl
    refine (h x y hx φ2 A w vals hv2 (fun k hk => (hgl k hk).2.2.2)).mono fun e w' ⟨v, he, hr, hg⟩ => ?_
    have hlo : (altOut [go] y).2.length = 0 := by
      show (go.objs y).length = 0
      unfold Sg.objs
      rw [encOs_len, ho]; rfl
    have hno : ∀ o x, hlOut (altOut [go] y).2 o ≠ some x := fun o x hx => by
      have := hlOut_lt hx; omega
    refine ⟨φ, A, v, he, hr φ A, ⟨fun o x hx => absurd hx (hno o x), fun o o' x x' b b' hx => absurd hx (hno o x), fun o ho' => ?_⟩, ⟨hg.size, fun k hk _ => hg.heap k hk, fun _ _ h => h, fun _ _ h _ => h, hg.os, hg.tape, hg.output, hgl⟩, fun i hi => by omega⟩
    exact hob.nx o (by omega)
end Go.Ev
