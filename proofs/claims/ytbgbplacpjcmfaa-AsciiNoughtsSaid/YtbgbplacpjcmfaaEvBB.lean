/- Part of a proof about the given program: EvBB. -/
import Derived.Test.YtbgbplacpjcmfaaEvAA
namespace Go.Ev
open Go.RowKit Go.WideShapes Go.ChangeShapes

/-! # From a contract to the statement -/
def noPhi : Phi := fun _ => none

section
variable {H : Type} {enc : TypeId × Value → H} {P : Program} {w : World} {spare : Nat → Bool} {held : Bool}

/-- A reading of a value whose cells are one. -/
theorem open_leafD {t : TypeId} {s : Shape} {v : Value} {d : DataW H} {ps : List MemPlace} (hs : shapeOf P 9 t = some s) (hf : fitB P 9 t = true) (h : DataW.Trod enc P w 0 spare held t v d ps) (hb : ∀ p ∈ ps, p.block < w.heap.size) :
    ∃ x, RelD NoA w s x v.cells.toList ∧ Wf s x := by
  obtain ⟨fuel, h⟩ := h
  exact trod_open 9 fuel t s _ _ hs hf h hb

theorem open_sl {base : Nat} {r : Reach} {t e : TypeId} {s : Shape} {v : Value} {d : DataW H} {ps : List MemPlace} (hu : P.underlying t = some (.slice e)) (hs : shapeOf P 9 t = some (.slice s)) (hf : fitB P 9 t = true) (hok : Value.okWide P w r base t v)
    (h : DataW.Trod enc P w 0 spare held t v d ps) (hb : ∀ p ∈ ps, p.block < w.heap.size) : ∃ xs : List (den s), RelV noPhi NoA w (.lf (.sl s xs none)) v ∧ Wf (.slice s) xs := by
  obtain ⟨ad, len, cap, rfl⟩ := okWide_slice hu hok
  obtain ⟨x, hx, hw⟩ := open_leafD hs hf h hb
  refine ⟨x, ?_, hw⟩
  simp only [RelV, RelL]
  obtain ⟨ad', c, e, h1, h2⟩ := hx
  simp only [Value.cells, List.cons.injEq, and_true] at e
  exact ⟨ad', c, e, fun _ h => (by cases h), h1, h2⟩

theorem open_i {base : Nat} {r : Reach} {t : TypeId} {k : IntKind} {v : Value} {d : DataW H} {ps : List MemPlace} (hu : P.underlying t = some (.int k)) (hok : Value.okWide P w r base t v) (h : DataW.Trod enc P w 0 spare held t v d ps) :
    ∃ n : Int, RelV noPhi NoA w (.lf (.sc (.int k n))) v ∧ Wf (.int k) n := by
  obtain ⟨n, rfl, _, _, wn⟩ := open_int hu hok h
  refine ⟨n, by simp [RelV, RelL], ?_⟩
  simpa [Lit.wf, Wf] using wn
end

theorem noOb (w : World) : ROb (envOf noPhi NoA w (hlOf [])) noPhi NoA (hlOf []) 0 w :=
  ⟨fun o x h => by simp [hlOf] at h, fun o o' x x' b b' h => by simp [hlOf] at h, fun _ _ => rfl⟩

theorem below_of_frm {w w' : World} {A' : Nat → Prop} (h : Frm (envOf noPhi NoA w (hlOf [])) A' w') : Below w.heap.size w w' :=
  ⟨h.os, h.tape, h.output, h.size, fun k hk => h.heap k hk (fun ⟨o, x, b, hx, _⟩ => by simp [hlOf] at hx)⟩

/-- A law that says true, called. -/
theorem law_call {P : Program} {g : FuncId} {e : Ent} (hE : EntOk P g e) {x : e.gi.D} {y : alt e.gos} (hx : e.f x = some y) {args : List PV} {q : List (Nat × Nat)} (hin : packIn e.gi args [] = some (q, x)) (hq : Eqs q)
    (hout : (altOut e.gos y).1 = .lf (.sc (.bool true))) {w : World} {vals : List Value} (hv : RelVs noPhi NoA w args vals) (hgl : ∀ k, globN = some k → ∃ m : Int, w.cell? ⟨k, 0, none⟩ = some (.int .i64 m) := by intro _ h; first | (simp [globN] at h; done) | assumption) : Calls P g ⟨vals⟩ w fun en w' => en = .returned (.bool true) ∧ Below w.heap.size w w' := by
  have hglb : GlobAt NoA (Owned noPhi (hlOf [])) w := fun k hk => by
    obtain ⟨m, hm⟩ := hgl k hk
    refine ⟨fun h => h, fun ⟨o, y, b, hy, _⟩ => by simp [hlOf] at hy, ?_, m, hm⟩
    rcases Nat.lt_or_ge k w.heap.size with h | h
    · exact h
    · unfold World.cell? at hm
      simp only [Array.getElem?_eq_none h] at hm
      cases hm
  refine (hE x y hx args [] q hin hq noPhi NoA w vals hv (noOb w) hglb).mono fun en w' ⟨φ', A', v, he, hrel, _, hF, _⟩ => ?_
  rw [hout] at hrel
  simp only [RelV, RelL] at hrel
  exact ⟨by rw [he, hrel], below_of_frm hF⟩

theorem shut_true {H : Type} {enc : TypeId × Value → H} {P : Program} {w : World} {base : Nat} {spare : Nat → Bool} {held : Bool} {t : TypeId} (hu : P.underlying t = some .bool) : DataW.Trod enc P w base spare held t (.bool true) (.lit (.bool true)) [] :=
  ⟨1, by simp [DataW.trod, hu, Value.cells]⟩
end Go.Ev
