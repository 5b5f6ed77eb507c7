/- Part of a proof about the given program: EvCC. -/
import Derived.Test.YtbgbplacpjcmfaaEvBB
namespace Go.Ev
open Go.RowKit Go.WideShapes Go.ChangeShapes

/-! # Structs that come in -/
/-- The cells of data. -/
def flatS : (s : Shape) → den s → List Seg
  | .int k, n => [.lf (.sc (.int k n))]
  | .bool, b => [.lf (.sc (.bool b))]
  | .str, b => [.lf (.sc (.string b))]
  | .pair a b, x => flatS a x.1 ++ flatS b x.2
  | .slice a, xs => [.lf (.sl a xs none)]

theorem relG_one {φ : Phi} {A : Nat → Prop} {w : World} {l : Lf} {v : Value} (h : RelL φ A w l v) : RelG φ A w [.lf l] [v] :=
  ⟨[v], [], rfl, ⟨v, rfl, h⟩, rfl⟩
theorem relG_app {φ : Phi} {A : Nat → Prop} {w : World} : ∀ {g1 g2 : List Seg} {v1 v2 : List Value}, RelG φ A w g1 v1 → RelG φ A w g2 v2 → RelG φ A w (g1 ++ g2) (v1 ++ v2)
  | [], _, _, _, h1, h2 => by
    have e : _ = [] := h1
    subst e; exact h2
  | s :: g1, _, _, v2, ⟨a, b, e, hs, h1⟩, h2 => by
    subst e
    rw [List.append_assoc]
    exact ⟨a, b ++ v2, rfl, hs, relG_app h1 h2⟩
theorem flatS_rel {φ : Phi} {A : Nat → Prop} {w : World} : ∀ (s : Shape) (x : den s) (vs : List Value), RelD A w s x vs → RelG φ A w (flatS s x) vs
  | .int k, n, vs, h => by
    have e : vs = [.int k n] := h
    subst e; exact relG_one rfl
  | .bool, b, vs, h => by
    have e : vs = [.bool b] := h
    subst e; exact relG_one rfl
  | .str, b, vs, h => by
    have e : vs = [.string b] := h
    subst e; exact relG_one rfl
  | .pair a b, x, vs, ⟨v1, v2, e, h1, h2⟩ => by
    subst e
    exact relG_app (flatS_rel a x.1 v1 h1) (flatS_rel b x.2 v2 h2)
  | .slice a, xs, vs, ⟨ad, c, e, h1, h2⟩ => by
    subst e
    exact relG_one ⟨ad, c, rfl, fun _ h => (by cases h), h1, h2⟩

def isStructB (P : Program) (t : TypeId) : Bool := match P.underlying t with | some (.struct _) => true | _ => false
theorem open_agg {H : Type} {enc : TypeId × Value → H} {P : Program} {w : World} {spare : Nat → Bool} {held : Bool} {base : Nat} {r : Reach} {t : TypeId} {s : Shape} {v : Value} {d : DataW H} {ps : List MemPlace}
    (hu : isStructB P t = true) (hs : shapeOf P 9 t = some s) (hf : fitB P 9 t = true) (hok : Value.okWide P w r base t v)
    (h : DataW.Trod enc P w 0 spare held t v d ps) (hb : ∀ p ∈ ps, p.block < w.heap.size) : ∃ x : den s, RelV noPhi NoA w (.agg (flatS s x)) v ∧ Wf s x := by
  obtain ⟨fs, hu⟩ : ∃ fs, P.underlying t = some (.struct fs) := by
    unfold isStructB at hu
    split at hu
    · rename_i fs h; exact ⟨fs, h⟩
    · cases hu
  obtain ⟨cs, rfl, _⟩ := okWide_struct hu hok
  obtain ⟨x, hx, hw⟩ := open_leafD hs hf h hb
  refine ⟨x, ?_, hw⟩
  simp only [RelV]
  exact ⟨cs.toList, by simp, flatS_rel s x _ (by simpa [Value.cells] using hx)⟩
end Go.Ev
