/- BoxDoes returns true at any two boxes, any matrix and points, and what came in reads behind the call as it read before; no condition. -/
import Derived.Test.YtdakkfohpjjhkaaEvCC
import Derived.Test.YtdakkfohpjjhkaaBoxAll
import Derived.Test.YtdakkfohpjjhkaaRows
import Derived.ProofKit
namespace Go.Proofs.Ytdakkfohpjjhkaa
open Go.ChangeShapes Go.WideShapes Go.ChangeAt Go.RowKit
open Go.Ev Go.Ev.Box

theorem Try.own : ownKnob Try.prog.godebug = none := by kernel_rfl
theorem Try.laidOut : laidOutB Try.prog = true := by kernel_rfl
theorem und25 : isStructB Try.prog 25 = true := by kernel_rfl
theorem und35 : isStructB Try.prog 35 = true := by kernel_rfl
theorem und36 : Try.prog.underlying 36 = some (.slice 42) := by kernel_rfl
theorem und4 : Try.prog.underlying 4 = some .bool := by kernel_rfl

set_option maxRecDepth 100000 in
theorem boxDoes_lifted (os : Os) (started : os.Started) (H : Type) (enc : TypeId × Value → H) :
    ReturnsInHanded {} Try.checked os 4 .any (Rows.boxDoesSpec.pre6 enc Try.prog Try.f4 Rows.boxDoesRow.domain false) (Rows.boxDoesSpec.post enc Try.prog Try.f4 false true false false) := by
  refine returnsInHanded_of_change (C := Try.checked) Try.own started (by kernel_rfl) Try.func4
    (ChangeSpec.witness6 (enc := enc) (C := Try.checked) false ⟨#[], #[.agg #[.int .i64 0, .int .i64 0, .int .i64 0, .int .i64 0, .int .i64 0, .int .i64 0, .int .i64 0, .int .i64 0], .agg #[.int .i64 0, .int .i64 0, .int .i64 0, .int .i64 0, .int .i64 0, .int .i64 0, .int .i64 0, .int .i64 0], .agg #[.int .i64 0, .int .i64 0, .int .i64 0, .int .i64 0, .int .i64 0, .int .i64 0, .int .i64 0, .int .i64 0, .int .i64 0, .int .i64 0, .int .i64 0, .int .i64 0], .slice none 0 0], []⟩ 8 (by kernel_rfl) (by kernel_rfl) (by kernel_rfl) (by kernel_rfl)) ?_
  intro W base args ds gs before hval0 hW hcnd _
  have hval : ∀ (j : Nat) t v, Try.f4.params[j]? = some t → args[j]? = some v → Value.okWide Try.prog W .any base t v := hval0
  have hW' := hW
  obtain ⟨p, q, hA0, hV, rfl, hfz, hnd⟩ := hW
  have hA : DataW.TrodAll enc Try.prog W 0 (fun _ => true) true Try.f4.params.toList args.toList ds p := hA0
  rw [Try.params4] at hA hval
  obtain ⟨v0, v1, v2, v3, d0, d1, d2, d3, p0, p1, p2, p3, rfl, rfl, rfl, h0, h1, h2, h3⟩ := trodAll_four hA
  obtain ⟨rfl, rfl⟩ := trodVars_none hV
  simp only [List.append_nil] at hW'
  have hlt0 : ∀ x ∈ p0, x.block < W.heap.size := fun x hx => by simpa using hW'.lt x (by simp [hx])
  have hlt1 : ∀ x ∈ p1, x.block < W.heap.size := fun x hx => by simpa using hW'.lt x (by simp [hx])
  have hlt2 : ∀ x ∈ p2, x.block < W.heap.size := fun x hx => by simpa using hW'.lt x (by simp [hx])
  have hlt3 : ∀ x ∈ p3, x.block < W.heap.size := fun x hx => by simpa using hW'.lt x (by simp [hx])
  obtain ⟨x0, hv0, w0⟩ := open_agg (P := Try.prog) und25 (s := (.pair (.pair (.int .i64) (.int .i64)) (.pair (.pair (.int .i64) (.int .i64)) (.pair (.pair (.int .i64) (.int .i64)) (.pair (.int .i64) (.int .i64)))))) (by kernel_rfl) (by kernel_rfl) (hval 0 25 v0 rfl rfl) h0 hlt0
  obtain ⟨x1, hv1, w1⟩ := open_agg (P := Try.prog) und25 (s := (.pair (.pair (.int .i64) (.int .i64)) (.pair (.pair (.int .i64) (.int .i64)) (.pair (.pair (.int .i64) (.int .i64)) (.pair (.int .i64) (.int .i64)))))) (by kernel_rfl) (by kernel_rfl) (hval 1 25 v1 rfl rfl) h1 hlt1
  obtain ⟨x2, hv2, w2⟩ := open_agg (P := Try.prog) und35 (s := (.pair (.pair (.int .i64) (.int .i64)) (.pair (.pair (.int .i64) (.int .i64)) (.pair (.pair (.int .i64) (.int .i64)) (.pair (.pair (.int .i64) (.int .i64)) (.pair (.pair (.int .i64) (.int .i64)) (.pair (.int .i64) (.int .i64)))))))) (by kernel_rfl) (by kernel_rfl) (hval 2 35 v2 rfl rfl) h2 hlt2
  obtain ⟨x3, hv3, w3⟩ := open_sl (P := Try.prog) und36 (s := (.pair (.pair (.int .i64) (.int .i64)) (.pair (.int .i64) (.int .i64)))) (by kernel_rfl) (by kernel_rfl) (hval 3 36 v3 rfl rfl) h3 hlt3
  refine (law_call (P := Try.prog) f4_ok (x := (x0.1.1, x0.1.2, x0.2.1.1, x0.2.1.2, x0.2.2.1.1, x0.2.2.1.2, x0.2.2.2.1, x0.2.2.2.2, x1.1.1, x1.1.2, x1.2.1.1, x1.2.1.2, x1.2.2.1.1, x1.2.2.1.2, x1.2.2.2.1, x1.2.2.2.2, x2.1.1, x2.1.2, x2.2.1.1, x2.2.1.2, x2.2.2.1.1, x2.2.2.1.2, x2.2.2.2.1.1, x2.2.2.2.1.2, x2.2.2.2.2.1.1, x2.2.2.2.2.1.2, x2.2.2.2.2.2.1, x2.2.2.2.2.2.2, x3, ())) (boxDoes_pure ⟨x0.1, x0.2.1, x0.2.2.1, x0.2.2.2⟩ ⟨x1.1, x1.2.1, x1.2.2.1, x1.2.2.2⟩ ⟨x2.1, x2.2.1, x2.2.2.1, x2.2.2.2.1, x2.2.2.2.2.1, x2.2.2.2.2.2⟩ x3) (args := [.agg (flatS (.pair (.pair (.int .i64) (.int .i64)) (.pair (.pair (.int .i64) (.int .i64)) (.pair (.pair (.int .i64) (.int .i64)) (.pair (.int .i64) (.int .i64))))) x0), .agg (flatS (.pair (.pair (.int .i64) (.int .i64)) (.pair (.pair (.int .i64) (.int .i64)) (.pair (.pair (.int .i64) (.int .i64)) (.pair (.int .i64) (.int .i64))))) x1), .agg (flatS (.pair (.pair (.int .i64) (.int .i64)) (.pair (.pair (.int .i64) (.int .i64)) (.pair (.pair (.int .i64) (.int .i64)) (.pair (.pair (.int .i64) (.int .i64)) (.pair (.pair (.int .i64) (.int .i64)) (.pair (.int .i64) (.int .i64))))))) x2), .lf (.sl (.pair (.pair (.int .i64) (.int .i64)) (.pair (.int .i64) (.int .i64))) x3 none)]) (q := []) (by kernel_rfl) (fun _ h => by cases h) rfl (vals := [v0, v1, v2, v3]) (by simp only [RelVs]; exact ⟨_, _, rfl, hv0, ⟨_, _, rfl, hv1, ⟨_, _, rfl, hv2, ⟨_, _, rfl, hv3, rfl⟩⟩⟩⟩)).mono fun e W' ⟨he, hb⟩ => ?_
  subst he
  refine ⟨_, rfl, _, _, _, [], (p0 ++ (p1 ++ (p2 ++ p3))), [], hW', ?_, ?_, rfl, hb.frame _, fun h => by cases h⟩
  · exact trodAll_mk1 (shut_true und4)
  · exact trodAll_mk4 (Below.trod Try.laidOut (by kernel_rfl) (of_decide_eq_true (by kernel_rfl)) h0 hb hlt0) (Below.trod Try.laidOut (by kernel_rfl) (of_decide_eq_true (by kernel_rfl)) h1 hb hlt1) (Below.trod Try.laidOut (by kernel_rfl) (of_decide_eq_true (by kernel_rfl)) h2 hb hlt2) (Below.trod Try.laidOut (by kernel_rfl) (of_decide_eq_true (by kernel_rfl)) h3 hb hlt3)

theorem boxDoes_holds : Rows.BoxDoesSaid :=
  OpenClaim.holds_of_wide 4 Try.f4 rfl rfl rfl rfl rfl rfl rfl ⟨rfl, rfl, rfl, rfl, rfl⟩ rfl rfl rfl rfl rfl (by kernel_rfl) Try.func4 (by kernel_rfl)
    (of_decide_eq_true (by kernel_rfl)) (by unfold Func.isWrapper; first | (rw [if_pos (by decide +kernel)]; kernel_rfl) | (rw [if_neg (by decide +kernel)]; exact ⟨rfl, rfl⟩))
    (fun os started H enc _ => boxDoes_lifted os started H enc)
end Go.Proofs.Ytdakkfohpjjhkaa
