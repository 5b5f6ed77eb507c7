/- DeflateDoes returns true at any bytes and any tokens, and what came in reads behind the call as it read before; no condition. -/
import Derived.Test.YtjbkmodcnfffiaaEvCC
import Derived.Test.YtjbkmodcnfffiaaDdC
import Derived.Test.YtjbkmodcnfffiaaRows
import Derived.ProofKit
namespace Go.Proofs.Ytjbkmodcnfffiaa
open Go.ChangeShapes Go.WideShapes Go.ChangeAt Go.RowKit
open Go.Ev Go.Ev.Deflate

theorem Try.own : ownKnob Try.prog.godebug = none := by kernel_rfl
theorem Try.laidOut : laidOutB Try.prog = true := by kernel_rfl
theorem und22 : Try.prog.underlying 22 = some (.slice 5) := by kernel_rfl
theorem und23 : Try.prog.underlying 23 = some (.slice 35) := by kernel_rfl
theorem und4 : Try.prog.underlying 4 = some .bool := by kernel_rfl

set_option maxRecDepth 100000 in
theorem deflateDoes_lifted (os : Os) (started : os.Started) (H : Type) (enc : TypeId × Value → H) :
    ReturnsInHanded {} Try.checked os 3 .any (Rows.deflateDoesSpec.pre6 enc Try.prog Try.f3 Rows.deflateDoesRow.domain false) (Rows.deflateDoesSpec.post enc Try.prog Try.f3 false true false false) := by
  refine returnsInHanded_of_change (C := Try.checked) Try.own started (by kernel_rfl) Try.func3
    (ChangeSpec.witness6 (enc := enc) (C := Try.checked) false ⟨#[], #[.slice none 0 0, .slice none 0 0], []⟩ 8 (by kernel_rfl) (by kernel_rfl) (by kernel_rfl) (by kernel_rfl)) ?_
  intro W base args ds gs before hval0 hW hcnd _
  have hval : ∀ (j : Nat) t v, Try.f3.params[j]? = some t → args[j]? = some v → Value.okWide Try.prog W .any base t v := hval0
  have hW' := hW
  obtain ⟨p, q, hA0, hV, rfl, hfz, hnd⟩ := hW
  have hA : DataW.TrodAll enc Try.prog W 0 (fun _ => true) true Try.f3.params.toList args.toList ds p := hA0
  rw [Try.params3] at hA hval
  obtain ⟨v0, v1, d0, d1, p0, p1, rfl, rfl, rfl, h0, h1⟩ := trodAll_two hA
  obtain ⟨rfl, rfl⟩ := trodVars_none hV
  simp only [List.append_nil] at hW'
  have hlt0 : ∀ x ∈ p0, x.block < W.heap.size := fun x hx => by simpa using hW'.lt x (by simp [hx])
  have hlt1 : ∀ x ∈ p1, x.block < W.heap.size := fun x hx => by simpa using hW'.lt x (by simp [hx])
  obtain ⟨x0, hv0, w0⟩ := open_sl (P := Try.prog) und22 (s := (.int .u8)) (by kernel_rfl) (by kernel_rfl) (hval 0 22 v0 rfl rfl) h0 hlt0
  obtain ⟨x1, hv1, w1⟩ := open_sl (P := Try.prog) und23 (s := (.pair (.int .i64) (.pair (.int .i64) (.int .i64)))) (by kernel_rfl) (by kernel_rfl) (hval 1 23 v1 rfl rfl) h1 hlt1
  refine (law_call (P := Try.prog) f3_ok (x := (x0, x1, ())) (deflateDoes_pure (isB_wf w0) x1) (args := [.lf (.sl (.int .u8) x0 none), .lf (.sl (.pair (.int .i64) (.pair (.int .i64) (.int .i64))) x1 none)]) (q := []) (by kernel_rfl) (fun _ h => by cases h) rfl (vals := [v0, v1]) (by simp only [RelVs]; exact ⟨_, _, rfl, hv0, ⟨_, _, rfl, hv1, rfl⟩⟩)).mono fun e W' ⟨he, hb⟩ => ?_
  subst he
  refine ⟨_, rfl, _, _, _, [], (p0 ++ p1), [], hW', ?_, ?_, rfl, hb.frame _, fun h => by cases h⟩
  · exact trodAll_mk1 (shut_true und4)
  · exact trodAll_mk2 (Below.trod Try.laidOut (by kernel_rfl) (of_decide_eq_true (by kernel_rfl)) h0 hb hlt0) (Below.trod Try.laidOut (by kernel_rfl) (of_decide_eq_true (by kernel_rfl)) h1 hb hlt1)

theorem deflateDoes_holds : Rows.DeflateDoesSaid :=
  OpenClaim.holds_of_wide 3 Try.f3 rfl rfl rfl rfl rfl rfl rfl ⟨rfl, rfl, rfl, rfl, rfl⟩ rfl rfl rfl rfl rfl (by kernel_rfl) Try.func3 (by kernel_rfl)
    (of_decide_eq_true (by kernel_rfl)) (by unfold Func.isWrapper; first | (rw [if_pos (by decide +kernel)]; kernel_rfl) | (rw [if_neg (by decide +kernel)]; exact ⟨rfl, rfl⟩))
    (fun os started H enc _ => deflateDoes_lifted os started H enc)
end Go.Proofs.Ytjbkmodcnfffiaa
