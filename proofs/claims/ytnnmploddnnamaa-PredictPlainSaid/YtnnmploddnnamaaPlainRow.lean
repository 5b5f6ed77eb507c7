/- PredictPlain returns true at any parms, any bytes and any two numbers, and what came in reads behind the call as it read before; no condition. -/
import Derived.Test.YtnnmploddnnamaaEvCC
import Derived.Test.YtnnmploddnnamaaPrG
import Derived.Test.YtnnmploddnnamaaRows
import Derived.ProofKit
namespace Go.Proofs.Ytnnmploddnnamaa
open Go.ChangeShapes Go.WideShapes Go.ChangeAt Go.RowKit
open Go.Ev Go.Ev.Pre

theorem Try.own : ownKnob Try.prog.godebug = none := by kernel_rfl
theorem Try.laidOut : laidOutB Try.prog = true := by kernel_rfl
theorem und23 : isStructB Try.prog 23 = true := by kernel_rfl
theorem und24 : Try.prog.underlying 24 = some (.slice 5) := by kernel_rfl
theorem und3 : Try.prog.underlying 3 = some (.int .i64) := by kernel_rfl
theorem und4 : Try.prog.underlying 4 = some .bool := by kernel_rfl

set_option maxRecDepth 100000 in
theorem predictPlain_lifted (os : Os) (started : os.Started) (H : Type) (enc : TypeId × Value → H) :
    ReturnsInHanded {} Try.checked os 5 .any (Rows.predictPlainSpec.pre6 enc Try.prog Try.f5 Rows.predictPlainRow.domain false) (Rows.predictPlainSpec.post enc Try.prog Try.f5 false true false false) := by
  refine returnsInHanded_of_change (C := Try.checked) Try.own started (by kernel_rfl) Try.func5
    (ChangeSpec.witness6 (enc := enc) (C := Try.checked) false ⟨#[], #[.agg #[.int .i64 0, .int .i64 0, .int .i64 0, .int .i64 0], .slice none 0 0, .int .i64 0, .int .i64 0], []⟩ 8 (by kernel_rfl) (by kernel_rfl) (by kernel_rfl) (by kernel_rfl)) ?_
  intro W base args ds gs before hval0 hW hcnd _
  have hval : ∀ (j : Nat) t v, Try.f5.params[j]? = some t → args[j]? = some v → Value.okWide Try.prog W .any base t v := hval0
  have hW' := hW
  obtain ⟨p, q, hA0, hV, rfl, hfz, hnd⟩ := hW
  have hA : DataW.TrodAll enc Try.prog W 0 (fun _ => true) true Try.f5.params.toList args.toList ds p := hA0
  rw [Try.params5] at hA hval
  obtain ⟨v0, v1, v2, v3, d0, d1, d2, d3, p0, p1, p2, p3, rfl, rfl, rfl, h0, h1, h2, h3⟩ := trodAll_four hA
  obtain ⟨rfl, rfl⟩ := trodVars_none hV
  simp only [List.append_nil] at hW'
  have hlt0 : ∀ x ∈ p0, x.block < W.heap.size := fun x hx => by simpa using hW'.lt x (by simp [hx])
  have hlt1 : ∀ x ∈ p1, x.block < W.heap.size := fun x hx => by simpa using hW'.lt x (by simp [hx])
  have hlt2 : ∀ x ∈ p2, x.block < W.heap.size := fun x hx => by simpa using hW'.lt x (by simp [hx])
  have hlt3 : ∀ x ∈ p3, x.block < W.heap.size := fun x hx => by simpa using hW'.lt x (by simp [hx])
  obtain ⟨x0, hv0, w0⟩ := open_agg (P := Try.prog) und23 (s := (.pair (.int .i64) (.pair (.int .i64) (.pair (.int .i64) (.int .i64))))) (by kernel_rfl) (by kernel_rfl) (hval 0 23 v0 rfl rfl) h0 hlt0
  obtain ⟨x1, hv1, w1⟩ := open_sl (P := Try.prog) und24 (s := (.int .u8)) (by kernel_rfl) (by kernel_rfl) (hval 1 24 v1 rfl rfl) h1 hlt1
  obtain ⟨x2, hv2, w2⟩ := open_i (P := Try.prog) und3 (hval 2 3 v2 rfl rfl) h2
  obtain ⟨x3, hv3, w3⟩ := open_i (P := Try.prog) und3 (hval 3 3 v3 rfl rfl) h3
  refine (law_call (P := Try.prog) f5_ok (x := (x0.1, x0.2.1, x0.2.2.1, x0.2.2.2, x1, x2, x3, ())) (plain_true (isB_wf w1)) (args := [.agg (flatS (.pair (.int .i64) (.pair (.int .i64) (.pair (.int .i64) (.int .i64)))) x0), .lf (.sl (.int .u8) x1 none), .lf (.sc (.int .i64 x2)), .lf (.sc (.int .i64 x3))]) (q := []) (by kernel_rfl) (fun _ h => by cases h) rfl (vals := [v0, v1, v2, v3]) (by simp only [RelVs]; exact ⟨_, _, rfl, hv0, ⟨_, _, rfl, hv1, ⟨_, _, rfl, hv2, ⟨_, _, rfl, hv3, rfl⟩⟩⟩⟩)).mono fun e W' ⟨he, hb⟩ => ?_
  subst he
  refine ⟨_, rfl, _, _, _, [], (p0 ++ (p1 ++ (p2 ++ p3))), [], hW', ?_, ?_, rfl, hb.frame _, fun h => by cases h⟩
  · exact trodAll_mk1 (shut_true und4)
  · exact trodAll_mk4 (Below.trod Try.laidOut (by kernel_rfl) (of_decide_eq_true (by kernel_rfl)) h0 hb hlt0) (Below.trod Try.laidOut (by kernel_rfl) (of_decide_eq_true (by kernel_rfl)) h1 hb hlt1) (Below.trod Try.laidOut (by kernel_rfl) (of_decide_eq_true (by kernel_rfl)) h2 hb hlt2) (Below.trod Try.laidOut (by kernel_rfl) (of_decide_eq_true (by kernel_rfl)) h3 hb hlt3)

theorem predictPlain_holds : Rows.PredictPlainSaid :=
  OpenClaim.holds_of_wide 5 Try.f5 rfl rfl rfl rfl rfl rfl rfl ⟨rfl, rfl, rfl, rfl, rfl⟩ rfl rfl rfl rfl rfl (by kernel_rfl) Try.func5 (by kernel_rfl)
    (of_decide_eq_true (by kernel_rfl)) (by unfold Func.isWrapper; first | (rw [if_pos (by decide +kernel)]; kernel_rfl) | (rw [if_neg (by decide +kernel)]; exact ⟨rfl, rfl⟩))
    (fun os started H enc _ => predictPlain_lifted os started H enc)
end Go.Proofs.Ytnnmploddnnamaa
