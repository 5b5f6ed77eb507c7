/- AsciiNoughts returns true at any number, and what came in reads behind the call as it read before; no condition. -/
import Derived.Test.YtbgbplacpjcmfaaEvCC
import Derived.Test.YtbgbplacpjcmfaaAsL
import Derived.Test.YtbgbplacpjcmfaaRows
import Derived.ProofKit
import Derived.HandedShaped
namespace Go.Proofs.Ytbgbplacpjcmfaa
open Go.ChangeShapes Go.WideShapes Go.ChangeAt Go.RowKit
open Go.Ev Go.Ev.Asc

theorem Try.own : ownKnob Try.prog.godebug = none := by kernel_rfl
theorem Try.laidOut : laidOutB Try.prog = true := by kernel_rfl
theorem und3 : Try.prog.underlying 3 = some (.int .i64) := by kernel_rfl
theorem und4 : Try.prog.underlying 4 = some .bool := by kernel_rfl

set_option maxRecDepth 100000 in
theorem asciiNoughts_lifted (os : Os) (started : os.Started) (H : Type) (enc : TypeId × Value → H) :
    ReturnsInHanded {} Try.checked os 7 .any (Rows.asciiNoughtsSpec.pre6 enc Try.prog Try.f7 Rows.asciiNoughtsRow.domain false) (Rows.asciiNoughtsSpec.post enc Try.prog Try.f7 false true false false) := by
  refine returnsInHanded_of_change_shaped (C := Try.checked) Try.own started (by kernel_rfl) Try.func7
    (ChangeSpec.witness6 (enc := enc) (C := Try.checked) false ⟨#[], #[.int .i64 0], []⟩ 8 (by kernel_rfl) (by kernel_rfl) (by kernel_rfl) (by kernel_rfl)) ?_
  intro W base args ds gs before hval0 hW hcnd _ hsh _
  have hval : ∀ (j : Nat) t v, Try.f7.params[j]? = some t → args[j]? = some v → Value.okWide Try.prog W .any base t v := hval0
  have hW' := hW
  obtain ⟨p, q, hA0, hV, rfl, hfz, hnd⟩ := hW
  have hA : DataW.TrodAll enc Try.prog W 0 (fun _ => true) true Try.f7.params.toList args.toList ds p := hA0
  rw [Try.params7] at hA hval
  obtain ⟨v0, d0, rfl, rfl, h0⟩ := trodAll_one hA
  obtain ⟨rfl, rfl⟩ := trodVars_none hV
  simp only [List.append_nil] at hW'
  have hlt0 : ∀ x ∈ p, x.block < W.heap.size := fun x hx => by simpa using hW'.lt x hx
  obtain ⟨x0, hv0, w0⟩ := open_i (P := Try.prog) und3 (hval 0 3 v0 rfl rfl) h0
  have hgl : ∀ k, globN = some k → ∃ m : Int, W.cell? ⟨k, 0, none⟩ = some (.int .i64 m) := fun k hk => by
    simp only [globN, Option.some.injEq] at hk
    subst hk
    exact Try.laysM145.s1_3 W hsh
  refine (law_call (hgl := hgl) (P := Try.prog) f7_ok (x := (x0, ())) (noughts_true x0) (args := [.lf (.sc (.int .i64 x0))]) (q := []) (by kernel_rfl) (fun _ h => by cases h) rfl (vals := [v0]) (by simp only [RelVs]; exact ⟨_, _, rfl, hv0, rfl⟩)).mono fun e W' ⟨he, hb⟩ => ?_
  subst he
  refine ⟨_, rfl, _, _, _, [], p, [], hW', ?_, ?_, rfl, hb.frame _, fun h => by cases h⟩
  · exact trodAll_mk1 (shut_true und4)
  · exact trodAll_mk1 (Below.trod Try.laidOut (by kernel_rfl) (of_decide_eq_true (by kernel_rfl)) h0 hb hlt0)

theorem asciiNoughts_holds : Rows.AsciiNoughtsSaid :=
  OpenClaim.holds_of_wide 7 Try.f7 rfl rfl rfl rfl rfl rfl rfl ⟨rfl, rfl, rfl, rfl, rfl⟩ rfl rfl rfl rfl rfl (by kernel_rfl) Try.func7 (by kernel_rfl)
    (of_decide_eq_true (by kernel_rfl)) (by unfold Func.isWrapper; first | (rw [if_pos (by decide +kernel)]; kernel_rfl) | (rw [if_neg (by decide +kernel)]; exact ⟨rfl, rfl⟩))
    (fun os started H enc _ => asciiNoughts_lifted os started H enc)
end Go.Proofs.Ytbgbplacpjcmfaa
