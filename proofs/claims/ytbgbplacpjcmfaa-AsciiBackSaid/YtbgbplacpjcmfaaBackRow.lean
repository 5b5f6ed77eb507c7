/- AsciiBack returns true at any bytes, any number and any text, and what came in reads behind the call as it read before; no condition. -/
import Derived.Test.YtbgbplacpjcmfaaEvCC
import Derived.Test.YtbgbplacpjcmfaaAsJK
import Derived.Test.YtbgbplacpjcmfaaRows
import Derived.ProofKit
import Derived.HandedShaped
import Derived.ChangeMaps5
namespace Go.Proofs.Ytbgbplacpjcmfaa
open Go.ChangeMaps Go.ChangeShapes Go.WideShapes Go.ChangeAt Go.RowKit
open Go.Ev Go.Ev.Asc

theorem Try.own : ownKnob Try.prog.godebug = none := by kernel_rfl
theorem Try.laidOut : laidOutB Try.prog = true := by kernel_rfl
theorem und22 : Try.prog.underlying 22 = some (.slice 5) := by kernel_rfl
theorem und3 : Try.prog.underlying 3 = some (.int .i64) := by kernel_rfl
theorem und9 : Try.prog.underlying 9 = some .string := by kernel_rfl
theorem und4 : Try.prog.underlying 4 = some .bool := by kernel_rfl

set_option maxRecDepth 100000 in
theorem asciiBack_lifted (os : Os) (started : os.Started) (H : Type) (enc : TypeId × Value → H) :
    ReturnsInHanded {} Try.checked os 5 .any (Rows.asciiBackSpec.pre6 enc Try.prog Try.f5 Rows.asciiBackRow.domain false) (Rows.asciiBackSpec.post enc Try.prog Try.f5 false true false false) := by
  refine returnsInHanded_of_change_shaped (C := Try.checked) Try.own started (by kernel_rfl) Try.func5
    (ChangeSpec.witness6 (enc := enc) (C := Try.checked) false ⟨#[], #[.slice none 0 0, .int .i64 0, .string ⟨#[]⟩], []⟩ 8 (by kernel_rfl) (by kernel_rfl) (by kernel_rfl) (by kernel_rfl)) ?_
  intro W base args ds gs before hval0 hW hcnd _ hsh _
  have hval : ∀ (j : Nat) t v, Try.f5.params[j]? = some t → args[j]? = some v → Value.okWide Try.prog W .any base t v := hval0
  have hW' := hW
  obtain ⟨p, q, hA0, hV, rfl, hfz, hnd⟩ := hW
  have hA : DataW.TrodAll enc Try.prog W 0 (fun _ => true) true Try.f5.params.toList args.toList ds p := hA0
  rw [Try.params5] at hA hval
  obtain ⟨v0, v1, v2, d0, d1, d2, p0, p1, p2, rfl, rfl, rfl, h0, h1, h2⟩ := trodAll_three hA
  obtain ⟨rfl, rfl⟩ := trodVars_none hV
  simp only [List.append_nil] at hW'
  have hlt0 : ∀ x ∈ p0, x.block < W.heap.size := fun x hx => by simpa using hW'.lt x (by simp [hx])
  have hlt1 : ∀ x ∈ p1, x.block < W.heap.size := fun x hx => by simpa using hW'.lt x (by simp [hx])
  have hlt2 : ∀ x ∈ p2, x.block < W.heap.size := fun x hx => by simpa using hW'.lt x (by simp [hx])
  obtain ⟨x0, hv0, w0⟩ := open_sl (P := Try.prog) und22 (s := (.int .u8)) (by kernel_rfl) (by kernel_rfl) (hval 0 22 v0 rfl rfl) h0 hlt0
  obtain ⟨x1, hv1, w1⟩ := open_i (P := Try.prog) und3 (hval 1 3 v1 rfl rfl) h1
  obtain ⟨x2, hs2, _, _, _⟩ := open_string (P := Try.prog) und9 (hval 2 9 v2 rfl rfl) h2
  have hv2 : RelV noPhi NoA W (.lf (.sc (.string x2))) v2 := by simp only [RelV, RelL]; exact hs2
  have hgl : ∀ k, globN = some k → ∃ m : Int, W.cell? ⟨k, 0, none⟩ = some (.int .i64 m) := fun k hk => by
    simp only [globN, Option.some.injEq] at hk
    subst hk
    exact Try.laysM145.s1_3 W hsh
  refine (law_call (hgl := hgl) (P := Try.prog) f5_ok (x := (x0, x1, x2, ())) (back_true (isB_wf w0) x1 x2) (args := [.lf (.sl (.int .u8) x0 none), .lf (.sc (.int .i64 x1)), .lf (.sc (.string x2))]) (q := []) (by kernel_rfl) (fun _ h => by cases h) rfl (vals := [v0, v1, v2]) (by simp only [RelVs]; exact ⟨_, _, rfl, hv0, ⟨_, _, rfl, hv1, ⟨_, _, rfl, hv2, rfl⟩⟩⟩)).mono fun e W' ⟨he, hb⟩ => ?_
  subst he
  refine ⟨_, rfl, _, _, _, [], (p0 ++ (p1 ++ p2)), [], hW', ?_, ?_, rfl, hb.frame _, fun h => by cases h⟩
  · exact trodAll_mk1 (shut_true und4)
  · exact trodAll_mk3 (Below.trod Try.laidOut (by kernel_rfl) (of_decide_eq_true (by kernel_rfl)) h0 hb hlt0) (Below.trod Try.laidOut (by kernel_rfl) (of_decide_eq_true (by kernel_rfl)) h1 hb hlt1) (Below.trod Try.laidOut (by kernel_rfl) (of_decide_eq_true (by kernel_rfl)) h2 hb hlt2)

theorem asciiBack_holds : Rows.AsciiBackSaid :=
  OpenClaim.holds_of_wide 5 Try.f5 rfl rfl rfl rfl rfl rfl rfl ⟨rfl, rfl, rfl, rfl, rfl⟩ rfl rfl rfl rfl rfl (by kernel_rfl) Try.func5 (by kernel_rfl)
    (of_decide_eq_true (by kernel_rfl)) (by unfold Func.isWrapper; first | (rw [if_pos (by decide +kernel)]; kernel_rfl) | (rw [if_neg (by decide +kernel)]; exact ⟨rfl, rfl⟩))
    (fun os started H enc _ => asciiBack_lifted os started H enc)
end Go.Proofs.Ytbgbplacpjcmfaa
