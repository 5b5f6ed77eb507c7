/- Part of a proof about the given program: F. -/
import Derived.Test.YtoobfjfmlejpeaaEvZ
import Derived.Test.YtoobfjfmlejpeaaChecked
namespace Go.Ev.Lzw
open Go.Ev

noncomputable abbrev P := Go.Proofs.Try.prog
set_option maxRecDepth 1000000
theorem hmix : P.follows .mixedOrders = true := by kernel_rfl

/-! ## 7: erasure/erasureref04.Own -/
noncomputable def c7 : Code := Func.code Go.Proofs.Try.f7
abbrev gi7 : Sg := ⟨[0], [.lf (.sl (.int .u8))], []⟩
abbrev go7 : Sg := ⟨[2], [.lf (.gr (.int .u8) 0)], [some (.arr true (.int .u8))]⟩
def fx7 : List Bool := []
noncomputable def f7 (x : gi7.D) : Option go7.D :=
  (if (((0 : Nat) + (List.length x.1)) ≤ (140737488355328 : Nat)) then (if (((0 : Nat) < ((0 : Nat) + (List.length x.1))) ∨ (((0 : Nat) = (0 : Nat)) ∧ ((0 : Nat) = (0 : Nat)))) then (if ((List.length ([] ++ x.1)) = (List.length ([] ++ x.1))) then (some (([] ++ x.1), Unit.unit))
   else none)
   else none)
   else none)
theorem f7_eq (x : gi7.D) : f7 x = evF P (Table.empty.orc _) Go.Proofs.Try.f7.ntmps fx7 c7 (planAt 64 []) gi7 x (fnK fx7 go7) := by kernel_rfl
theorem f7_ok : EntOk P 7 ⟨gi7, go7, f7⟩ :=
  ent_ok (e := ⟨gi7, go7, f7⟩) (c := c7) (fx := fx7) ⟨Go.Proofs.Try.func7, by kernel_rfl, rfl, by decide +kernel, by kernel_rfl, rfl, rfl⟩ (Table.ok (Table.empty_ok P) _) hmix (planAt_ok (d := 64) (l := []) trivial) f7_eq
noncomputable def T7 : Table := Table.empty.add 7 [⟨gi7, go7, f7⟩] []
theorem T7_ok : TableOk P T7 := Table.plus (Table.empty_ok P) (es := [⟨gi7, go7, f7⟩]) ⟨f7_ok, trivial⟩ []

/-! ## 13: (*erasure/lzw.writer).put -/
noncomputable def c13 : Code := Func.code Go.Proofs.Try.f13
abbrev gi13 : Sg := ⟨[0, 1, 2], [.lf (.ptr 0 0), .lf (.int .i64), .lf (.int .i64)], [some (.box true [.lf .nils, .lf (.int .i64), .lf (.int .i64)])]⟩
abbrev go13 : Sg := ⟨[], [], [some (.box true [.lf (.gr (.int .u8) 1), .lf (.int .i64), .lf (.int .i64)]), some (.arr true (.int .u8))]⟩
def fx13 : List Bool := [true]
abbrev g13_1 : Sg := ⟨[0], [.lf (.ptr 0 0)], [some (.box true [.lf (.gr (.int .u8) 1), .lf (.int .i64), .lf (.int .i64)]), some (.arr true (.int .u8))]⟩
abbrev o13_1 : Outs := [(.exit 0, ⟨[0], [.lf (.ptr 0 0)], [some (.box true [.lf (.gr (.int .u8) 1), .lf (.int .i64), .lf (.int .i64)]), some (.arr true (.int .u8))]⟩)]
noncomputable def b13_1 (x : g13_1.D) : Option (outD ((.normal, g13_1) :: o13_1)) :=
  (if ((decide (x.2.1 ≥ (8 : Int))) = true) then (if ((Go.IntKind.wrap Go.IntKind.i64 (x.2.1 - (8 : Int))) < (0 : Int)) then none
   else (if (((List.length (List.take (List.length x.2.2.1) (List.drop (0 : Nat) x.2.2.1))) + (List.length (List.take (1 : Nat) (List.drop (0 : Nat) (List.set (List.replicate (1 : Nat) (0 : Int)) (0 : Nat) (Go.IntKind.wrap Go.IntKind.u8 (Int.fdiv x.1 ((2 : Int) ^ (Min.min (Int.toNat (Go.IntKind.wrap Go.IntKind.i64 (x.2.1 - (8 : Int)))) (64 : Nat)))))))))) ≤ (140737488355328 : Nat)) then (if ((List.length ((List.take (List.length x.2.2.1) (List.drop (0 : Nat) x.2.2.1)) ++ (List.take (1 : Nat) (List.drop (0 : Nat) (List.set (List.replicate (1 : Nat) (0 : Int)) (0 : Nat) (Go.IntKind.wrap Go.IntKind.u8 (Int.fdiv x.1 ((2 : Int) ^ (Min.min (Int.toNat (Go.IntKind.wrap Go.IntKind.i64 (x.2.1 - (8 : Int)))) (64 : Nat)))))))))) = (List.length ((List.take (List.length x.2.2.1) (List.drop (0 : Nat) x.2.2.1)) ++ (List.take (1 : Nat) (List.drop (0 : Nat) (List.set (List.replicate (1 : Nat) (0 : Int)) (0 : Nat) (Go.IntKind.wrap Go.IntKind.u8 (Int.fdiv x.1 ((2 : Int) ^ (Min.min (Int.toNat (Go.IntKind.wrap Go.IntKind.i64 (x.2.1 - (8 : Int)))) (64 : Nat))))))))))) then (some (Sum.inl (x.1, ((Go.IntKind.wrap Go.IntKind.i64 (x.2.1 - (8 : Int))), (((List.take (List.length x.2.2.1) (List.drop (0 : Nat) x.2.2.1)) ++ (List.take (1 : Nat) (List.drop (0 : Nat) (List.set (List.replicate (1 : Nat) (0 : Int)) (0 : Nat) (Go.IntKind.wrap Go.IntKind.u8 (Int.fdiv x.1 ((2 : Int) ^ (Min.min (Int.toNat (Go.IntKind.wrap Go.IntKind.i64 (x.2.1 - (8 : Int)))) (64 : Nat))))))))), Unit.unit)))))
   else none)
   else none))
   else (if ((List.length x.2.2.1) = (List.length x.2.2.1)) then (some (Sum.inr (Sum.inl (x.1, (x.2.1, (x.2.2.1, Unit.unit))))))
   else none))
theorem b13_1_eq (x : g13_1.D) : b13_1 x = evF P (T7.orc _) Go.Proofs.Try.f13.ntmps fx13 (Code.at [true, false, true, false, false] c13) (planAt 64 []) g13_1 x (injK fx13 ((.normal, g13_1) :: o13_1) some) := by kernel_rfl
noncomputable def l13_1 : g13_1.D → Option (outD o13_1) := loopN g13_1 o13_1 b13_1 18446744073709551616
theorem at13_1 : Code.at [true, false, true, false] c13 = .loop (Code.at [true, false, true, false, false] c13) := by kernel_rfl
theorem s13_1_ok : SubOk P Go.Proofs.Try.f13.ntmps fx13 (Code.at [true, false, true, false] c13) ⟨g13_1, o13_1, l13_1⟩ := by
  rw [at13_1]
  exact loop_ok (sub_ok (ct := ⟨g13_1, ((.normal, g13_1) :: o13_1), b13_1⟩) (Table.ok T7_ok _) hmix (planAt_ok (d := 64) (l := []) trivial) b13_1_eq) rfl _
noncomputable def f13 (x : gi13.D) : Option go13.D :=
  (if (x.2.1 < (0 : Int)) then none
   else (Option.bind (Go.Ev.Lzw.l13_1 ((Go.IntKind.wrap Go.IntKind.i64 (((BitVec.toNat ((BitVec.ofInt (64 : Nat) (Go.IntKind.wrap Go.IntKind.i64 (x.2.2.1 * ((2 : Int) ^ (Min.min (Int.toNat x.2.1) (64 : Nat)))))) ||| (BitVec.ofInt (64 : Nat) x.1))) : Nat) : Int)), ((Go.IntKind.wrap Go.IntKind.i64 (x.2.2.2.1 + x.2.1)), ([], Unit.unit)))) (Sum.elim (fun y1 => (if (y1.2.1 < (0 : Int)) then none
   else (if ((List.length y1.2.2.1) = (List.length y1.2.2.1)) then (some ((Go.IntKind.wrap Go.IntKind.i64 (((BitVec.toNat ((BitVec.ofInt (64 : Nat) y1.1) &&& (BitVec.ofInt (64 : Nat) (Go.IntKind.wrap Go.IntKind.i64 ((Go.IntKind.wrap Go.IntKind.i64 ((1 : Int) * ((2 : Int) ^ (Min.min (Int.toNat y1.2.1) (64 : Nat))))) - (1 : Int)))))) : Nat) : Int)), (y1.2.1, (y1.2.2.1, Unit.unit))))
   else none))) Empty.elim)))
theorem f13_eq (x : gi13.D) : f13 x = evF P (T7.orc _) Go.Proofs.Try.f13.ntmps fx13 c13 (planAt 64 [([true, false, true, false], ⟨g13_1, o13_1, l13_1⟩)]) gi13 x (fnK fx13 go13) := by kernel_rfl
theorem f13_ok : EntOk P 13 ⟨gi13, go13, f13⟩ :=
  ent_ok (e := ⟨gi13, go13, f13⟩) (c := c13) (fx := fx13) ⟨Go.Proofs.Try.func13, by kernel_rfl, rfl, by decide +kernel, by kernel_rfl, rfl, rfl⟩ (Table.ok T7_ok _) hmix (planAt_ok (d := 64) (l := [([true, false, true, false], ⟨g13_1, o13_1, l13_1⟩)]) ⟨s13_1_ok, trivial⟩) f13_eq
abbrev gi13_b : Sg := ⟨[0, 1, 2], [.lf (.ptr 0 0), .lf (.int .i64), .lf (.int .i64)], [some (.box true [.lf (.gr (.int .u8) 1), .lf (.int .i64), .lf (.int .i64)]), some (.arr true (.int .u8))]⟩
abbrev go13_b : Sg := ⟨[], [], [some (.box true [.lf (.gr (.int .u8) 2), .lf (.int .i64), .lf (.int .i64)]), none, some (.arr true (.int .u8))]⟩
def fx13_b : List Bool := [true, false]
abbrev g13_b_1 : Sg := ⟨[0], [.lf (.ptr 0 0)], [some (.box true [.lf (.gr (.int .u8) 2), .lf (.int .i64), .lf (.int .i64)]), none, some (.arr true (.int .u8))]⟩
abbrev o13_b_1 : Outs := [(.exit 0, ⟨[0], [.lf (.ptr 0 0)], [some (.box true [.lf (.gr (.int .u8) 2), .lf (.int .i64), .lf (.int .i64)]), none, some (.arr true (.int .u8))]⟩)]
noncomputable def b13_b_1 (x : g13_b_1.D) : Option (outD ((.normal, g13_b_1) :: o13_b_1)) :=
  (if ((decide (x.2.1 ≥ (8 : Int))) = true) then (if ((Go.IntKind.wrap Go.IntKind.i64 (x.2.1 - (8 : Int))) < (0 : Int)) then none
   else (if (((List.length (List.take (List.length x.2.2.1) (List.drop (0 : Nat) x.2.2.1))) + (List.length (List.take (1 : Nat) (List.drop (0 : Nat) (List.set (List.replicate (1 : Nat) (0 : Int)) (0 : Nat) (Go.IntKind.wrap Go.IntKind.u8 (Int.fdiv x.1 ((2 : Int) ^ (Min.min (Int.toNat (Go.IntKind.wrap Go.IntKind.i64 (x.2.1 - (8 : Int)))) (64 : Nat)))))))))) ≤ (140737488355328 : Nat)) then (if ((List.length ((List.take (List.length x.2.2.1) (List.drop (0 : Nat) x.2.2.1)) ++ (List.take (1 : Nat) (List.drop (0 : Nat) (List.set (List.replicate (1 : Nat) (0 : Int)) (0 : Nat) (Go.IntKind.wrap Go.IntKind.u8 (Int.fdiv x.1 ((2 : Int) ^ (Min.min (Int.toNat (Go.IntKind.wrap Go.IntKind.i64 (x.2.1 - (8 : Int)))) (64 : Nat)))))))))) = (List.length ((List.take (List.length x.2.2.1) (List.drop (0 : Nat) x.2.2.1)) ++ (List.take (1 : Nat) (List.drop (0 : Nat) (List.set (List.replicate (1 : Nat) (0 : Int)) (0 : Nat) (Go.IntKind.wrap Go.IntKind.u8 (Int.fdiv x.1 ((2 : Int) ^ (Min.min (Int.toNat (Go.IntKind.wrap Go.IntKind.i64 (x.2.1 - (8 : Int)))) (64 : Nat))))))))))) then (some (Sum.inl (x.1, ((Go.IntKind.wrap Go.IntKind.i64 (x.2.1 - (8 : Int))), (((List.take (List.length x.2.2.1) (List.drop (0 : Nat) x.2.2.1)) ++ (List.take (1 : Nat) (List.drop (0 : Nat) (List.set (List.replicate (1 : Nat) (0 : Int)) (0 : Nat) (Go.IntKind.wrap Go.IntKind.u8 (Int.fdiv x.1 ((2 : Int) ^ (Min.min (Int.toNat (Go.IntKind.wrap Go.IntKind.i64 (x.2.1 - (8 : Int)))) (64 : Nat))))))))), Unit.unit)))))
   else none)
   else none))
   else (if ((List.length x.2.2.1) = (List.length x.2.2.1)) then (some (Sum.inr (Sum.inl (x.1, (x.2.1, (x.2.2.1, Unit.unit))))))
   else none))
theorem b13_b_1_eq (x : g13_b_1.D) : b13_b_1 x = evF P (T7.orc _) Go.Proofs.Try.f13.ntmps fx13_b (Code.at [true, false, true, false, false] c13) (planAt 64 []) g13_b_1 x (injK fx13_b ((.normal, g13_b_1) :: o13_b_1) some) := by kernel_rfl
noncomputable def l13_b_1 : g13_b_1.D → Option (outD o13_b_1) := loopN g13_b_1 o13_b_1 b13_b_1 18446744073709551616
theorem at13_b_1 : Code.at [true, false, true, false] c13 = .loop (Code.at [true, false, true, false, false] c13) := by kernel_rfl
theorem s13_b_1_ok : SubOk P Go.Proofs.Try.f13.ntmps fx13_b (Code.at [true, false, true, false] c13) ⟨g13_b_1, o13_b_1, l13_b_1⟩ := by
  rw [at13_b_1]
  exact loop_ok (sub_ok (ct := ⟨g13_b_1, ((.normal, g13_b_1) :: o13_b_1), b13_b_1⟩) (Table.ok T7_ok _) hmix (planAt_ok (d := 64) (l := []) trivial) b13_b_1_eq) rfl _
noncomputable def f13_b (x : gi13_b.D) : Option go13_b.D :=
  (if (x.2.1 < (0 : Int)) then none
   else (if ((List.length x.2.2.2.2.1) = (List.length x.2.2.2.2.1)) then (Option.bind (Go.Ev.Lzw.l13_b_1 ((Go.IntKind.wrap Go.IntKind.i64 (((BitVec.toNat ((BitVec.ofInt (64 : Nat) (Go.IntKind.wrap Go.IntKind.i64 (x.2.2.1 * ((2 : Int) ^ (Min.min (Int.toNat x.2.1) (64 : Nat)))))) ||| (BitVec.ofInt (64 : Nat) x.1))) : Nat) : Int)), ((Go.IntKind.wrap Go.IntKind.i64 (x.2.2.2.1 + x.2.1)), (x.2.2.2.2.1, Unit.unit)))) (Sum.elim (fun y1 => (if (y1.2.1 < (0 : Int)) then none
   else (if ((List.length y1.2.2.1) = (List.length y1.2.2.1)) then (some ((Go.IntKind.wrap Go.IntKind.i64 (((BitVec.toNat ((BitVec.ofInt (64 : Nat) y1.1) &&& (BitVec.ofInt (64 : Nat) (Go.IntKind.wrap Go.IntKind.i64 ((Go.IntKind.wrap Go.IntKind.i64 ((1 : Int) * ((2 : Int) ^ (Min.min (Int.toNat y1.2.1) (64 : Nat))))) - (1 : Int)))))) : Nat) : Int)), (y1.2.1, (y1.2.2.1, Unit.unit))))
   else none))) Empty.elim))
   else none))
theorem f13_b_eq (x : gi13_b.D) : f13_b x = evF P (T7.orc _) Go.Proofs.Try.f13.ntmps fx13_b c13 (planAt 64 [([true, false, true, false], ⟨g13_b_1, o13_b_1, l13_b_1⟩)]) gi13_b x (fnK fx13_b go13_b) := by kernel_rfl
theorem f13_b_ok : EntOk P 13 ⟨gi13_b, go13_b, f13_b⟩ :=
  ent_ok (e := ⟨gi13_b, go13_b, f13_b⟩) (c := c13) (fx := fx13_b) ⟨Go.Proofs.Try.func13, by kernel_rfl, rfl, by decide +kernel, by kernel_rfl, rfl, rfl⟩ (Table.ok T7_ok _) hmix (planAt_ok (d := 64) (l := [([true, false, true, false], ⟨g13_b_1, o13_b_1, l13_b_1⟩)]) ⟨s13_b_1_ok, trivial⟩) f13_b_eq
noncomputable def T13 : Table := T7.add 13 [⟨gi13, go13, f13⟩, ⟨gi13_b, go13_b, f13_b⟩] []
theorem T13_ok : TableOk P T13 := Table.plus T7_ok (es := [⟨gi13, go13, f13⟩, ⟨gi13_b, go13_b, f13_b⟩]) ⟨f13_ok, f13_b_ok, trivial⟩ []

/-! ## 14: erasure/lzw.size -/
noncomputable def c14 : Code := Func.code Go.Proofs.Try.f14
abbrev gi14 : Sg := ⟨[0], [.lf (.int .i64)], []⟩
abbrev go14 : Sg := ⟨[2], [.lf (.int .i64)], []⟩
def fx14 : List Bool := []
noncomputable def f14 (x : gi14.D) : Option go14.D :=
  (if ((decide (x.1 < (253 : Int))) = true) then (some ((9 : Int), Unit.unit))
   else (if ((decide (x.1 < (765 : Int))) = true) then (some ((10 : Int), Unit.unit))
   else (if ((decide (x.1 < (1789 : Int))) = true) then (some ((11 : Int), Unit.unit))
   else (some ((12 : Int), Unit.unit)))))
theorem f14_eq (x : gi14.D) : f14 x = evF P (T13.orc _) Go.Proofs.Try.f14.ntmps fx14 c14 (planAt 64 []) gi14 x (fnK fx14 go14) := by kernel_rfl
theorem f14_ok : EntOk P 14 ⟨gi14, go14, f14⟩ :=
  ent_ok (e := ⟨gi14, go14, f14⟩) (c := c14) (fx := fx14) ⟨Go.Proofs.Try.func14, by kernel_rfl, rfl, by decide +kernel, by kernel_rfl, rfl, rfl⟩ (Table.ok T13_ok _) hmix (planAt_ok (d := 64) (l := []) trivial) f14_eq
noncomputable def T14 : Table := T13.add 14 [⟨gi14, go14, f14⟩] []
theorem T14_ok : TableOk P T14 := Table.plus T13_ok (es := [⟨gi14, go14, f14⟩]) ⟨f14_ok, trivial⟩ []

/-! ## 15: (*erasure/lzw.writer).bytes -/
noncomputable def c15 : Code := Func.code Go.Proofs.Try.f15
abbrev gi15 : Sg := ⟨[0], [.lf (.ptr 0 0)], [some (.box true [.lf (.gr (.int .u8) 1), .lf (.int .i64), .lf (.int .i64)]), some (.arr true (.int .u8))]⟩
abbrev go15 : Sg := ⟨[2], [.lf (.gr (.int .u8) 2)], [some (.box true [.lf (.gr (.int .u8) 2), .lf (.int .i64), .lf (.int .i64)]), none, some (.arr true (.int .u8))]⟩
def fx15 : List Bool := [true, false]
noncomputable def f15 (x : gi15.D) : Option go15.D :=
  (if ((decide (x.2.1 > (0 : Int))) = true) then (if ((List.length x.2.2.1) = (List.length x.2.2.1)) then (Option.bind (Go.Ev.Lzw.f13_b ((0 : Int), ((Go.IntKind.wrap Go.IntKind.i64 ((8 : Int) - x.2.1)), (x.1, (x.2.1, (x.2.2.1, Unit.unit)))))) (fun y1 => (if ((List.length y1.2.2.1) = (List.length y1.2.2.1)) then (if ((List.length y1.2.2.1) = (List.length y1.2.2.1)) then (some (y1.1, (y1.2.1, (y1.2.2.1, Unit.unit))))
   else none)
   else none)))
   else none)
   else (if ((List.length x.2.2.1) = (List.length x.2.2.1)) then (if ((List.length x.2.2.1) = (List.length x.2.2.1)) then (some (x.1, (x.2.1, (x.2.2.1, Unit.unit))))
   else none)
   else none))
theorem f15_eq (x : gi15.D) : f15 x = evF P (T14.orc _) Go.Proofs.Try.f15.ntmps fx15 c15 (planAt 64 []) gi15 x (fnK fx15 go15) := by kernel_rfl
theorem f15_ok : EntOk P 15 ⟨gi15, go15, f15⟩ :=
  ent_ok (e := ⟨gi15, go15, f15⟩) (c := c15) (fx := fx15) ⟨Go.Proofs.Try.func15, by kernel_rfl, rfl, by decide +kernel, by kernel_rfl, rfl, rfl⟩ (Table.ok T14_ok _) hmix (planAt_ok (d := 64) (l := []) trivial) f15_eq
noncomputable def T15 : Table := T14.add 15 [⟨gi15, go15, f15⟩] []
theorem T15_ok : TableOk P T15 := Table.plus T14_ok (es := [⟨gi15, go15, f15⟩]) ⟨f15_ok, trivial⟩ []

/-! ## 8: erasure/lzw.Put -/
noncomputable def c8 : Code := Func.code Go.Proofs.Try.f8
abbrev gi8 : Sg := ⟨[0], [.lf (.sl (.int .u8))], []⟩
abbrev go8 : Sg := ⟨[2, 3], [.lf (.gr (.int .u8) 0), .lf (.int .i64)], [some (.arr true (.int .u8))]⟩
def fx8 : List Bool := []
abbrev g8_2 : Sg := ⟨[0, 4, 5, 6, 7, 8], [.lf (.sl (.int .u8)), .lf (.ptr 0 0), .lf (.mp 1), .lf (.int .i64), .lf (.int .i64), .lf (.int .i64)], [some (.box true [.lf (.gr (.int .u8) 2), .lf (.int .i64), .lf (.int .i64)]), some (.map .str (.int .i64)), some (.arr true (.int .u8))]⟩
abbrev o8_2 : Outs := [(.exit 2, ⟨[0, 4, 5, 6, 7, 8], [.lf (.sl (.int .u8)), .lf (.ptr 0 0), .lf (.mp 1), .lf (.int .i64), .lf (.int .i64), .lf (.int .i64)], [some (.box true [.lf (.gr (.int .u8) 2), .lf (.int .i64), .lf (.int .i64)]), some (.map .str (.int .i64)), some (.arr true (.int .u8))]⟩)]
noncomputable def b8_2 (x : g8_2.D) : Option (outD ((.normal, g8_2) :: o8_2)) :=
  (if ((decide (x.2.2.2.1 < (((List.length x.1) : Nat) : Int))) = true) then (if ((0 : Int) ≤ (Go.IntKind.wrap Go.IntKind.i64 (x.2.2.2.1 + (1 : Int)))) then (if ((Go.IntKind.wrap Go.IntKind.i64 (x.2.2.2.1 + (1 : Int))) ≤ (((List.length x.1) : Nat) : Int)) then (if ((Bool.not (Option.isSome (Go.Ev.mget Go.Ev.Shape.str (Go.Ev.Shape.int Go.IntKind.i64) (ByteArray.mk (List.toArray (List.map (fun y1 => (UInt8.ofNat (Int.toNat y1))) (List.take (Int.toNat (Go.IntKind.wrap Go.IntKind.i64 (x.2.2.2.1 + (1 : Int)))) x.1)))) x.2.2.2.2.2.2.1))) = true) then (if ((List.length x.2.2.2.2.2.2.2.1) = (List.length x.2.2.2.2.2.2.2.1)) then (some (Sum.inr (Sum.inl (x.1, (x.2.1, (x.2.2.1, (x.2.2.2.1, (x.2.2.2.2.1, (x.2.2.2.2.2.1, (x.2.2.2.2.2.2.1, (x.2.2.2.2.2.2.2.1, Unit.unit)))))))))))
   else none)
   else (if ((List.length x.2.2.2.2.2.2.2.1) = (List.length x.2.2.2.2.2.2.2.1)) then (some (Sum.inl (x.1, (x.2.1, ((Option.getD (Go.Ev.mget Go.Ev.Shape.str (Go.Ev.Shape.int Go.IntKind.i64) (ByteArray.mk (List.toArray (List.map (fun y1 => (UInt8.ofNat (Int.toNat y1))) (List.take (Int.toNat (Go.IntKind.wrap Go.IntKind.i64 (x.2.2.2.1 + (1 : Int)))) x.1)))) x.2.2.2.2.2.2.1) (0 : Int)), ((Go.IntKind.wrap Go.IntKind.i64 (x.2.2.2.1 + (1 : Int))), (x.2.2.2.2.1, (x.2.2.2.2.2.1, (x.2.2.2.2.2.2.1, (x.2.2.2.2.2.2.2.1, Unit.unit))))))))))
   else none))
   else none)
   else none)
   else (if ((List.length x.2.2.2.2.2.2.2.1) = (List.length x.2.2.2.2.2.2.2.1)) then (some (Sum.inr (Sum.inl (x.1, (x.2.1, (x.2.2.1, (x.2.2.2.1, (x.2.2.2.2.1, (x.2.2.2.2.2.1, (x.2.2.2.2.2.2.1, (x.2.2.2.2.2.2.2.1, Unit.unit)))))))))))
   else none))
theorem b8_2_eq (x : g8_2.D) : b8_2 x = evF P (T15.orc _) Go.Proofs.Try.f8.ntmps fx8 (Code.at [true, true, true, true, true, true, false, false, false, true, false, true, false, false, false] c8) (planAt 64 []) g8_2 x (injK fx8 ((.normal, g8_2) :: o8_2) some) := by kernel_rfl
noncomputable def l8_2 : g8_2.D → Option (outD o8_2) := loopN g8_2 o8_2 b8_2 18446744073709551616
theorem at8_2 : Code.at [true, true, true, true, true, true, false, false, false, true, false, true, false, false] c8 = .loop (Code.at [true, true, true, true, true, true, false, false, false, true, false, true, false, false, false] c8) := by kernel_rfl
theorem s8_2_ok : SubOk P Go.Proofs.Try.f8.ntmps fx8 (Code.at [true, true, true, true, true, true, false, false, false, true, false, true, false, false] c8) ⟨g8_2, o8_2, l8_2⟩ := by
  rw [at8_2]
  exact loop_ok (sub_ok (ct := ⟨g8_2, ((.normal, g8_2) :: o8_2), b8_2⟩) (Table.ok T15_ok _) hmix (planAt_ok (d := 64) (l := []) trivial) b8_2_eq) rfl _
abbrev g8_1 : Sg := ⟨[0, 4, 5, 6], [.lf (.sl (.int .u8)), .lf (.ptr 0 0), .lf (.mp 1), .lf (.int .i64)], [some (.box true [.lf (.gr (.int .u8) 2), .lf (.int .i64), .lf (.int .i64)]), some (.map .str (.int .i64)), some (.arr true (.int .u8))]⟩
abbrev o8_1 : Outs := [(.exit 0, ⟨[4, 6], [.lf (.ptr 0 0), .lf (.int .i64)], [some (.box true [.lf (.gr (.int .u8) 1), .lf (.int .i64), .lf (.int .i64)]), some (.arr true (.int .u8))]⟩)]
noncomputable def b8_1 (x : g8_1.D) : Option (outD ((.normal, g8_1) :: o8_1)) :=
  (if ((decide ((((List.length x.1) : Nat) : Int) > (0 : Int))) = true) then (if ((0 : Int) < (((List.length x.1) : Nat) : Int)) then (if ((List.length x.2.2.2.2.2.1) = (List.length x.2.2.2.2.2.1)) then (Option.bind (Go.Ev.Lzw.l8_2 (x.1, (x.2.1, ((Go.IntKind.wrap Go.IntKind.i64 (List.getD x.1 (0 : Nat) (0 : Int))), ((1 : Int), (x.2.2.1, (x.2.2.2.1, (x.2.2.2.2.1, (x.2.2.2.2.2.1, Unit.unit))))))))) (Sum.elim (fun y1 => (Option.bind (Go.Ev.Lzw.f14 ((Max.max (Go.IntKind.wrap Go.IntKind.i64 (y1.2.1 - (1 : Int))) (0 : Int)), Unit.unit)) (fun y2 => (if ((List.length y1.2.2.2.2.2.2.2.1) = (List.length y1.2.2.2.2.2.2.2.1)) then (Option.bind (Go.Ev.Lzw.f13_b (y1.2.2.1, (y2.1, (y1.2.2.2.2.1, (y1.2.2.2.2.2.1, (y1.2.2.2.2.2.2.2.1, Unit.unit)))))) (fun y3 => (if ((decide (y1.2.2.2.1 < (((List.length y1.1) : Nat) : Int))) = true) then (if ((0 : Int) ≤ (Go.IntKind.wrap Go.IntKind.i64 (y1.2.2.2.1 + (1 : Int)))) then (if ((Go.IntKind.wrap Go.IntKind.i64 (y1.2.2.2.1 + (1 : Int))) ≤ (((List.length y1.1) : Nat) : Int)) then (if (((((List.length (Go.Ev.mset Go.Ev.Shape.str (Go.Ev.Shape.int Go.IntKind.i64) (ByteArray.mk (List.toArray (List.map (fun y4 => (UInt8.ofNat (Int.toNat y4))) (List.take (Int.toNat (Go.IntKind.wrap Go.IntKind.i64 (y1.2.2.2.1 + (1 : Int)))) y1.1)))) (Go.IntKind.wrap Go.IntKind.i64 ((258 : Int) + (((List.length y1.2.2.2.2.2.2.1) : Nat) : Int))) y1.2.2.2.2.2.2.1)) : Nat) : Int) == (3837 : Int)) = true) then (Option.bind (Go.Ev.Lzw.f14 ((Go.IntKind.wrap Go.IntKind.i64 ((Go.IntKind.wrap Go.IntKind.i64 (y1.2.1 + (1 : Int))) - (1 : Int))), Unit.unit)) (fun y4 => (if ((List.length y3.2.2.1) = (List.length y3.2.2.1)) then (Option.bind (Go.Ev.Lzw.f13_b ((256 : Int), (y4.1, (y3.1, (y3.2.1, (y3.2.2.1, Unit.unit)))))) (fun y5 => (if ((0 : Int) ≤ y1.2.2.2.1) then (if (y1.2.2.2.1 ≤ (((List.length y1.1) : Nat) : Int)) then (if ((List.length y5.2.2.1) = (List.length y5.2.2.1)) then (some (Sum.inl ((List.drop (Int.toNat y1.2.2.2.1) y1.1), ((0 : Int), (y5.1, (y5.2.1, ([], (y5.2.2.1, Unit.unit))))))))
   else none)
   else none)
   else none)))
   else none)))
   else (if ((0 : Int) ≤ y1.2.2.2.1) then (if (y1.2.2.2.1 ≤ (((List.length y1.1) : Nat) : Int)) then (if ((List.length y3.2.2.1) = (List.length y3.2.2.1)) then (some (Sum.inl ((List.drop (Int.toNat y1.2.2.2.1) y1.1), ((Go.IntKind.wrap Go.IntKind.i64 (y1.2.1 + (1 : Int))), (y3.1, (y3.2.1, ((Go.Ev.mset Go.Ev.Shape.str (Go.Ev.Shape.int Go.IntKind.i64) (ByteArray.mk (List.toArray (List.map (fun y4 => (UInt8.ofNat (Int.toNat y4))) (List.take (Int.toNat (Go.IntKind.wrap Go.IntKind.i64 (y1.2.2.2.1 + (1 : Int)))) y1.1)))) (Go.IntKind.wrap Go.IntKind.i64 ((258 : Int) + (((List.length y1.2.2.2.2.2.2.1) : Nat) : Int))) y1.2.2.2.2.2.2.1), (y3.2.2.1, Unit.unit))))))))
   else none)
   else none)
   else none))
   else none)
   else none)
   else (if ((0 : Int) ≤ y1.2.2.2.1) then (if (y1.2.2.2.1 ≤ (((List.length y1.1) : Nat) : Int)) then (if ((List.length y3.2.2.1) = (List.length y3.2.2.1)) then (some (Sum.inl ((List.drop (Int.toNat y1.2.2.2.1) y1.1), ((Go.IntKind.wrap Go.IntKind.i64 (y1.2.1 + (1 : Int))), (y3.1, (y3.2.1, (y1.2.2.2.2.2.2.1, (y3.2.2.1, Unit.unit))))))))
   else none)
   else none)
   else none))))
   else none)))) Empty.elim))
   else none)
   else none)
   else (if ((List.length x.2.2.2.2.2.1) = (List.length x.2.2.2.2.2.1)) then (some (Sum.inr (Sum.inl (x.2.1, (x.2.2.1, (x.2.2.2.1, (x.2.2.2.2.2.1, Unit.unit)))))))
   else none))
theorem b8_1_eq (x : g8_1.D) : b8_1 x = evF P (T15.orc _) Go.Proofs.Try.f8.ntmps fx8 (Code.at [true, true, true, true, true, true, false, false, false] c8) (planAt 64 [([true, false, true, false, false], ⟨g8_2, o8_2, l8_2⟩)]) g8_1 x (injK fx8 ((.normal, g8_1) :: o8_1) some) := by kernel_rfl
noncomputable def l8_1 : g8_1.D → Option (outD o8_1) := loopN g8_1 o8_1 b8_1 18446744073709551616
theorem at8_1 : Code.at [true, true, true, true, true, true, false, false] c8 = .loop (Code.at [true, true, true, true, true, true, false, false, false] c8) := by kernel_rfl
theorem s8_1_ok : SubOk P Go.Proofs.Try.f8.ntmps fx8 (Code.at [true, true, true, true, true, true, false, false] c8) ⟨g8_1, o8_1, l8_1⟩ := by
  rw [at8_1]
  exact loop_ok (sub_ok (ct := ⟨g8_1, ((.normal, g8_1) :: o8_1), b8_1⟩) (Table.ok T15_ok _) hmix (planAt_ok (d := 64) (l := [([true, false, true, false, false], ⟨g8_2, o8_2, l8_2⟩)]) ⟨s8_2_ok, trivial⟩) b8_1_eq) rfl _
noncomputable def f8 (x : gi8.D) : Option go8.D :=
  (if ((decide ((((List.length x.1) : Nat) : Int) > (1048576 : Int))) = true) then (some ((2 : Int), ([], Unit.unit)))
   else (Option.bind (Go.Ev.Lzw.f13 ((256 : Int), ((9 : Int), ((0 : Int), ((0 : Int), Unit.unit))))) (fun y1 => (if ((List.length y1.2.2.1) = (List.length y1.2.2.1)) then (Option.bind (Go.Ev.Lzw.l8_1 (x.1, ((0 : Int), (y1.1, (y1.2.1, ([], (y1.2.2.1, Unit.unit))))))) (Sum.elim (fun y2 => (Option.bind (Go.Ev.Lzw.f14 ((Max.max (Go.IntKind.wrap Go.IntKind.i64 (y2.1 - (1 : Int))) (0 : Int)), Unit.unit)) (fun y3 => (if ((List.length y2.2.2.2.1) = (List.length y2.2.2.2.1)) then (Option.bind (Go.Ev.Lzw.f13_b ((257 : Int), (y3.1, (y2.2.1, (y2.2.2.1, (y2.2.2.2.1, Unit.unit)))))) (fun y4 => (if ((List.length y4.2.2.1) = (List.length y4.2.2.1)) then (Option.bind (Go.Ev.Lzw.f15 (y4.1, (y4.2.1, (y4.2.2.1, Unit.unit)))) (fun y5 => (if ((List.length y5.2.2.1) = (List.length y5.2.2.1)) then (some ((0 : Int), (y5.2.2.1, Unit.unit)))
   else none)))
   else none)))
   else none)))) Empty.elim))
   else none))))
theorem f8_eq (x : gi8.D) : f8 x = evF P (T15.orc _) Go.Proofs.Try.f8.ntmps fx8 c8 (planAt 64 [([true, true, true, true, true, true, false, false], ⟨g8_1, o8_1, l8_1⟩)]) gi8 x (fnK fx8 go8) := by kernel_rfl
theorem f8_ok : EntOk P 8 ⟨gi8, go8, f8⟩ :=
  ent_ok (e := ⟨gi8, go8, f8⟩) (c := c8) (fx := fx8) ⟨Go.Proofs.Try.func8, by kernel_rfl, rfl, by decide +kernel, by kernel_rfl, rfl, rfl⟩ (Table.ok T15_ok _) hmix (planAt_ok (d := 64) (l := [([true, true, true, true, true, true, false, false], ⟨g8_1, o8_1, l8_1⟩)]) ⟨s8_1_ok, trivial⟩) f8_eq
noncomputable def T8 : Table := T15.add 8 [⟨gi8, go8, f8⟩] []
theorem T8_ok : TableOk P T8 := Table.plus T15_ok (es := [⟨gi8, go8, f8⟩]) ⟨f8_ok, trivial⟩ []

/-! ## 16: erasure/erasureref12.put -/
noncomputable def c16 : Code := Func.code Go.Proofs.Try.f16
abbrev gi16 : Sg := ⟨[0, 1, 2], [.lf .nils, .lf (.int .i64), .lf (.int .i64)], []⟩
abbrev go16 : Sg := ⟨[6], [.lf (.gr .bool 0)], [some (.arr true .bool)]⟩
def fx16 : List Bool := []
abbrev g16_2 : Sg := ⟨[0, 1, 2, 7, 9], [.lf (.gr .bool 0), .lf (.int .i64), .lf (.int .i64), .lf (.int .i64), .lf (.int .i64)], [some (.arr true .bool)]⟩
abbrev o16_2 : Outs := [(.exit 2, ⟨[0], [.lf (.gr .bool 0)], [some (.arr true .bool)]⟩)]
noncomputable def b16_2 (x : g16_2.D) : Option (outD ((.normal, g16_2) :: o16_2)) :=
  (if ((decide (x.2.2.2.1 < x.2.1)) = true) then (if (x.2.2.1 = (0 : Int)) then none
   else (if (((List.length (List.take (List.length x.2.2.2.2.1) (List.drop (0 : Nat) x.2.2.2.2.1))) + (List.length (List.take (1 : Nat) (List.drop (0 : Nat) (List.set (List.replicate (1 : Nat) false) (0 : Nat) ((Int.tmod (Go.IntKind.wrap Go.IntKind.i64 (Int.tdiv x.1 x.2.2.1)) (2 : Int)) == (1 : Int))))))) ≤ (140737488355328 : Nat)) then (if ((List.length ((List.take (List.length x.2.2.2.2.1) (List.drop (0 : Nat) x.2.2.2.2.1)) ++ (List.take (1 : Nat) (List.drop (0 : Nat) (List.set (List.replicate (1 : Nat) false) (0 : Nat) ((Int.tmod (Go.IntKind.wrap Go.IntKind.i64 (Int.tdiv x.1 x.2.2.1)) (2 : Int)) == (1 : Int))))))) = (List.length ((List.take (List.length x.2.2.2.2.1) (List.drop (0 : Nat) x.2.2.2.2.1)) ++ (List.take (1 : Nat) (List.drop (0 : Nat) (List.set (List.replicate (1 : Nat) false) (0 : Nat) ((Int.tmod (Go.IntKind.wrap Go.IntKind.i64 (Int.tdiv x.1 x.2.2.1)) (2 : Int)) == (1 : Int)))))))) then (some (Sum.inl (x.1, (x.2.1, ((Max.max (Go.IntKind.wrap Go.IntKind.i64 (Int.tdiv x.2.2.1 (2 : Int))) (1 : Int)), ((Go.IntKind.wrap Go.IntKind.i64 (x.2.2.2.1 + (1 : Int))), (((List.take (List.length x.2.2.2.2.1) (List.drop (0 : Nat) x.2.2.2.2.1)) ++ (List.take (1 : Nat) (List.drop (0 : Nat) (List.set (List.replicate (1 : Nat) false) (0 : Nat) ((Int.tmod (Go.IntKind.wrap Go.IntKind.i64 (Int.tdiv x.1 x.2.2.1)) (2 : Int)) == (1 : Int)))))), Unit.unit)))))))
   else none)
   else none))
   else (if ((List.length x.2.2.2.2.1) = (List.length x.2.2.2.2.1)) then (some (Sum.inr (Sum.inl (x.2.2.2.2.1, Unit.unit))))
   else none))
theorem b16_2_eq (x : g16_2.D) : b16_2 x = evF P (T8.orc _) Go.Proofs.Try.f16.ntmps fx16 (Code.at [true, true, true, false, true, false, false] c16) (planAt 64 []) g16_2 x (injK fx16 ((.normal, g16_2) :: o16_2) some) := by kernel_rfl
noncomputable def l16_2 : g16_2.D → Option (outD o16_2) := loopN g16_2 o16_2 b16_2 18446744073709551616
theorem at16_2 : Code.at [true, true, true, false, true, false] c16 = .loop (Code.at [true, true, true, false, true, false, false] c16) := by kernel_rfl
theorem s16_2_ok : SubOk P Go.Proofs.Try.f16.ntmps fx16 (Code.at [true, true, true, false, true, false] c16) ⟨g16_2, o16_2, l16_2⟩ := by
  rw [at16_2]
  exact loop_ok (sub_ok (ct := ⟨g16_2, ((.normal, g16_2) :: o16_2), b16_2⟩) (Table.ok T8_ok _) hmix (planAt_ok (d := 64) (l := []) trivial) b16_2_eq) rfl _
abbrev g16_1 : Sg := ⟨[0, 1, 2, 7, 8], [.lf (.gr .bool 0), .lf (.int .i64), .lf (.int .i64), .lf (.int .i64), .lf (.int .i64)], [some (.arr true .bool)]⟩
abbrev o16_1 : Outs := [(.exit 0, ⟨[0, 1, 2, 7], [.lf (.gr .bool 0), .lf (.int .i64), .lf (.int .i64), .lf (.int .i64)], [some (.arr true .bool)]⟩)]
noncomputable def b16_1 (x : g16_1.D) : Option (outD ((.normal, g16_1) :: o16_1)) :=
  (if ((decide (x.2.2.2.1 < x.2.1)) = true) then (if ((List.length x.2.2.2.2.1) = (List.length x.2.2.2.2.1)) then (some (Sum.inl (x.1, (x.2.1, ((Go.IntKind.wrap Go.IntKind.i64 ((2 : Int) * x.2.2.1)), ((Go.IntKind.wrap Go.IntKind.i64 (x.2.2.2.1 + (1 : Int))), (x.2.2.2.2.1, Unit.unit)))))))
   else none)
   else (if ((List.length x.2.2.2.2.1) = (List.length x.2.2.2.2.1)) then (some (Sum.inr (Sum.inl (x.1, (x.2.1, (x.2.2.1, (x.2.2.2.2.1, Unit.unit)))))))
   else none))
theorem b16_1_eq (x : g16_1.D) : b16_1 x = evF P (T8.orc _) Go.Proofs.Try.f16.ntmps fx16 (Code.at [true, true, false, true, false, false] c16) (planAt 64 []) g16_1 x (injK fx16 ((.normal, g16_1) :: o16_1) some) := by kernel_rfl
noncomputable def l16_1 : g16_1.D → Option (outD o16_1) := loopN g16_1 o16_1 b16_1 18446744073709551616
theorem at16_1 : Code.at [true, true, false, true, false] c16 = .loop (Code.at [true, true, false, true, false, false] c16) := by kernel_rfl
theorem s16_1_ok : SubOk P Go.Proofs.Try.f16.ntmps fx16 (Code.at [true, true, false, true, false] c16) ⟨g16_1, o16_1, l16_1⟩ := by
  rw [at16_1]
  exact loop_ok (sub_ok (ct := ⟨g16_1, ((.normal, g16_1) :: o16_1), b16_1⟩) (Table.ok T8_ok _) hmix (planAt_ok (d := 64) (l := []) trivial) b16_1_eq) rfl _
noncomputable def f16 (x : gi16.D) : Option go16.D :=
  (Option.bind (Go.Ev.Lzw.l16_1 (x.1, (x.2.1, ((1 : Int), ((1 : Int), ([], Unit.unit)))))) (Sum.elim (fun y1 => (if ((List.length y1.2.2.2.1) = (List.length y1.2.2.2.1)) then (Option.bind (Go.Ev.Lzw.l16_2 (y1.1, (y1.2.1, (y1.2.2.1, ((0 : Int), (y1.2.2.2.1, Unit.unit)))))) (Sum.elim (fun y2 => (if ((List.length y2.1) = (List.length y2.1)) then (some (y2.1, Unit.unit))
   else none)) Empty.elim))
   else none)) Empty.elim))
theorem f16_eq (x : gi16.D) : f16 x = evF P (T8.orc _) Go.Proofs.Try.f16.ntmps fx16 c16 (planAt 64 [([true, true, false, true, false], ⟨g16_1, o16_1, l16_1⟩), ([true, true, true, false, true, false], ⟨g16_2, o16_2, l16_2⟩)]) gi16 x (fnK fx16 go16) := by kernel_rfl
theorem f16_ok : EntOk P 16 ⟨gi16, go16, f16⟩ :=
  ent_ok (e := ⟨gi16, go16, f16⟩) (c := c16) (fx := fx16) ⟨Go.Proofs.Try.func16, by kernel_rfl, rfl, by decide +kernel, by kernel_rfl, rfl, rfl⟩ (Table.ok T8_ok _) hmix (planAt_ok (d := 64) (l := [([true, true, false, true, false], ⟨g16_1, o16_1, l16_1⟩), ([true, true, true, false, true, false], ⟨g16_2, o16_2, l16_2⟩)]) ⟨s16_1_ok, s16_2_ok, trivial⟩) f16_eq
abbrev gi16_b : Sg := ⟨[0, 1, 2], [.lf (.gr .bool 0), .lf (.int .i64), .lf (.int .i64)], [some (.arr true .bool)]⟩
abbrev go16_b : Sg := ⟨[6], [.lf (.gr .bool 1)], [none, some (.arr true .bool)]⟩
def fx16_b : List Bool := [false]
abbrev g16_b_2 : Sg := ⟨[0, 1, 2, 7, 9], [.lf (.gr .bool 1), .lf (.int .i64), .lf (.int .i64), .lf (.int .i64), .lf (.int .i64)], [none, some (.arr true .bool)]⟩
abbrev o16_b_2 : Outs := [(.exit 2, ⟨[0], [.lf (.gr .bool 1)], [none, some (.arr true .bool)]⟩)]
noncomputable def b16_b_2 (x : g16_b_2.D) : Option (outD ((.normal, g16_b_2) :: o16_b_2)) :=
  (if ((decide (x.2.2.2.1 < x.2.1)) = true) then (if (x.2.2.1 = (0 : Int)) then none
   else (if (((List.length (List.take (List.length x.2.2.2.2.1) (List.drop (0 : Nat) x.2.2.2.2.1))) + (List.length (List.take (1 : Nat) (List.drop (0 : Nat) (List.set (List.replicate (1 : Nat) false) (0 : Nat) ((Int.tmod (Go.IntKind.wrap Go.IntKind.i64 (Int.tdiv x.1 x.2.2.1)) (2 : Int)) == (1 : Int))))))) ≤ (140737488355328 : Nat)) then (if ((List.length ((List.take (List.length x.2.2.2.2.1) (List.drop (0 : Nat) x.2.2.2.2.1)) ++ (List.take (1 : Nat) (List.drop (0 : Nat) (List.set (List.replicate (1 : Nat) false) (0 : Nat) ((Int.tmod (Go.IntKind.wrap Go.IntKind.i64 (Int.tdiv x.1 x.2.2.1)) (2 : Int)) == (1 : Int))))))) = (List.length ((List.take (List.length x.2.2.2.2.1) (List.drop (0 : Nat) x.2.2.2.2.1)) ++ (List.take (1 : Nat) (List.drop (0 : Nat) (List.set (List.replicate (1 : Nat) false) (0 : Nat) ((Int.tmod (Go.IntKind.wrap Go.IntKind.i64 (Int.tdiv x.1 x.2.2.1)) (2 : Int)) == (1 : Int)))))))) then (some (Sum.inl (x.1, (x.2.1, ((Max.max (Go.IntKind.wrap Go.IntKind.i64 (Int.tdiv x.2.2.1 (2 : Int))) (1 : Int)), ((Go.IntKind.wrap Go.IntKind.i64 (x.2.2.2.1 + (1 : Int))), (((List.take (List.length x.2.2.2.2.1) (List.drop (0 : Nat) x.2.2.2.2.1)) ++ (List.take (1 : Nat) (List.drop (0 : Nat) (List.set (List.replicate (1 : Nat) false) (0 : Nat) ((Int.tmod (Go.IntKind.wrap Go.IntKind.i64 (Int.tdiv x.1 x.2.2.1)) (2 : Int)) == (1 : Int)))))), Unit.unit)))))))
   else none)
   else none))
   else (if ((List.length x.2.2.2.2.1) = (List.length x.2.2.2.2.1)) then (some (Sum.inr (Sum.inl (x.2.2.2.2.1, Unit.unit))))
   else none))
theorem b16_b_2_eq (x : g16_b_2.D) : b16_b_2 x = evF P (T8.orc _) Go.Proofs.Try.f16.ntmps fx16_b (Code.at [true, true, true, false, true, false, false] c16) (planAt 64 []) g16_b_2 x (injK fx16_b ((.normal, g16_b_2) :: o16_b_2) some) := by kernel_rfl
noncomputable def l16_b_2 : g16_b_2.D → Option (outD o16_b_2) := loopN g16_b_2 o16_b_2 b16_b_2 18446744073709551616
theorem at16_b_2 : Code.at [true, true, true, false, true, false] c16 = .loop (Code.at [true, true, true, false, true, false, false] c16) := by kernel_rfl
theorem s16_b_2_ok : SubOk P Go.Proofs.Try.f16.ntmps fx16_b (Code.at [true, true, true, false, true, false] c16) ⟨g16_b_2, o16_b_2, l16_b_2⟩ := by
  rw [at16_b_2]
  exact loop_ok (sub_ok (ct := ⟨g16_b_2, ((.normal, g16_b_2) :: o16_b_2), b16_b_2⟩) (Table.ok T8_ok _) hmix (planAt_ok (d := 64) (l := []) trivial) b16_b_2_eq) rfl _
abbrev g16_b_1 : Sg := ⟨[0, 1, 2, 7, 8], [.lf (.gr .bool 1), .lf (.int .i64), .lf (.int .i64), .lf (.int .i64), .lf (.int .i64)], [none, some (.arr true .bool)]⟩
abbrev o16_b_1 : Outs := [(.exit 0, ⟨[0, 1, 2, 7], [.lf (.gr .bool 1), .lf (.int .i64), .lf (.int .i64), .lf (.int .i64)], [none, some (.arr true .bool)]⟩)]
noncomputable def b16_b_1 (x : g16_b_1.D) : Option (outD ((.normal, g16_b_1) :: o16_b_1)) :=
  (if ((decide (x.2.2.2.1 < x.2.1)) = true) then (if ((List.length x.2.2.2.2.1) = (List.length x.2.2.2.2.1)) then (some (Sum.inl (x.1, (x.2.1, ((Go.IntKind.wrap Go.IntKind.i64 ((2 : Int) * x.2.2.1)), ((Go.IntKind.wrap Go.IntKind.i64 (x.2.2.2.1 + (1 : Int))), (x.2.2.2.2.1, Unit.unit)))))))
   else none)
   else (if ((List.length x.2.2.2.2.1) = (List.length x.2.2.2.2.1)) then (some (Sum.inr (Sum.inl (x.1, (x.2.1, (x.2.2.1, (x.2.2.2.2.1, Unit.unit)))))))
   else none))
theorem b16_b_1_eq (x : g16_b_1.D) : b16_b_1 x = evF P (T8.orc _) Go.Proofs.Try.f16.ntmps fx16_b (Code.at [true, true, false, true, false, false] c16) (planAt 64 []) g16_b_1 x (injK fx16_b ((.normal, g16_b_1) :: o16_b_1) some) := by kernel_rfl
noncomputable def l16_b_1 : g16_b_1.D → Option (outD o16_b_1) := loopN g16_b_1 o16_b_1 b16_b_1 18446744073709551616
theorem at16_b_1 : Code.at [true, true, false, true, false] c16 = .loop (Code.at [true, true, false, true, false, false] c16) := by kernel_rfl
theorem s16_b_1_ok : SubOk P Go.Proofs.Try.f16.ntmps fx16_b (Code.at [true, true, false, true, false] c16) ⟨g16_b_1, o16_b_1, l16_b_1⟩ := by
  rw [at16_b_1]
  exact loop_ok (sub_ok (ct := ⟨g16_b_1, ((.normal, g16_b_1) :: o16_b_1), b16_b_1⟩) (Table.ok T8_ok _) hmix (planAt_ok (d := 64) (l := []) trivial) b16_b_1_eq) rfl _
noncomputable def f16_b (x : gi16_b.D) : Option go16_b.D :=
  (if ((List.length x.2.2.1) = (List.length x.2.2.1)) then (Option.bind (Go.Ev.Lzw.l16_b_1 (x.1, (x.2.1, ((1 : Int), ((1 : Int), (x.2.2.1, Unit.unit)))))) (Sum.elim (fun y1 => (if ((List.length y1.2.2.2.1) = (List.length y1.2.2.2.1)) then (Option.bind (Go.Ev.Lzw.l16_b_2 (y1.1, (y1.2.1, (y1.2.2.1, ((0 : Int), (y1.2.2.2.1, Unit.unit)))))) (Sum.elim (fun y2 => (if ((List.length y2.1) = (List.length y2.1)) then (some (y2.1, Unit.unit))
   else none)) Empty.elim))
   else none)) Empty.elim))
   else none)
theorem f16_b_eq (x : gi16_b.D) : f16_b x = evF P (T8.orc _) Go.Proofs.Try.f16.ntmps fx16_b c16 (planAt 64 [([true, true, false, true, false], ⟨g16_b_1, o16_b_1, l16_b_1⟩), ([true, true, true, false, true, false], ⟨g16_b_2, o16_b_2, l16_b_2⟩)]) gi16_b x (fnK fx16_b go16_b) := by kernel_rfl
theorem f16_b_ok : EntOk P 16 ⟨gi16_b, go16_b, f16_b⟩ :=
  ent_ok (e := ⟨gi16_b, go16_b, f16_b⟩) (c := c16) (fx := fx16_b) ⟨Go.Proofs.Try.func16, by kernel_rfl, rfl, by decide +kernel, by kernel_rfl, rfl, rfl⟩ (Table.ok T8_ok _) hmix (planAt_ok (d := 64) (l := [([true, true, false, true, false], ⟨g16_b_1, o16_b_1, l16_b_1⟩), ([true, true, true, false, true, false], ⟨g16_b_2, o16_b_2, l16_b_2⟩)]) ⟨s16_b_1_ok, s16_b_2_ok, trivial⟩) f16_b_eq
noncomputable def T16 : Table := T8.add 16 [⟨gi16, go16, f16⟩, ⟨gi16_b, go16_b, f16_b⟩] [true, false, false]
theorem T16_ok : TableOk P T16 := Table.plus T8_ok (es := [⟨gi16, go16, f16⟩, ⟨gi16_b, go16_b, f16_b⟩]) ⟨f16_ok, f16_b_ok, trivial⟩ [true, false, false]

/-! ## 17: erasure/erasureref12.find -/
noncomputable def c17 : Code := Func.code Go.Proofs.Try.f17
abbrev gi17 : Sg := ⟨[0, 1], [.lf .str, .lf (.sl .str)], []⟩
abbrev go17 : Sg := ⟨[4, 5], [.lf (.int .i64), .lf (.int .i64)], []⟩
def fx17 : List Bool := []
abbrev g17_1 : Sg := ⟨[0, 1, 6, 7, 8], [.lf .str, .lf (.sl .str), .lf (.int .i64), .lf (.int .i64), .lf (.int .i64)], []⟩
abbrev o17_1 : Outs := [(.exit 0, ⟨[6, 7], [.lf (.int .i64), .lf (.int .i64)], []⟩)]
noncomputable def b17_1 (x : g17_1.D) : Option (outD ((.normal, g17_1) :: o17_1)) :=
  (if ((decide (x.2.2.2.2.1 < (((List.length x.2.1) : Nat) : Int))) = true) then (if ((0 : Int) ≤ x.2.2.2.2.1) then (if (x.2.2.2.2.1 < (((List.length x.2.1) : Nat) : Int)) then (if ((decide ((((ByteArray.size (List.getD x.2.1 (Int.toNat x.2.2.2.2.1) (ByteArray.mk #[]))) : Nat) : Int) > x.2.2.2.1)) = true) then (if ((decide ((((ByteArray.size (List.getD x.2.1 (Int.toNat x.2.2.2.2.1) (ByteArray.mk #[]))) : Nat) : Int) ≤ (((ByteArray.size x.1) : Nat) : Int))) = true) then (if ((((ByteArray.size (List.getD x.2.1 (Int.toNat x.2.2.2.2.1) (ByteArray.mk #[]))) : Nat) : Int) ≤ (((ByteArray.size x.1) : Nat) : Int)) then (if ((0 : Int) ≤ x.2.2.2.2.1) then (if (x.2.2.2.2.1 < (((List.length x.2.1) : Nat) : Int)) then (if (((ByteArray.toList (ByteArray.extract x.1 (0 : Nat) (Int.toNat (((ByteArray.size (List.getD x.2.1 (Int.toNat x.2.2.2.2.1) (ByteArray.mk #[]))) : Nat) : Int)))) == (ByteArray.toList (List.getD x.2.1 (Int.toNat x.2.2.2.2.1) (ByteArray.mk #[])))) = true) then (some (Sum.inl (x.1, (x.2.1, ((Go.IntKind.wrap Go.IntKind.i64 ((258 : Int) + x.2.2.2.2.1)), ((((ByteArray.size (List.getD x.2.1 (Int.toNat x.2.2.2.2.1) (ByteArray.mk #[]))) : Nat) : Int), ((Go.IntKind.wrap Go.IntKind.i64 (x.2.2.2.2.1 + (1 : Int))), Unit.unit)))))))
   else (some (Sum.inl (x.1, (x.2.1, (x.2.2.1, (x.2.2.2.1, ((Go.IntKind.wrap Go.IntKind.i64 (x.2.2.2.2.1 + (1 : Int))), Unit.unit))))))))
   else none)
   else none)
   else none)
   else (some (Sum.inl (x.1, (x.2.1, (x.2.2.1, (x.2.2.2.1, ((Go.IntKind.wrap Go.IntKind.i64 (x.2.2.2.2.1 + (1 : Int))), Unit.unit))))))))
   else (some (Sum.inl (x.1, (x.2.1, (x.2.2.1, (x.2.2.2.1, ((Go.IntKind.wrap Go.IntKind.i64 (x.2.2.2.2.1 + (1 : Int))), Unit.unit))))))))
   else none)
   else none)
   else (some (Sum.inr (Sum.inl (x.2.2.1, (x.2.2.2.1, Unit.unit))))))
theorem b17_1_eq (x : g17_1.D) : b17_1 x = evF P (T16.orc _) Go.Proofs.Try.f17.ntmps fx17 (Code.at [true, true, true, false, true, false, false] c17) (planAt 64 []) g17_1 x (injK fx17 ((.normal, g17_1) :: o17_1) some) := by kernel_rfl
noncomputable def l17_1 : g17_1.D → Option (outD o17_1) := loopN g17_1 o17_1 b17_1 18446744073709551616
theorem at17_1 : Code.at [true, true, true, false, true, false] c17 = .loop (Code.at [true, true, true, false, true, false, false] c17) := by kernel_rfl
theorem s17_1_ok : SubOk P Go.Proofs.Try.f17.ntmps fx17 (Code.at [true, true, true, false, true, false] c17) ⟨g17_1, o17_1, l17_1⟩ := by
  rw [at17_1]
  exact loop_ok (sub_ok (ct := ⟨g17_1, ((.normal, g17_1) :: o17_1), b17_1⟩) (Table.ok T16_ok _) hmix (planAt_ok (d := 64) (l := []) trivial) b17_1_eq) rfl _
noncomputable def f17 (x : gi17.D) : Option go17.D :=
  (if ((0 : Int) < (((ByteArray.size x.1) : Nat) : Int)) then (Option.bind (Go.Ev.Lzw.l17_1 (x.1, (x.2.1, ((Go.IntKind.wrap Go.IntKind.i64 (((UInt8.toNat (Array.getD (ByteArray.data x.1) (0 : Nat) (0 : UInt8))) : Nat) : Int)), ((1 : Int), ((0 : Int), Unit.unit)))))) (Sum.elim (fun y1 => (some (y1.1, (y1.2.1, Unit.unit)))) Empty.elim))
   else none)
theorem f17_eq (x : gi17.D) : f17 x = evF P (T16.orc _) Go.Proofs.Try.f17.ntmps fx17 c17 (planAt 64 [([true, true, true, false, true, false], ⟨g17_1, o17_1, l17_1⟩)]) gi17 x (fnK fx17 go17) := by kernel_rfl
theorem f17_ok : EntOk P 17 ⟨gi17, go17, f17⟩ :=
  ent_ok (e := ⟨gi17, go17, f17⟩) (c := c17) (fx := fx17) ⟨Go.Proofs.Try.func17, by kernel_rfl, rfl, by decide +kernel, by kernel_rfl, rfl, rfl⟩ (Table.ok T16_ok _) hmix (planAt_ok (d := 64) (l := [([true, true, true, false, true, false], ⟨g17_1, o17_1, l17_1⟩)]) ⟨s17_1_ok, trivial⟩) f17_eq
noncomputable def T17 : Table := T16.add 17 [⟨gi17, go17, f17⟩] []
theorem T17_ok : TableOk P T17 := Table.plus T16_ok (es := [⟨gi17, go17, f17⟩]) ⟨f17_ok, trivial⟩ []

/-! ## 18: erasure/erasureref12.size -/
noncomputable def c18 : Code := Func.code Go.Proofs.Try.f18
abbrev gi18 : Sg := ⟨[0], [.lf (.int .i64)], []⟩
abbrev go18 : Sg := ⟨[2], [.lf (.int .i64)], []⟩
def fx18 : List Bool := []
noncomputable def f18 (x : gi18.D) : Option go18.D :=
  (if ((decide (x.1 < (253 : Int))) = true) then (some ((9 : Int), Unit.unit))
   else (if ((decide (x.1 < (765 : Int))) = true) then (some ((10 : Int), Unit.unit))
   else (if ((decide (x.1 < (1789 : Int))) = true) then (some ((11 : Int), Unit.unit))
   else (some ((12 : Int), Unit.unit)))))
theorem f18_eq (x : gi18.D) : f18 x = evF P (T17.orc _) Go.Proofs.Try.f18.ntmps fx18 c18 (planAt 64 []) gi18 x (fnK fx18 go18) := by kernel_rfl
theorem f18_ok : EntOk P 18 ⟨gi18, go18, f18⟩ :=
  ent_ok (e := ⟨gi18, go18, f18⟩) (c := c18) (fx := fx18) ⟨Go.Proofs.Try.func18, by kernel_rfl, rfl, by decide +kernel, by kernel_rfl, rfl, rfl⟩ (Table.ok T17_ok _) hmix (planAt_ok (d := 64) (l := []) trivial) f18_eq
noncomputable def T18 : Table := T17.add 18 [⟨gi18, go18, f18⟩] []
theorem T18_ok : TableOk P T18 := Table.plus T17_ok (es := [⟨gi18, go18, f18⟩]) ⟨f18_ok, trivial⟩ []

/-! ## 19: erasure/erasureref12.bytes -/
noncomputable def c19 : Code := Func.code Go.Proofs.Try.f19
abbrev gi19 : Sg := ⟨[0], [.lf (.sl .bool)], []⟩
abbrev go19 : Sg := ⟨[2], [.lf (.gr (.int .u8) 0)], [some (.arr true (.int .u8))]⟩
def fx19 : List Bool := []
abbrev g19_2 : Sg := ⟨[0, 3, 4, 5, 6], [.lf (.sl .bool), .lf (.gr (.int .u8) 0), .lf (.int .i64), .lf (.int .i64), .lf (.int .i64)], [some (.arr true (.int .u8))]⟩
abbrev o19_2 : Outs := [(.exit 2, ⟨[0, 3, 4, 5], [.lf (.sl .bool), .lf (.gr (.int .u8) 0), .lf (.int .i64), .lf (.int .i64)], [some (.arr true (.int .u8))]⟩)]
noncomputable def b19_2 (x : g19_2.D) : Option (outD ((.normal, g19_2) :: o19_2)) :=
  (if ((decide (x.2.2.2.1 < (Int.tmod x.2.1 (8 : Int)))) = true) then (if ((List.length x.2.2.2.2.1) = (List.length x.2.2.2.2.1)) then (some (Sum.inl (x.1, (x.2.1, ((Go.IntKind.wrap Go.IntKind.i64 (Int.tdiv x.2.2.1 (2 : Int))), ((Go.IntKind.wrap Go.IntKind.i64 (x.2.2.2.1 + (1 : Int))), (x.2.2.2.2.1, Unit.unit)))))))
   else none)
   else (if ((List.length x.2.2.2.2.1) = (List.length x.2.2.2.2.1)) then (some (Sum.inr (Sum.inl (x.1, (x.2.1, (x.2.2.1, (x.2.2.2.2.1, Unit.unit)))))))
   else none))
theorem b19_2_eq (x : g19_2.D) : b19_2 x = evF P (T18.orc _) Go.Proofs.Try.f19.ntmps fx19 (Code.at [true, true, false, true, false, false, true, false, false, true, false, true, false, false] c19) (planAt 64 []) g19_2 x (injK fx19 ((.normal, g19_2) :: o19_2) some) := by kernel_rfl
noncomputable def l19_2 : g19_2.D → Option (outD o19_2) := loopN g19_2 o19_2 b19_2 18446744073709551616
theorem at19_2 : Code.at [true, true, false, true, false, false, true, false, false, true, false, true, false] c19 = .loop (Code.at [true, true, false, true, false, false, true, false, false, true, false, true, false, false] c19) := by kernel_rfl
theorem s19_2_ok : SubOk P Go.Proofs.Try.f19.ntmps fx19 (Code.at [true, true, false, true, false, false, true, false, false, true, false, true, false] c19) ⟨g19_2, o19_2, l19_2⟩ := by
  rw [at19_2]
  exact loop_ok (sub_ok (ct := ⟨g19_2, ((.normal, g19_2) :: o19_2), b19_2⟩) (Table.ok T18_ok _) hmix (planAt_ok (d := 64) (l := []) trivial) b19_2_eq) rfl _
abbrev g19_1 : Sg := ⟨[0, 3, 4], [.lf (.sl .bool), .lf (.gr (.int .u8) 0), .lf (.int .i64)], [some (.arr true (.int .u8))]⟩
abbrev o19_1 : Outs := [(.exit 0, ⟨[3], [.lf (.gr (.int .u8) 0)], [some (.arr true (.int .u8))]⟩)]
noncomputable def b19_1 (x : g19_1.D) : Option (outD ((.normal, g19_1) :: o19_1)) :=
  (if ((decide (x.2.1 < (((List.length x.1) : Nat) : Int))) = true) then (if ((List.length x.2.2.1) = (List.length x.2.2.1)) then (Option.bind (Go.Ev.Lzw.l19_2 (x.1, (x.2.1, ((128 : Int), ((0 : Int), (x.2.2.1, Unit.unit)))))) (Sum.elim (fun y1 => (if ((0 : Int) ≤ y1.2.1) then (if (y1.2.1 < (((List.length y1.1) : Nat) : Int)) then (if ((List.getD y1.1 (Int.toNat y1.2.1) false) = true) then (if ((0 : Int) ≤ (Go.IntKind.wrap Go.IntKind.i64 (Int.tdiv y1.2.1 (8 : Int)))) then (if ((Go.IntKind.wrap Go.IntKind.i64 (Int.tdiv y1.2.1 (8 : Int))) < (((List.length y1.2.2.2.1) : Nat) : Int)) then (if ((0 : Int) ≤ (Go.IntKind.wrap Go.IntKind.i64 (Int.tdiv y1.2.1 (8 : Int)))) then (if ((Go.IntKind.wrap Go.IntKind.i64 (Int.tdiv y1.2.1 (8 : Int))) < (((List.length y1.2.2.2.1) : Nat) : Int)) then (if ((List.length y1.2.2.2.1) = (List.length (List.set y1.2.2.2.1 ((0 : Nat) + (Int.toNat (Go.IntKind.wrap Go.IntKind.i64 (Int.tdiv y1.2.1 (8 : Int))))) (Go.IntKind.wrap Go.IntKind.u8 ((List.getD y1.2.2.2.1 ((0 : Nat) + (Int.toNat (Go.IntKind.wrap Go.IntKind.i64 (Int.tdiv y1.2.1 (8 : Int))))) (0 : Int)) + (Go.IntKind.wrap Go.IntKind.u8 y1.2.2.1)))))) then (some (Sum.inl (y1.1, ((Go.IntKind.wrap Go.IntKind.i64 (y1.2.1 + (1 : Int))), ((List.set y1.2.2.2.1 ((0 : Nat) + (Int.toNat (Go.IntKind.wrap Go.IntKind.i64 (Int.tdiv y1.2.1 (8 : Int))))) (Go.IntKind.wrap Go.IntKind.u8 ((List.getD y1.2.2.2.1 ((0 : Nat) + (Int.toNat (Go.IntKind.wrap Go.IntKind.i64 (Int.tdiv y1.2.1 (8 : Int))))) (0 : Int)) + (Go.IntKind.wrap Go.IntKind.u8 y1.2.2.1)))), Unit.unit)))))
   else none)
   else none)
   else none)
   else none)
   else none)
   else (if ((List.length y1.2.2.2.1) = (List.length y1.2.2.2.1)) then (some (Sum.inl (y1.1, ((Go.IntKind.wrap Go.IntKind.i64 (y1.2.1 + (1 : Int))), (y1.2.2.2.1, Unit.unit)))))
   else none))
   else none)
   else none)) Empty.elim))
   else none)
   else (if ((List.length x.2.2.1) = (List.length x.2.2.1)) then (some (Sum.inr (Sum.inl (x.2.2.1, Unit.unit))))
   else none))
theorem b19_1_eq (x : g19_1.D) : b19_1 x = evF P (T18.orc _) Go.Proofs.Try.f19.ntmps fx19 (Code.at [true, true, false, true, false, false] c19) (planAt 64 [([true, false, false, true, false, true, false], ⟨g19_2, o19_2, l19_2⟩)]) g19_1 x (injK fx19 ((.normal, g19_1) :: o19_1) some) := by kernel_rfl
noncomputable def l19_1 : g19_1.D → Option (outD o19_1) := loopN g19_1 o19_1 b19_1 18446744073709551616
theorem at19_1 : Code.at [true, true, false, true, false] c19 = .loop (Code.at [true, true, false, true, false, false] c19) := by kernel_rfl
theorem s19_1_ok : SubOk P Go.Proofs.Try.f19.ntmps fx19 (Code.at [true, true, false, true, false] c19) ⟨g19_1, o19_1, l19_1⟩ := by
  rw [at19_1]
  exact loop_ok (sub_ok (ct := ⟨g19_1, ((.normal, g19_1) :: o19_1), b19_1⟩) (Table.ok T18_ok _) hmix (planAt_ok (d := 64) (l := [([true, false, false, true, false, true, false], ⟨g19_2, o19_2, l19_2⟩)]) ⟨s19_2_ok, trivial⟩) b19_1_eq) rfl _
noncomputable def f19 (x : gi19.D) : Option go19.D :=
  (if ((0 : Int) ≤ (Go.IntKind.wrap Go.IntKind.i64 (Int.tdiv (Go.IntKind.wrap Go.IntKind.i64 ((((List.length x.1) : Nat) : Int) + (7 : Int))) (8 : Int)))) then (if ((Go.IntKind.wrap Go.IntKind.i64 (Int.tdiv (Go.IntKind.wrap Go.IntKind.i64 ((((List.length x.1) : Nat) : Int) + (7 : Int))) (8 : Int))) ≤ (Go.IntKind.wrap Go.IntKind.i64 (Int.tdiv (Go.IntKind.wrap Go.IntKind.i64 ((((List.length x.1) : Nat) : Int) + (7 : Int))) (8 : Int)))) then (if ((Go.IntKind.wrap Go.IntKind.i64 (Int.tdiv (Go.IntKind.wrap Go.IntKind.i64 ((((List.length x.1) : Nat) : Int) + (7 : Int))) (8 : Int))) ≤ (281474976710656 : Int)) then (if ((Int.toNat (Go.IntKind.wrap Go.IntKind.i64 (Int.tdiv (Go.IntKind.wrap Go.IntKind.i64 ((((List.length x.1) : Nat) : Int) + (7 : Int))) (8 : Int)))) = (List.length (List.replicate (Int.toNat (Go.IntKind.wrap Go.IntKind.i64 (Int.tdiv (Go.IntKind.wrap Go.IntKind.i64 ((((List.length x.1) : Nat) : Int) + (7 : Int))) (8 : Int)))) (0 : Int)))) then (Option.bind (Go.Ev.Lzw.l19_1 (x.1, ((0 : Int), ((List.replicate (Int.toNat (Go.IntKind.wrap Go.IntKind.i64 (Int.tdiv (Go.IntKind.wrap Go.IntKind.i64 ((((List.length x.1) : Nat) : Int) + (7 : Int))) (8 : Int)))) (0 : Int)), Unit.unit)))) (Sum.elim (fun y1 => (if ((List.length y1.1) = (List.length y1.1)) then (some (y1.1, Unit.unit))
   else none)) Empty.elim))
   else none)
   else none)
   else none)
   else none)
theorem f19_eq (x : gi19.D) : f19 x = evF P (T18.orc _) Go.Proofs.Try.f19.ntmps fx19 c19 (planAt 64 [([true, true, false, true, false], ⟨g19_1, o19_1, l19_1⟩)]) gi19 x (fnK fx19 go19) := by kernel_rfl
theorem f19_ok : EntOk P 19 ⟨gi19, go19, f19⟩ :=
  ent_ok (e := ⟨gi19, go19, f19⟩) (c := c19) (fx := fx19) ⟨Go.Proofs.Try.func19, by kernel_rfl, rfl, by decide +kernel, by kernel_rfl, rfl, rfl⟩ (Table.ok T18_ok _) hmix (planAt_ok (d := 64) (l := [([true, true, false, true, false], ⟨g19_1, o19_1, l19_1⟩)]) ⟨s19_1_ok, trivial⟩) f19_eq
noncomputable def T19 : Table := T18.add 19 [⟨gi19, go19, f19⟩] []
theorem T19_ok : TableOk P T19 := Table.plus T18_ok (es := [⟨gi19, go19, f19⟩]) ⟨f19_ok, trivial⟩ []

/-! ## 9: erasure/erasureref12.Put -/
noncomputable def c9 : Code := Func.code Go.Proofs.Try.f9
abbrev gi9 : Sg := ⟨[0], [.lf (.sl (.int .u8))], []⟩
abbrev go9 : Sg := ⟨[2, 3], [.lf (.gr (.int .u8) 0), .lf (.int .i64)], [some (.arr true (.int .u8))]⟩
def fx9 : List Bool := []
abbrev g9_2 : Sg := ⟨[4, 5, 6, 7, 8, 10], [.lf (.gr .bool 0), .lf (.gr .str 1), .lf (.int .i64), .lf .bool, .lf .str, .lf (.int .i64)], [some (.arr true .bool), some (.arr true .str)]⟩
abbrev o9_2 : Outs := [(.normal, ⟨[4, 5, 6, 8, 10], [.lf (.gr .bool 0), .lf (.gr .str 1), .lf (.int .i64), .lf .str, .lf (.int .i64)], [some (.arr true .bool), some (.arr true .str)]⟩)]
noncomputable def b9_2 (x : g9_2.D) : Option (outD o9_2) :=
  (if (x.2.1 = true) then (if ((List.length x.2.2.2.2.1) = (List.length x.2.2.2.2.1)) then (if ((List.length x.2.2.2.2.2.1) = (List.length x.2.2.2.2.2.1)) then (some (Sum.inl ((Go.IntKind.wrap Go.IntKind.i64 (x.1 + (1 : Int))), (x.2.2.1, (x.2.2.2.1, (x.2.2.2.2.1, (x.2.2.2.2.2.1, Unit.unit)))))))
   else none)
   else none)
   else (if ((List.length x.2.2.2.2.1) = (List.length x.2.2.2.2.1)) then (if ((List.length x.2.2.2.2.2.1) = (List.length x.2.2.2.2.2.1)) then (some (Sum.inl (x.1, (x.2.2.1, (x.2.2.2.1, (x.2.2.2.2.1, (x.2.2.2.2.2.1, Unit.unit)))))))
   else none)
   else none))
theorem b9_2_eq (x : g9_2.D) : b9_2 x = evF P (T19.orc _) Go.Proofs.Try.f9.ntmps fx9 (Code.at [true, true, true, true, true, true, true, false, false, false, true, false, true, true, false] c9) (planAt 64 []) g9_2 x (injK fx9 o9_2 some) := by kernel_rfl
theorem s9_2_ok : SubOk P Go.Proofs.Try.f9.ntmps fx9 (Code.at [true, true, true, true, true, true, true, false, false, false, true, false, true, true, false] c9) ⟨g9_2, o9_2, b9_2⟩ :=
  sub_ok (ct := ⟨g9_2, o9_2, b9_2⟩) (Table.ok T19_ok _) hmix (planAt_ok (d := 64) (l := []) trivial) b9_2_eq
abbrev g9_1 : Sg := ⟨[4, 5, 6, 7, 8], [.lf (.gr .bool 0), .lf (.gr .str 1), .lf (.int .i64), .lf .bool, .lf .str], [some (.arr true .bool), some (.arr true .str)]⟩
abbrev o9_1 : Outs := [(.exit 0, ⟨[4, 6], [.lf (.gr .bool 0), .lf (.int .i64)], [some (.arr true .bool)]⟩)]
noncomputable def b9_1 (x : g9_1.D) : Option (outD ((.normal, g9_1) :: o9_1)) :=
  (if ((Bool.not ((ByteArray.toList x.2.2.1) == (ByteArray.toList (ByteArray.mk #[])))) = true) then (Option.bind (Go.Ev.Lzw.f17 (x.2.2.1, ((List.take (List.length x.2.2.2.2.1) (List.drop (0 : Nat) x.2.2.2.2.1)), Unit.unit))) (fun y1 => (Option.bind (Go.Ev.Lzw.f18 (x.1, Unit.unit)) (fun y2 => (if ((List.length x.2.2.2.1) = (List.length x.2.2.2.1)) then (Option.bind (Go.Ev.Lzw.f16_b (y1.1, (y2.1, (x.2.2.2.1, Unit.unit)))) (fun y3 => (if ((List.length y3.1) = (List.length y3.1)) then (if ((List.length x.2.2.2.2.1) = (List.length x.2.2.2.2.1)) then (Option.bind (Go.Ev.Lzw.b9_2 (x.1, (x.2.1, (x.2.2.1, (y1.2.1, (y3.1, (x.2.2.2.2.1, Unit.unit))))))) (Sum.elim (fun y4 => (if ((decide (y4.2.2.1 < (((ByteArray.size y4.2.1) : Nat) : Int))) = true) then (if ((0 : Int) ≤ (Go.IntKind.wrap Go.IntKind.i64 (y4.2.2.1 + (1 : Int)))) then (if ((Go.IntKind.wrap Go.IntKind.i64 (y4.2.2.1 + (1 : Int))) ≤ (((ByteArray.size y4.2.1) : Nat) : Int)) then (if (((List.length (List.take (List.length y4.2.2.2.2.1) (List.drop (0 : Nat) y4.2.2.2.2.1))) + (List.length (List.take (1 : Nat) (List.drop (0 : Nat) (List.set (List.replicate (1 : Nat) (ByteArray.mk #[])) (0 : Nat) (ByteArray.extract y4.2.1 (0 : Nat) (Int.toNat (Go.IntKind.wrap Go.IntKind.i64 (y4.2.2.1 + (1 : Int)))))))))) ≤ (8796093022208 : Nat)) then (if (((((List.length ((List.take (List.length y4.2.2.2.2.1) (List.drop (0 : Nat) y4.2.2.2.2.1)) ++ (List.take (1 : Nat) (List.drop (0 : Nat) (List.set (List.replicate (1 : Nat) (ByteArray.mk #[])) (0 : Nat) (ByteArray.extract y4.2.1 (0 : Nat) (Int.toNat (Go.IntKind.wrap Go.IntKind.i64 (y4.2.2.1 + (1 : Int)))))))))) : Nat) : Int) == (3837 : Int)) = true) then (Option.bind (Go.Ev.Lzw.f18 (y4.1, Unit.unit)) (fun y5 => (if ((List.length y4.2.2.2.1) = (List.length y4.2.2.2.1)) then (Option.bind (Go.Ev.Lzw.f16_b ((256 : Int), (y5.1, (y4.2.2.2.1, Unit.unit)))) (fun y6 => (if ((0 : Int) ≤ y4.2.2.1) then (if (y4.2.2.1 ≤ (((ByteArray.size y4.2.1) : Nat) : Int)) then (if ((List.length y6.1) = (List.length y6.1)) then (some (Sum.inl ((0 : Int), (false, ((ByteArray.extract y4.2.1 (Int.toNat y4.2.2.1) (ByteArray.size y4.2.1)), (y6.1, ([], Unit.unit)))))))
   else none)
   else none)
   else none)))
   else none)))
   else (if ((0 : Int) ≤ y4.2.2.1) then (if (y4.2.2.1 ≤ (((ByteArray.size y4.2.1) : Nat) : Int)) then (if ((List.length y4.2.2.2.1) = (List.length y4.2.2.2.1)) then (if ((List.length ((List.take (List.length y4.2.2.2.2.1) (List.drop (0 : Nat) y4.2.2.2.2.1)) ++ (List.take (1 : Nat) (List.drop (0 : Nat) (List.set (List.replicate (1 : Nat) (ByteArray.mk #[])) (0 : Nat) (ByteArray.extract y4.2.1 (0 : Nat) (Int.toNat (Go.IntKind.wrap Go.IntKind.i64 (y4.2.2.1 + (1 : Int)))))))))) = (List.length ((List.take (List.length y4.2.2.2.2.1) (List.drop (0 : Nat) y4.2.2.2.2.1)) ++ (List.take (1 : Nat) (List.drop (0 : Nat) (List.set (List.replicate (1 : Nat) (ByteArray.mk #[])) (0 : Nat) (ByteArray.extract y4.2.1 (0 : Nat) (Int.toNat (Go.IntKind.wrap Go.IntKind.i64 (y4.2.2.1 + (1 : Int))))))))))) then (some (Sum.inl (y4.1, (true, ((ByteArray.extract y4.2.1 (Int.toNat y4.2.2.1) (ByteArray.size y4.2.1)), (y4.2.2.2.1, (((List.take (List.length y4.2.2.2.2.1) (List.drop (0 : Nat) y4.2.2.2.2.1)) ++ (List.take (1 : Nat) (List.drop (0 : Nat) (List.set (List.replicate (1 : Nat) (ByteArray.mk #[])) (0 : Nat) (ByteArray.extract y4.2.1 (0 : Nat) (Int.toNat (Go.IntKind.wrap Go.IntKind.i64 (y4.2.2.1 + (1 : Int))))))))), Unit.unit)))))))
   else none)
   else none)
   else none)
   else none))
   else none)
   else none)
   else none)
   else (if ((0 : Int) ≤ y4.2.2.1) then (if (y4.2.2.1 ≤ (((ByteArray.size y4.2.1) : Nat) : Int)) then (if ((List.length y4.2.2.2.1) = (List.length y4.2.2.2.1)) then (if ((List.length y4.2.2.2.2.1) = (List.length y4.2.2.2.2.1)) then (some (Sum.inl (y4.1, (true, ((ByteArray.extract y4.2.1 (Int.toNat y4.2.2.1) (ByteArray.size y4.2.1)), (y4.2.2.2.1, (y4.2.2.2.2.1, Unit.unit)))))))
   else none)
   else none)
   else none)
   else none))) Empty.elim))
   else none)
   else none)))
   else none)))))
   else (if ((List.length x.2.2.2.1) = (List.length x.2.2.2.1)) then (some (Sum.inr (Sum.inl (x.1, (x.2.2.2.1, Unit.unit)))))
   else none))
theorem b9_1_eq (x : g9_1.D) : b9_1 x = evF P (T19.orc _) Go.Proofs.Try.f9.ntmps fx9 (Code.at [true, true, true, true, true, true, true, false, false, false] c9) (planAt 64 [([true, false, true, true, false], ⟨g9_2, o9_2, b9_2⟩)]) g9_1 x (injK fx9 ((.normal, g9_1) :: o9_1) some) := by kernel_rfl
noncomputable def l9_1 : g9_1.D → Option (outD o9_1) := loopN g9_1 o9_1 b9_1 18446744073709551616
theorem at9_1 : Code.at [true, true, true, true, true, true, true, false, false] c9 = .loop (Code.at [true, true, true, true, true, true, true, false, false, false] c9) := by kernel_rfl
theorem s9_1_ok : SubOk P Go.Proofs.Try.f9.ntmps fx9 (Code.at [true, true, true, true, true, true, true, false, false] c9) ⟨g9_1, o9_1, l9_1⟩ := by
  rw [at9_1]
  exact loop_ok (sub_ok (ct := ⟨g9_1, ((.normal, g9_1) :: o9_1), b9_1⟩) (Table.ok T19_ok _) hmix (planAt_ok (d := 64) (l := [([true, false, true, true, false], ⟨g9_2, o9_2, b9_2⟩)]) ⟨s9_2_ok, trivial⟩) b9_1_eq) rfl _
noncomputable def f9 (x : gi9.D) : Option go9.D :=
  (if ((decide ((((List.length x.1) : Nat) : Int) > (1048576 : Int))) = true) then (some ((2 : Int), ([], Unit.unit)))
   else (Option.bind (Go.Ev.Lzw.f16 ((256 : Int), ((9 : Int), Unit.unit))) (fun y1 => (if ((List.length y1.1) = (List.length y1.1)) then (Option.bind (Go.Ev.Lzw.l9_1 ((0 : Int), (false, ((ByteArray.mk (List.toArray (List.map (fun y2 => (UInt8.ofNat (Int.toNat y2))) x.1))), (y1.1, ([], Unit.unit)))))) (Sum.elim (fun y2 => (Option.bind (Go.Ev.Lzw.f18 (y2.1, Unit.unit)) (fun y3 => (if ((List.length y2.2.1) = (List.length y2.2.1)) then (Option.bind (Go.Ev.Lzw.f16_b ((257 : Int), (y3.1, (y2.2.1, Unit.unit)))) (fun y4 => (Option.bind (Go.Ev.Lzw.f19 ((List.take (List.length y4.1) (List.drop (0 : Nat) y4.1)), Unit.unit)) (fun y5 => (if ((List.length y5.1) = (List.length y5.1)) then (some ((0 : Int), (y5.1, Unit.unit)))
   else none)))))
   else none)))) Empty.elim))
   else none))))
theorem f9_eq (x : gi9.D) : f9 x = evF P (T19.orc _) Go.Proofs.Try.f9.ntmps fx9 c9 (planAt 64 [([true, true, true, true, true, true, true, false, false], ⟨g9_1, o9_1, l9_1⟩)]) gi9 x (fnK fx9 go9) := by kernel_rfl
theorem f9_ok : EntOk P 9 ⟨gi9, go9, f9⟩ :=
  ent_ok (e := ⟨gi9, go9, f9⟩) (c := c9) (fx := fx9) ⟨Go.Proofs.Try.func9, by kernel_rfl, rfl, by decide +kernel, by kernel_rfl, rfl, rfl⟩ (Table.ok T19_ok _) hmix (planAt_ok (d := 64) (l := [([true, true, true, true, true, true, true, false, false], ⟨g9_1, o9_1, l9_1⟩)]) ⟨s9_1_ok, trivial⟩) f9_eq
noncomputable def T9 : Table := T19.add 9 [⟨gi9, go9, f9⟩] []
theorem T9_ok : TableOk P T9 := Table.plus T19_ok (es := [⟨gi9, go9, f9⟩]) ⟨f9_ok, trivial⟩ []

/-! ## 20: (*erasure/lzw.reader).next -/
noncomputable def c20 : Code := Func.code Go.Proofs.Try.f20
abbrev gi20 : Sg := ⟨[0, 1], [.lf (.ptr 0 0), .lf (.int .i64)], [some (.box true [.lf (.sl (.int .u8)), .lf (.int .i64), .lf (.int .i64)])]⟩
abbrev go20 : Sg := ⟨[4, 5], [.lf (.int .i64), .lf .bool], [some (.box true [.lf (.sl (.int .u8)), .lf (.int .i64), .lf (.int .i64)])]⟩
def fx20 : List Bool := [true]
abbrev g20_1 : Sg := ⟨[0, 1], [.lf (.ptr 0 0), .lf (.int .i64)], [some (.box true [.lf (.sl (.int .u8)), .lf (.int .i64), .lf (.int .i64)])]⟩
abbrev o20_1 : Outs := [(.exit 0, ⟨[0, 1], [.lf (.ptr 0 0), .lf (.int .i64)], [some (.box true [.lf (.sl (.int .u8)), .lf (.int .i64), .lf (.int .i64)])]⟩), (.ret, ⟨[4, 5], [.lf (.int .i64), .lf .bool], [some (.box true [.lf (.sl (.int .u8)), .lf (.int .i64), .lf (.int .i64)])]⟩)]
noncomputable def b20_1 (x : g20_1.D) : Option (outD ((.normal, g20_1) :: o20_1)) :=
  (if ((decide (x.2.2.2.1 < x.1)) = true) then (if (((((List.length x.2.1) : Nat) : Int) == (0 : Int)) = true) then (some (Sum.inr (Sum.inr (Sum.inl ((0 : Int), (false, (x.2.1, (x.2.2.1, (x.2.2.2.1, Unit.unit)))))))))
   else (if ((0 : Int) < (((List.length x.2.1) : Nat) : Int)) then (if ((1 : Int) ≤ (((List.length x.2.1) : Nat) : Int)) then (some (Sum.inl (x.1, ((List.drop (1 : Nat) x.2.1), ((Go.IntKind.wrap Go.IntKind.i64 (((BitVec.toNat ((BitVec.ofInt (64 : Nat) (Go.IntKind.wrap Go.IntKind.i64 (x.2.2.1 * (256 : Int)))) ||| (BitVec.ofInt (64 : Nat) (Go.IntKind.wrap Go.IntKind.i64 (List.getD x.2.1 (0 : Nat) (0 : Int)))))) : Nat) : Int)), ((Go.IntKind.wrap Go.IntKind.i64 (x.2.2.2.1 + (8 : Int))), Unit.unit))))))
   else none)
   else none))
   else (some (Sum.inr (Sum.inl (x.1, (x.2.1, (x.2.2.1, (x.2.2.2.1, Unit.unit))))))))
theorem b20_1_eq (x : g20_1.D) : b20_1 x = evF P (T9.orc _) Go.Proofs.Try.f20.ntmps fx20 (Code.at [true, false, false, false] c20) (planAt 64 []) g20_1 x (injK fx20 ((.normal, g20_1) :: o20_1) some) := by kernel_rfl
noncomputable def l20_1 : g20_1.D → Option (outD o20_1) := loopN g20_1 o20_1 b20_1 18446744073709551616
theorem at20_1 : Code.at [true, false, false] c20 = .loop (Code.at [true, false, false, false] c20) := by kernel_rfl
theorem s20_1_ok : SubOk P Go.Proofs.Try.f20.ntmps fx20 (Code.at [true, false, false] c20) ⟨g20_1, o20_1, l20_1⟩ := by
  rw [at20_1]
  exact loop_ok (sub_ok (ct := ⟨g20_1, ((.normal, g20_1) :: o20_1), b20_1⟩) (Table.ok T9_ok _) hmix (planAt_ok (d := 64) (l := []) trivial) b20_1_eq) rfl _
noncomputable def f20 (x : gi20.D) : Option go20.D :=
  (Option.bind (Go.Ev.Lzw.l20_1 (x.1, (x.2.1, (x.2.2.1, (x.2.2.2.1, Unit.unit))))) (Sum.elim (fun y1 => (if ((Go.IntKind.wrap Go.IntKind.i64 (y1.2.2.2.1 - y1.1)) < (0 : Int)) then none
   else (if ((Go.IntKind.wrap Go.IntKind.i64 (y1.2.2.2.1 - y1.1)) < (0 : Int)) then none
   else (some ((Int.fdiv y1.2.2.1 ((2 : Int) ^ (Min.min (Int.toNat (Go.IntKind.wrap Go.IntKind.i64 (y1.2.2.2.1 - y1.1))) (64 : Nat)))), (true, (y1.2.1, ((Go.IntKind.wrap Go.IntKind.i64 (((BitVec.toNat ((BitVec.ofInt (64 : Nat) y1.2.2.1) &&& (BitVec.ofInt (64 : Nat) (Go.IntKind.wrap Go.IntKind.i64 ((Go.IntKind.wrap Go.IntKind.i64 ((1 : Int) * ((2 : Int) ^ (Min.min (Int.toNat (Go.IntKind.wrap Go.IntKind.i64 (y1.2.2.2.1 - y1.1))) (64 : Nat))))) - (1 : Int)))))) : Nat) : Int)), ((Go.IntKind.wrap Go.IntKind.i64 (y1.2.2.2.1 - y1.1)), Unit.unit))))))))) (Sum.elim (fun y1 => (some (y1.1, (y1.2.1, (y1.2.2.1, (y1.2.2.2.1, (y1.2.2.2.2.1, Unit.unit))))))) Empty.elim)))
theorem f20_eq (x : gi20.D) : f20 x = evF P (T9.orc _) Go.Proofs.Try.f20.ntmps fx20 c20 (planAt 64 [([true, false, false], ⟨g20_1, o20_1, l20_1⟩)]) gi20 x (fnK fx20 go20) := by kernel_rfl
theorem f20_ok : EntOk P 20 ⟨gi20, go20, f20⟩ :=
  ent_ok (e := ⟨gi20, go20, f20⟩) (c := c20) (fx := fx20) ⟨Go.Proofs.Try.func20, by kernel_rfl, rfl, by decide +kernel, by kernel_rfl, rfl, rfl⟩ (Table.ok T9_ok _) hmix (planAt_ok (d := 64) (l := [([true, false, false], ⟨g20_1, o20_1, l20_1⟩)]) ⟨s20_1_ok, trivial⟩) f20_eq
noncomputable def T20 : Table := T9.add 20 [⟨gi20, go20, f20⟩] []
theorem T20_ok : TableOk P T20 := Table.plus T9_ok (es := [⟨gi20, go20, f20⟩]) ⟨f20_ok, trivial⟩ []

/-! ## 10: erasure/lzw.Get -/
noncomputable def c10 : Code := Func.code Go.Proofs.Try.f10
abbrev gi10 : Sg := ⟨[0, 1], [.lf (.sl (.int .u8)), .lf (.int .i64)], []⟩
abbrev go10 : Sg := ⟨[4, 5], [.lf (.gr (.int .u8) 0), .lf (.int .i64)], [some (.arr true (.int .u8))]⟩
def fx10 : List Bool := []
abbrev g10_2 : Sg := ⟨[1, 6, 7, 8, 9, 10], [.lf (.int .i64), .lf (.ptr 0 0), .lf (.gr (.int .u8) 1), .lf (.sl (.int .u8)), .lf (.gr (.slice (.int .u8)) 2), .lf (.int .i64)], [some (.box true [.lf (.sl (.int .u8)), .lf (.int .i64), .lf (.int .i64)]), some (.arr true (.int .u8)), some (.arr true (.slice (.int .u8)))]⟩
abbrev o10_2 : Outs := [(.exit 1, ⟨[1, 6, 7, 8, 9], [.lf (.int .i64), .lf (.ptr 0 0), .lf (.gr (.int .u8) 1), .lf (.sl (.int .u8)), .lf (.gr (.slice (.int .u8)) 2)], [some (.box true [.lf (.sl (.int .u8)), .lf (.int .i64), .lf (.int .i64)]), some (.arr true (.int .u8)), some (.arr true (.slice (.int .u8)))]⟩), (.ret, ⟨[4, 5], [.lf (.gr (.int .u8) 0), .lf (.int .i64)], [some (.arr true (.int .u8))]⟩), (.normal, ⟨[1, 6, 7, 8, 9, 12], [.lf (.int .i64), .lf (.ptr 0 0), .lf (.gr (.int .u8) 1), .lf (.sl (.int .u8)), .lf (.gr (.slice (.int .u8)) 2), .lf (.sl (.int .u8))], [some (.box true [.lf (.sl (.int .u8)), .lf (.int .i64), .lf (.int .i64)]), some (.arr true (.int .u8)), some (.arr true (.slice (.int .u8)))]⟩)]
noncomputable def b10_2 (x : g10_2.D) : Option (outD o10_2) :=
  (if ((x.2.2.1 == (256 : Int)) = true) then (if ((List.length x.2.2.2.2.2.2.1) = (List.length x.2.2.2.2.2.2.1)) then (some (Sum.inl (x.1, ([], (x.2.2.2.1, (x.2.2.2.2.1, (x.2.2.2.2.2.1, (x.2.2.2.2.2.2.1, ([], Unit.unit)))))))))
   else none)
   else (if ((x.2.2.1 == (257 : Int)) = true) then (if ((List.length x.2.2.2.2.2.2.1) = (List.length x.2.2.2.2.2.2.1)) then (some (Sum.inr (Sum.inl ((0 : Int), (x.2.2.2.2.2.2.1, Unit.unit)))))
   else none)
   else (if ((decide (x.2.2.1 < (256 : Int))) = true) then (if ((List.length x.2.2.2.2.2.2.1) = (List.length x.2.2.2.2.2.2.1)) then (if ((List.length x.2.2.2.2.2.2.2.1) = (List.length x.2.2.2.2.2.2.2.1)) then (some (Sum.inr (Sum.inr (Sum.inl (x.1, (x.2.1, ((List.take (1 : Nat) (List.drop (0 : Nat) (List.set (List.replicate (1 : Nat) (0 : Int)) (0 : Nat) (Go.IntKind.wrap Go.IntKind.u8 x.2.2.1)))), (x.2.2.2.1, (x.2.2.2.2.1, (x.2.2.2.2.2.1, (x.2.2.2.2.2.2.1, (x.2.2.2.2.2.2.2.1, Unit.unit))))))))))))
   else none)
   else none)
   else (if ((decide ((Go.IntKind.wrap Go.IntKind.i64 (x.2.2.1 - (258 : Int))) < (((List.length x.2.2.2.2.2.2.2.1) : Nat) : Int))) = true) then (if ((0 : Int) ≤ (Go.IntKind.wrap Go.IntKind.i64 (x.2.2.1 - (258 : Int)))) then (if ((Go.IntKind.wrap Go.IntKind.i64 (x.2.2.1 - (258 : Int))) < (((List.length x.2.2.2.2.2.2.2.1) : Nat) : Int)) then (if ((List.length x.2.2.2.2.2.2.1) = (List.length x.2.2.2.2.2.2.1)) then (if ((List.length x.2.2.2.2.2.2.2.1) = (List.length x.2.2.2.2.2.2.2.1)) then (some (Sum.inr (Sum.inr (Sum.inl (x.1, (x.2.1, ((List.getD x.2.2.2.2.2.2.2.1 ((0 : Nat) + (Int.toNat (Go.IntKind.wrap Go.IntKind.i64 (x.2.2.1 - (258 : Int))))) []), (x.2.2.2.1, (x.2.2.2.2.1, (x.2.2.2.2.2.1, (x.2.2.2.2.2.2.1, (x.2.2.2.2.2.2.2.1, Unit.unit))))))))))))
   else none)
   else none)
   else none)
   else none)
   else (if (((Go.IntKind.wrap Go.IntKind.i64 (x.2.2.1 - (258 : Int))) == (((List.length x.2.2.2.2.2.2.2.1) : Nat) : Int)) = true) then (if ((decide ((((List.length x.2.1) : Nat) : Int) > (0 : Int))) = true) then (if ((((List.length x.2.1) : Nat) : Int) ≤ (((List.length x.2.1) : Nat) : Int)) then (if ((((List.length x.2.1) : Nat) : Int) ≤ (((Int.toNat (((List.length x.2.1) : Nat) : Int)) : Nat) : Int)) then (if ((0 : Int) < (((List.length x.2.1) : Nat) : Int)) then (if (((List.length (List.take (Int.toNat (((List.length x.2.1) : Nat) : Int)) x.2.1)) + (List.length (List.take (1 : Nat) (List.drop (0 : Nat) (List.set (List.replicate (1 : Nat) (0 : Int)) (0 : Nat) (List.getD x.2.1 (0 : Nat) (0 : Int))))))) ≤ (140737488355328 : Nat)) then (if ((((Int.toNat (((List.length x.2.1) : Nat) : Int)) - (0 : Nat)) < ((List.length (List.take (Int.toNat (((List.length x.2.1) : Nat) : Int)) x.2.1)) + (List.length (List.take (1 : Nat) (List.drop (0 : Nat) (List.set (List.replicate (1 : Nat) (0 : Int)) (0 : Nat) (List.getD x.2.1 (0 : Nat) (0 : Int)))))))) ∨ ((((Int.toNat (((List.length x.2.1) : Nat) : Int)) - (0 : Nat)) = (0 : Nat)) ∧ ((List.length (List.take (Int.toNat (((List.length x.2.1) : Nat) : Int)) x.2.1)) = (0 : Nat)))) then (if ((List.length x.2.2.2.2.2.2.1) = (List.length x.2.2.2.2.2.2.1)) then (if ((List.length x.2.2.2.2.2.2.2.1) = (List.length x.2.2.2.2.2.2.2.1)) then (some (Sum.inr (Sum.inr (Sum.inl (x.1, (x.2.1, ((List.take (List.length ((List.take (Int.toNat (((List.length x.2.1) : Nat) : Int)) x.2.1) ++ (List.take (1 : Nat) (List.drop (0 : Nat) (List.set (List.replicate (1 : Nat) (0 : Int)) (0 : Nat) (List.getD x.2.1 (0 : Nat) (0 : Int))))))) (List.drop (0 : Nat) ((List.take (Int.toNat (((List.length x.2.1) : Nat) : Int)) x.2.1) ++ (List.take (1 : Nat) (List.drop (0 : Nat) (List.set (List.replicate (1 : Nat) (0 : Int)) (0 : Nat) (List.getD x.2.1 (0 : Nat) (0 : Int)))))))), (x.2.2.2.1, (x.2.2.2.2.1, (x.2.2.2.2.2.1, (x.2.2.2.2.2.2.1, (x.2.2.2.2.2.2.2.1, Unit.unit))))))))))))
   else none)
   else none)
   else none)
   else none)
   else none)
   else none)
   else none)
   else (some (Sum.inr (Sum.inl ((4 : Int), ([], Unit.unit))))))
   else (some (Sum.inr (Sum.inl ((4 : Int), ([], Unit.unit))))))))))
theorem b10_2_eq (x : g10_2.D) : b10_2 x = evF P (T20.orc _) Go.Proofs.Try.f10.ntmps fx10 (Code.at [true, true, true, true, true, false, false, false, true, true, true, false] c10) (planAt 64 []) g10_2 x (injK fx10 o10_2 some) := by kernel_rfl
theorem s10_2_ok : SubOk P Go.Proofs.Try.f10.ntmps fx10 (Code.at [true, true, true, true, true, false, false, false, true, true, true, false] c10) ⟨g10_2, o10_2, b10_2⟩ :=
  sub_ok (ct := ⟨g10_2, o10_2, b10_2⟩) (Table.ok T20_ok _) hmix (planAt_ok (d := 64) (l := []) trivial) b10_2_eq
abbrev g10_1 : Sg := ⟨[1, 6, 7, 8, 9], [.lf (.int .i64), .lf (.ptr 0 0), .lf (.gr (.int .u8) 1), .lf (.sl (.int .u8)), .lf (.gr (.slice (.int .u8)) 2)], [some (.box true [.lf (.sl (.int .u8)), .lf (.int .i64), .lf (.int .i64)]), some (.arr true (.int .u8)), some (.arr true (.slice (.int .u8)))]⟩
abbrev o10_1 : Outs := [(.ret, ⟨[4, 5], [.lf (.gr (.int .u8) 0), .lf (.int .i64)], [some (.arr true (.int .u8))]⟩)]
noncomputable def b10_1 (x : g10_1.D) : Option (outD ((.normal, g10_1) :: o10_1)) :=
  (Option.bind (Go.Ev.Lzw.f14 ((((List.length x.2.2.2.2.2.2.1) : Nat) : Int), Unit.unit)) (fun y1 => (Option.bind (Go.Ev.Lzw.f20 (y1.1, (x.2.2.1, (x.2.2.2.1, (x.2.2.2.2.1, Unit.unit))))) (fun y2 => (if ((Bool.not y2.2.1) = true) then (some (Sum.inr (Sum.inl ((6 : Int), ([], Unit.unit)))))
   else (if ((List.length x.2.2.2.2.2.1) = (List.length x.2.2.2.2.2.1)) then (if ((List.length x.2.2.2.2.2.2.1) = (List.length x.2.2.2.2.2.2.1)) then (Option.bind (Go.Ev.Lzw.b10_2 (x.1, (x.2.1, (y2.1, (y2.2.2.1, (y2.2.2.2.1, (y2.2.2.2.2.1, (x.2.2.2.2.2.1, (x.2.2.2.2.2.2.1, Unit.unit))))))))) (Sum.elim (fun y3 => (if ((List.length y3.2.2.2.2.2.1) = (List.length y3.2.2.2.2.2.1)) then (if ((List.length y3.2.2.2.2.2.2.1) = (List.length y3.2.2.2.2.2.2.1)) then (some (Sum.inl (y3.1, (y3.2.1, (y3.2.2.1, (y3.2.2.2.1, (y3.2.2.2.2.1, (y3.2.2.2.2.2.1, (y3.2.2.2.2.2.2.1, Unit.unit)))))))))
   else none)
   else none)) (Sum.elim (fun y3 => (if ((List.length y3.2.1) = (List.length y3.2.1)) then (some (Sum.inr (Sum.inl (y3.1, (y3.2.1, Unit.unit)))))
   else none)) (Sum.elim (fun y3 => (if ((decide ((Go.IntKind.wrap Go.IntKind.i64 ((((List.length y3.2.2.2.2.2.2.1) : Nat) : Int) + (((List.length y3.2.2.1) : Nat) : Int))) > y3.1)) = true) then (some (Sum.inr (Sum.inl ((2 : Int), ([], Unit.unit)))))
   else (if (((List.length (List.take (List.length y3.2.2.2.2.2.2.1) (List.drop (0 : Nat) y3.2.2.2.2.2.2.1))) + (List.length y3.2.2.1)) ≤ (140737488355328 : Nat)) then (if ((decide ((((List.length y3.2.1) : Nat) : Int) > (0 : Int))) = true) then (if ((decide ((((List.length y3.2.2.2.2.2.2.2.1) : Nat) : Int) < (3838 : Int))) = true) then (if ((((List.length y3.2.1) : Nat) : Int) ≤ (((List.length y3.2.1) : Nat) : Int)) then (if ((((List.length y3.2.1) : Nat) : Int) ≤ (((Int.toNat (((List.length y3.2.1) : Nat) : Int)) : Nat) : Int)) then (if ((0 : Int) < (((List.length y3.2.2.1) : Nat) : Int)) then (if (((List.length (List.take (Int.toNat (((List.length y3.2.1) : Nat) : Int)) y3.2.1)) + (List.length (List.take (1 : Nat) (List.drop (0 : Nat) (List.set (List.replicate (1 : Nat) (0 : Int)) (0 : Nat) (List.getD y3.2.2.1 (0 : Nat) (0 : Int))))))) ≤ (140737488355328 : Nat)) then (if ((((Int.toNat (((List.length y3.2.1) : Nat) : Int)) - (0 : Nat)) < ((List.length (List.take (Int.toNat (((List.length y3.2.1) : Nat) : Int)) y3.2.1)) + (List.length (List.take (1 : Nat) (List.drop (0 : Nat) (List.set (List.replicate (1 : Nat) (0 : Int)) (0 : Nat) (List.getD y3.2.2.1 (0 : Nat) (0 : Int)))))))) ∨ ((((Int.toNat (((List.length y3.2.1) : Nat) : Int)) - (0 : Nat)) = (0 : Nat)) ∧ ((List.length (List.take (Int.toNat (((List.length y3.2.1) : Nat) : Int)) y3.2.1)) = (0 : Nat)))) then (if (((List.length (List.take (List.length y3.2.2.2.2.2.2.2.1) (List.drop (0 : Nat) y3.2.2.2.2.2.2.2.1))) + (List.length (List.take (1 : Nat) (List.drop (0 : Nat) (List.set (List.replicate (1 : Nat) []) (0 : Nat) (List.take (List.length ((List.take (Int.toNat (((List.length y3.2.1) : Nat) : Int)) y3.2.1) ++ (List.take (1 : Nat) (List.drop (0 : Nat) (List.set (List.replicate (1 : Nat) (0 : Int)) (0 : Nat) (List.getD y3.2.2.1 (0 : Nat) (0 : Int))))))) (List.drop (0 : Nat) ((List.take (Int.toNat (((List.length y3.2.1) : Nat) : Int)) y3.2.1) ++ (List.take (1 : Nat) (List.drop (0 : Nat) (List.set (List.replicate (1 : Nat) (0 : Int)) (0 : Nat) (List.getD y3.2.2.1 (0 : Nat) (0 : Int))))))))))))) ≤ (5864062014805 : Nat)) then (if ((List.length ((List.take (List.length y3.2.2.2.2.2.2.1) (List.drop (0 : Nat) y3.2.2.2.2.2.2.1)) ++ y3.2.2.1)) = (List.length ((List.take (List.length y3.2.2.2.2.2.2.1) (List.drop (0 : Nat) y3.2.2.2.2.2.2.1)) ++ y3.2.2.1))) then (if ((List.length ((List.take (List.length y3.2.2.2.2.2.2.2.1) (List.drop (0 : Nat) y3.2.2.2.2.2.2.2.1)) ++ (List.take (1 : Nat) (List.drop (0 : Nat) (List.set (List.replicate (1 : Nat) []) (0 : Nat) (List.take (List.length ((List.take (Int.toNat (((List.length y3.2.1) : Nat) : Int)) y3.2.1) ++ (List.take (1 : Nat) (List.drop (0 : Nat) (List.set (List.replicate (1 : Nat) (0 : Int)) (0 : Nat) (List.getD y3.2.2.1 (0 : Nat) (0 : Int))))))) (List.drop (0 : Nat) ((List.take (Int.toNat (((List.length y3.2.1) : Nat) : Int)) y3.2.1) ++ (List.take (1 : Nat) (List.drop (0 : Nat) (List.set (List.replicate (1 : Nat) (0 : Int)) (0 : Nat) (List.getD y3.2.2.1 (0 : Nat) (0 : Int))))))))))))) = (List.length ((List.take (List.length y3.2.2.2.2.2.2.2.1) (List.drop (0 : Nat) y3.2.2.2.2.2.2.2.1)) ++ (List.take (1 : Nat) (List.drop (0 : Nat) (List.set (List.replicate (1 : Nat) []) (0 : Nat) (List.take (List.length ((List.take (Int.toNat (((List.length y3.2.1) : Nat) : Int)) y3.2.1) ++ (List.take (1 : Nat) (List.drop (0 : Nat) (List.set (List.replicate (1 : Nat) (0 : Int)) (0 : Nat) (List.getD y3.2.2.1 (0 : Nat) (0 : Int))))))) (List.drop (0 : Nat) ((List.take (Int.toNat (((List.length y3.2.1) : Nat) : Int)) y3.2.1) ++ (List.take (1 : Nat) (List.drop (0 : Nat) (List.set (List.replicate (1 : Nat) (0 : Int)) (0 : Nat) (List.getD y3.2.2.1 (0 : Nat) (0 : Int)))))))))))))) then (some (Sum.inl (y3.1, (y3.2.2.1, (y3.2.2.2.1, (y3.2.2.2.2.1, (y3.2.2.2.2.2.1, (((List.take (List.length y3.2.2.2.2.2.2.1) (List.drop (0 : Nat) y3.2.2.2.2.2.2.1)) ++ y3.2.2.1), (((List.take (List.length y3.2.2.2.2.2.2.2.1) (List.drop (0 : Nat) y3.2.2.2.2.2.2.2.1)) ++ (List.take (1 : Nat) (List.drop (0 : Nat) (List.set (List.replicate (1 : Nat) []) (0 : Nat) (List.take (List.length ((List.take (Int.toNat (((List.length y3.2.1) : Nat) : Int)) y3.2.1) ++ (List.take (1 : Nat) (List.drop (0 : Nat) (List.set (List.replicate (1 : Nat) (0 : Int)) (0 : Nat) (List.getD y3.2.2.1 (0 : Nat) (0 : Int))))))) (List.drop (0 : Nat) ((List.take (Int.toNat (((List.length y3.2.1) : Nat) : Int)) y3.2.1) ++ (List.take (1 : Nat) (List.drop (0 : Nat) (List.set (List.replicate (1 : Nat) (0 : Int)) (0 : Nat) (List.getD y3.2.2.1 (0 : Nat) (0 : Int)))))))))))), Unit.unit)))))))))
   else none)
   else none)
   else none)
   else none)
   else none)
   else none)
   else none)
   else none)
   else (if ((List.length ((List.take (List.length y3.2.2.2.2.2.2.1) (List.drop (0 : Nat) y3.2.2.2.2.2.2.1)) ++ y3.2.2.1)) = (List.length ((List.take (List.length y3.2.2.2.2.2.2.1) (List.drop (0 : Nat) y3.2.2.2.2.2.2.1)) ++ y3.2.2.1))) then (if ((List.length y3.2.2.2.2.2.2.2.1) = (List.length y3.2.2.2.2.2.2.2.1)) then (some (Sum.inl (y3.1, (y3.2.2.1, (y3.2.2.2.1, (y3.2.2.2.2.1, (y3.2.2.2.2.2.1, (((List.take (List.length y3.2.2.2.2.2.2.1) (List.drop (0 : Nat) y3.2.2.2.2.2.2.1)) ++ y3.2.2.1), (y3.2.2.2.2.2.2.2.1, Unit.unit)))))))))
   else none)
   else none))
   else (if ((List.length ((List.take (List.length y3.2.2.2.2.2.2.1) (List.drop (0 : Nat) y3.2.2.2.2.2.2.1)) ++ y3.2.2.1)) = (List.length ((List.take (List.length y3.2.2.2.2.2.2.1) (List.drop (0 : Nat) y3.2.2.2.2.2.2.1)) ++ y3.2.2.1))) then (if ((List.length y3.2.2.2.2.2.2.2.1) = (List.length y3.2.2.2.2.2.2.2.1)) then (some (Sum.inl (y3.1, (y3.2.2.1, (y3.2.2.2.1, (y3.2.2.2.2.1, (y3.2.2.2.2.2.1, (((List.take (List.length y3.2.2.2.2.2.2.1) (List.drop (0 : Nat) y3.2.2.2.2.2.2.1)) ++ y3.2.2.1), (y3.2.2.2.2.2.2.2.1, Unit.unit)))))))))
   else none)
   else none))
   else none))) Empty.elim))))
   else none)
   else none))))))
theorem b10_1_eq (x : g10_1.D) : b10_1 x = evF P (T20.orc _) Go.Proofs.Try.f10.ntmps fx10 (Code.at [true, true, true, true, true, false, false] c10) (planAt 64 [([false, true, true, true, false], ⟨g10_2, o10_2, b10_2⟩)]) g10_1 x (injK fx10 ((.normal, g10_1) :: o10_1) some) := by kernel_rfl
noncomputable def l10_1 : g10_1.D → Option (outD o10_1) := loopN g10_1 o10_1 b10_1 18446744073709551616
theorem at10_1 : Code.at [true, true, true, true, true, false] c10 = .loop (Code.at [true, true, true, true, true, false, false] c10) := by kernel_rfl
theorem s10_1_ok : SubOk P Go.Proofs.Try.f10.ntmps fx10 (Code.at [true, true, true, true, true, false] c10) ⟨g10_1, o10_1, l10_1⟩ := by
  rw [at10_1]
  exact loop_ok (sub_ok (ct := ⟨g10_1, ((.normal, g10_1) :: o10_1), b10_1⟩) (Table.ok T20_ok _) hmix (planAt_ok (d := 64) (l := [([false, true, true, true, false], ⟨g10_2, o10_2, b10_2⟩)]) ⟨s10_2_ok, trivial⟩) b10_1_eq) rfl _
noncomputable def f10 (x : gi10.D) : Option go10.D :=
  (if ((decide (x.2.1 < (0 : Int))) = true) then (some ((1 : Int), ([], Unit.unit)))
   else (if ((decide (x.2.1 > (1048576 : Int))) = true) then (some ((1 : Int), ([], Unit.unit)))
   else (Option.bind (Go.Ev.Lzw.l10_1 (x.2.1, ([], (x.1, ((0 : Int), ((0 : Int), ([], ([], Unit.unit)))))))) (Sum.elim (fun y1 => (if ((List.length y1.2.1) = (List.length y1.2.1)) then (some (y1.1, (y1.2.1, Unit.unit)))
   else none)) Empty.elim))))
theorem f10_eq (x : gi10.D) : f10 x = evF P (T20.orc _) Go.Proofs.Try.f10.ntmps fx10 c10 (planAt 64 [([true, true, true, true, true, false], ⟨g10_1, o10_1, l10_1⟩)]) gi10 x (fnK fx10 go10) := by kernel_rfl
theorem f10_ok : EntOk P 10 ⟨gi10, go10, f10⟩ :=
  ent_ok (e := ⟨gi10, go10, f10⟩) (c := c10) (fx := fx10) ⟨Go.Proofs.Try.func10, by kernel_rfl, rfl, by decide +kernel, by kernel_rfl, rfl, rfl⟩ (Table.ok T20_ok _) hmix (planAt_ok (d := 64) (l := [([true, true, true, true, true, false], ⟨g10_1, o10_1, l10_1⟩)]) ⟨s10_1_ok, trivial⟩) f10_eq
noncomputable def T10 : Table := T20.add 10 [⟨gi10, go10, f10⟩] []
theorem T10_ok : TableOk P T10 := Table.plus T20_ok (es := [⟨gi10, go10, f10⟩]) ⟨f10_ok, trivial⟩ []

/-! ## 21: erasure/erasureref12.bit -/
noncomputable def c21 : Code := Func.code Go.Proofs.Try.f21
abbrev gi21 : Sg := ⟨[0, 1], [.lf (.sl (.int .u8)), .lf (.int .i64)], []⟩
abbrev go21 : Sg := ⟨[4], [.lf (.int .i64)], []⟩
def fx21 : List Bool := []
abbrev g21_1 : Sg := ⟨[5, 6], [.lf (.int .i64), .lf (.int .i64)], []⟩
abbrev o21_1 : Outs := [(.exit 0, ⟨[5], [.lf (.int .i64)], []⟩)]
noncomputable def b21_1 (x : g21_1.D) : Option (outD ((.normal, g21_1) :: o21_1)) :=
  (if ((decide (x.2.1 < (7 : Int))) = true) then (some (Sum.inl ((Go.IntKind.wrap Go.IntKind.i64 (Int.tdiv x.1 (2 : Int))), ((Go.IntKind.wrap Go.IntKind.i64 (x.2.1 + (1 : Int))), Unit.unit))))
   else (some (Sum.inr (Sum.inl (x.1, Unit.unit)))))
theorem b21_1_eq (x : g21_1.D) : b21_1 x = evF P (T10.orc _) Go.Proofs.Try.f21.ntmps fx21 (Code.at [true, true, false, true, false, false] c21) (planAt 64 []) g21_1 x (injK fx21 ((.normal, g21_1) :: o21_1) some) := by kernel_rfl
noncomputable def l21_1 : g21_1.D → Option (outD o21_1) := loopN g21_1 o21_1 b21_1 18446744073709551616
theorem at21_1 : Code.at [true, true, false, true, false] c21 = .loop (Code.at [true, true, false, true, false, false] c21) := by kernel_rfl
theorem s21_1_ok : SubOk P Go.Proofs.Try.f21.ntmps fx21 (Code.at [true, true, false, true, false] c21) ⟨g21_1, o21_1, l21_1⟩ := by
  rw [at21_1]
  exact loop_ok (sub_ok (ct := ⟨g21_1, ((.normal, g21_1) :: o21_1), b21_1⟩) (Table.ok T10_ok _) hmix (planAt_ok (d := 64) (l := []) trivial) b21_1_eq) rfl _
noncomputable def f21 (x : gi21.D) : Option go21.D :=
  (if ((0 : Int) ≤ (Go.IntKind.wrap Go.IntKind.i64 (Int.tdiv x.2.1 (8 : Int)))) then (if ((Go.IntKind.wrap Go.IntKind.i64 (Int.tdiv x.2.1 (8 : Int))) < (((List.length x.1) : Nat) : Int)) then (Option.bind (Go.Ev.Lzw.l21_1 ((Go.IntKind.wrap Go.IntKind.i64 (List.getD x.1 (Int.toNat (Go.IntKind.wrap Go.IntKind.i64 (Int.tdiv x.2.1 (8 : Int)))) (0 : Int))), ((Int.tmod x.2.1 (8 : Int)), Unit.unit))) (Sum.elim (fun y1 => (some ((Int.tmod y1.1 (2 : Int)), Unit.unit))) Empty.elim))
   else none)
   else none)
theorem f21_eq (x : gi21.D) : f21 x = evF P (T10.orc _) Go.Proofs.Try.f21.ntmps fx21 c21 (planAt 64 [([true, true, false, true, false], ⟨g21_1, o21_1, l21_1⟩)]) gi21 x (fnK fx21 go21) := by kernel_rfl
theorem f21_ok : EntOk P 21 ⟨gi21, go21, f21⟩ :=
  ent_ok (e := ⟨gi21, go21, f21⟩) (c := c21) (fx := fx21) ⟨Go.Proofs.Try.func21, by kernel_rfl, rfl, by decide +kernel, by kernel_rfl, rfl, rfl⟩ (Table.ok T10_ok _) hmix (planAt_ok (d := 64) (l := [([true, true, false, true, false], ⟨g21_1, o21_1, l21_1⟩)]) ⟨s21_1_ok, trivial⟩) f21_eq
noncomputable def T21 : Table := T10.add 21 [⟨gi21, go21, f21⟩] []
theorem T21_ok : TableOk P T21 := Table.plus T10_ok (es := [⟨gi21, go21, f21⟩]) ⟨f21_ok, trivial⟩ []

/-! ## 11: erasure/erasureref12.Get -/
noncomputable def c11 : Code := Func.code Go.Proofs.Try.f11
abbrev gi11 : Sg := ⟨[0, 1], [.lf (.sl (.int .u8)), .lf (.int .i64)], []⟩
abbrev go11 : Sg := ⟨[4, 5], [.lf (.sl (.int .u8)), .lf (.int .i64)], []⟩
def fx11 : List Bool := []
abbrev g11_3 : Sg := ⟨[0, 1, 6, 7, 8, 9, 10], [.lf (.sl (.int .u8)), .lf (.int .i64), .lf (.gr (.int .u8) 0), .lf (.gr .str 1), .lf .str, .lf (.int .i64), .lf (.int .i64)], [some (.arr true (.int .u8)), some (.arr true .str)]⟩
abbrev o11_3 : Outs := [(.normal, ⟨[0, 1, 6, 7, 8, 9, 12], [.lf (.sl (.int .u8)), .lf (.int .i64), .lf (.gr (.int .u8) 0), .lf (.gr .str 1), .lf .str, .lf (.int .i64), .lf .str], [some (.arr true (.int .u8)), some (.arr true .str)]⟩), (.ret, ⟨[4, 5], [.lf (.sl (.int .u8)), .lf (.int .i64)], []⟩)]
noncomputable def b11_3 (x : g11_3.D) : Option (outD o11_3) :=
  (if ((decide (x.2.2.2.2.1 < (256 : Int))) = true) then (if ((List.length x.2.2.2.2.2.1) = (List.length x.2.2.2.2.2.1)) then (if ((List.length x.2.2.2.2.2.2.1) = (List.length x.2.2.2.2.2.2.1)) then (some (Sum.inl (x.1, (x.2.1, (x.2.2.1, (x.2.2.2.1, ((ByteArray.mk (List.toArray (List.map (fun y1 => (UInt8.ofNat (Int.toNat y1))) (List.take (1 : Nat) (List.drop (0 : Nat) (List.set (List.replicate (1 : Nat) (0 : Int)) (0 : Nat) (Go.IntKind.wrap Go.IntKind.u8 x.2.2.2.2.1))))))), (x.2.2.2.2.2.1, (x.2.2.2.2.2.2.1, Unit.unit)))))))))
   else none)
   else none)
   else (if ((decide ((Go.IntKind.wrap Go.IntKind.i64 (x.2.2.2.2.1 - (258 : Int))) < (((List.length x.2.2.2.2.2.2.1) : Nat) : Int))) = true) then (if ((0 : Int) ≤ (Go.IntKind.wrap Go.IntKind.i64 (x.2.2.2.2.1 - (258 : Int)))) then (if ((Go.IntKind.wrap Go.IntKind.i64 (x.2.2.2.2.1 - (258 : Int))) < (((List.length x.2.2.2.2.2.2.1) : Nat) : Int)) then (if ((List.length x.2.2.2.2.2.1) = (List.length x.2.2.2.2.2.1)) then (if ((List.length x.2.2.2.2.2.2.1) = (List.length x.2.2.2.2.2.2.1)) then (some (Sum.inl (x.1, (x.2.1, (x.2.2.1, (x.2.2.2.1, ((List.getD x.2.2.2.2.2.2.1 ((0 : Nat) + (Int.toNat (Go.IntKind.wrap Go.IntKind.i64 (x.2.2.2.2.1 - (258 : Int))))) (ByteArray.mk #[])), (x.2.2.2.2.2.1, (x.2.2.2.2.2.2.1, Unit.unit)))))))))
   else none)
   else none)
   else none)
   else none)
   else (if (((Go.IntKind.wrap Go.IntKind.i64 (x.2.2.2.2.1 - (258 : Int))) == (((List.length x.2.2.2.2.2.2.1) : Nat) : Int)) = true) then (if ((Bool.not ((ByteArray.toList x.2.2.1) == (ByteArray.toList (ByteArray.mk #[])))) = true) then (if ((1 : Int) ≤ (((ByteArray.size x.2.2.1) : Nat) : Int)) then (if (((ByteArray.size x.2.2.1) + (ByteArray.size (ByteArray.extract x.2.2.1 (0 : Nat) (1 : Nat)))) ≤ (9223372036854775807 : Nat)) then (if ((List.length x.2.2.2.2.2.1) = (List.length x.2.2.2.2.2.1)) then (if ((List.length x.2.2.2.2.2.2.1) = (List.length x.2.2.2.2.2.2.1)) then (some (Sum.inl (x.1, (x.2.1, (x.2.2.1, (x.2.2.2.1, ((x.2.2.1 ++ (ByteArray.extract x.2.2.1 (0 : Nat) (1 : Nat))), (x.2.2.2.2.2.1, (x.2.2.2.2.2.2.1, Unit.unit)))))))))
   else none)
   else none)
   else none)
   else none)
   else (some (Sum.inr (Sum.inl ([], ((4 : Int), Unit.unit))))))
   else (some (Sum.inr (Sum.inl ([], ((4 : Int), Unit.unit))))))))
theorem b11_3_eq (x : g11_3.D) : b11_3 x = evF P (T21.orc _) Go.Proofs.Try.f11.ntmps fx11 (Code.at [true, true, true, true, true, true, false, false, false, true, true, true, true, true, false] c11) (planAt 64 []) g11_3 x (injK fx11 o11_3 some) := by kernel_rfl
theorem s11_3_ok : SubOk P Go.Proofs.Try.f11.ntmps fx11 (Code.at [true, true, true, true, true, true, false, false, false, true, true, true, true, true, false] c11) ⟨g11_3, o11_3, b11_3⟩ :=
  sub_ok (ct := ⟨g11_3, o11_3, b11_3⟩) (Table.ok T21_ok _) hmix (planAt_ok (d := 64) (l := []) trivial) b11_3_eq
abbrev g11_2 : Sg := ⟨[0, 1, 6, 7, 8, 9, 10, 11], [.lf (.sl (.int .u8)), .lf (.int .i64), .lf (.gr (.int .u8) 0), .lf (.gr .str 1), .lf .str, .lf (.int .i64), .lf (.int .i64), .lf (.int .i64)], [some (.arr true (.int .u8)), some (.arr true .str)]⟩
abbrev o11_2 : Outs := [(.exit 2, ⟨[0, 1, 6, 7, 8, 9, 10], [.lf (.sl (.int .u8)), .lf (.int .i64), .lf (.gr (.int .u8) 0), .lf (.gr .str 1), .lf .str, .lf (.int .i64), .lf (.int .i64)], [some (.arr true (.int .u8)), some (.arr true .str)]⟩), (.ret, ⟨[4, 5], [.lf (.sl (.int .u8)), .lf (.int .i64)], []⟩)]
noncomputable def b11_2 (x : g11_2.D) : Option (outD ((.normal, g11_2) :: o11_2)) :=
  (if ((decide (x.2.2.2.2.2.1 > (0 : Int))) = true) then (if ((decide (x.2.2.2.1 ≥ (Go.IntKind.wrap Go.IntKind.i64 ((8 : Int) * (((List.length x.1) : Nat) : Int))))) = true) then (some (Sum.inr (Sum.inr (Sum.inl ([], ((6 : Int), Unit.unit))))))
   else (Option.bind (Go.Ev.Lzw.f21 (x.1, (x.2.2.2.1, Unit.unit))) (fun y1 => (if ((List.length x.2.2.2.2.2.2.1) = (List.length x.2.2.2.2.2.2.1)) then (if ((List.length x.2.2.2.2.2.2.2.1) = (List.length x.2.2.2.2.2.2.2.1)) then (some (Sum.inl (x.1, (x.2.1, (x.2.2.1, ((Go.IntKind.wrap Go.IntKind.i64 (x.2.2.2.1 + (1 : Int))), ((Go.IntKind.wrap Go.IntKind.i64 ((Go.IntKind.wrap Go.IntKind.i64 ((2 : Int) * x.2.2.2.2.1)) + y1.1)), ((Go.IntKind.wrap Go.IntKind.i64 (x.2.2.2.2.2.1 - (1 : Int))), (x.2.2.2.2.2.2.1, (x.2.2.2.2.2.2.2.1, Unit.unit))))))))))
   else none)
   else none))))
   else (if ((List.length x.2.2.2.2.2.2.1) = (List.length x.2.2.2.2.2.2.1)) then (if ((List.length x.2.2.2.2.2.2.2.1) = (List.length x.2.2.2.2.2.2.2.1)) then (some (Sum.inr (Sum.inl (x.1, (x.2.1, (x.2.2.1, (x.2.2.2.1, (x.2.2.2.2.1, (x.2.2.2.2.2.2.1, (x.2.2.2.2.2.2.2.1, Unit.unit))))))))))
   else none)
   else none))
theorem b11_2_eq (x : g11_2.D) : b11_2 x = evF P (T21.orc _) Go.Proofs.Try.f11.ntmps fx11 (Code.at [true, true, true, true, true, true, false, false, false, true, false, true, false, false] c11) (planAt 64 []) g11_2 x (injK fx11 ((.normal, g11_2) :: o11_2) some) := by kernel_rfl
noncomputable def l11_2 : g11_2.D → Option (outD o11_2) := loopN g11_2 o11_2 b11_2 18446744073709551616
theorem at11_2 : Code.at [true, true, true, true, true, true, false, false, false, true, false, true, false] c11 = .loop (Code.at [true, true, true, true, true, true, false, false, false, true, false, true, false, false] c11) := by kernel_rfl
theorem s11_2_ok : SubOk P Go.Proofs.Try.f11.ntmps fx11 (Code.at [true, true, true, true, true, true, false, false, false, true, false, true, false] c11) ⟨g11_2, o11_2, l11_2⟩ := by
  rw [at11_2]
  exact loop_ok (sub_ok (ct := ⟨g11_2, ((.normal, g11_2) :: o11_2), b11_2⟩) (Table.ok T21_ok _) hmix (planAt_ok (d := 64) (l := []) trivial) b11_2_eq) rfl _
abbrev g11_1 : Sg := ⟨[0, 1, 6, 7, 8, 9], [.lf (.sl (.int .u8)), .lf (.int .i64), .lf (.gr (.int .u8) 0), .lf (.gr .str 1), .lf .str, .lf (.int .i64)], [some (.arr true (.int .u8)), some (.arr true .str)]⟩
abbrev o11_1 : Outs := [(.ret, ⟨[4, 5], [.lf (.sl (.int .u8)), .lf (.int .i64)], []⟩)]
noncomputable def b11_1 (x : g11_1.D) : Option (outD ((.normal, g11_1) :: o11_1)) :=
  (Option.bind (Go.Ev.Lzw.f18 ((((List.length x.2.2.2.2.2.1) : Nat) : Int), Unit.unit)) (fun y1 => (if ((List.length x.2.2.2.2.1) = (List.length x.2.2.2.2.1)) then (if ((List.length x.2.2.2.2.2.1) = (List.length x.2.2.2.2.2.1)) then (Option.bind (Go.Ev.Lzw.l11_2 (x.1, (x.2.1, (x.2.2.1, (x.2.2.2.1, ((0 : Int), (y1.1, (x.2.2.2.2.1, (x.2.2.2.2.2.1, Unit.unit))))))))) (Sum.elim (fun y2 => (if ((y2.2.2.2.2.1 == (256 : Int)) = true) then (if ((List.length y2.2.2.2.2.2.1) = (List.length y2.2.2.2.2.2.1)) then (some (Sum.inl (y2.1, (y2.2.1, ((ByteArray.mk #[]), (y2.2.2.2.1, (y2.2.2.2.2.2.1, ([], Unit.unit))))))))
   else none)
   else (if ((y2.2.2.2.2.1 == (257 : Int)) = true) then (some (Sum.inr (Sum.inl ((List.take (List.length y2.2.2.2.2.2.1) (List.drop (0 : Nat) y2.2.2.2.2.2.1)), ((0 : Int), Unit.unit)))))
   else (if ((List.length y2.2.2.2.2.2.1) = (List.length y2.2.2.2.2.2.1)) then (if ((List.length y2.2.2.2.2.2.2.1) = (List.length y2.2.2.2.2.2.2.1)) then (Option.bind (Go.Ev.Lzw.b11_3 (y2.1, (y2.2.1, (y2.2.2.1, (y2.2.2.2.1, (y2.2.2.2.2.1, (y2.2.2.2.2.2.1, (y2.2.2.2.2.2.2.1, Unit.unit)))))))) (Sum.elim (fun y3 => (if ((decide ((Go.IntKind.wrap Go.IntKind.i64 ((((List.length y3.2.2.2.2.2.1) : Nat) : Int) + (((ByteArray.size y3.2.2.2.2.1) : Nat) : Int))) > y3.2.1)) = true) then (some (Sum.inr (Sum.inl ([], ((2 : Int), Unit.unit)))))
   else (if (((List.length (List.take (List.length y3.2.2.2.2.2.1) (List.drop (0 : Nat) y3.2.2.2.2.2.1))) + (List.length (List.map (fun y4 => (((UInt8.toNat y4) : Nat) : Int)) (Array.toList (ByteArray.data y3.2.2.2.2.1))))) ≤ (140737488355328 : Nat)) then (if ((Bool.not ((ByteArray.toList y3.2.2.1) == (ByteArray.toList (ByteArray.mk #[])))) = true) then (if ((decide ((((List.length y3.2.2.2.2.2.2.1) : Nat) : Int) < (3838 : Int))) = true) then (if ((1 : Int) ≤ (((ByteArray.size y3.2.2.2.2.1) : Nat) : Int)) then (if (((ByteArray.size y3.2.2.1) + (ByteArray.size (ByteArray.extract y3.2.2.2.2.1 (0 : Nat) (1 : Nat)))) ≤ (9223372036854775807 : Nat)) then (if (((List.length (List.take (List.length y3.2.2.2.2.2.2.1) (List.drop (0 : Nat) y3.2.2.2.2.2.2.1))) + (List.length (List.take (1 : Nat) (List.drop (0 : Nat) (List.set (List.replicate (1 : Nat) (ByteArray.mk #[])) (0 : Nat) (y3.2.2.1 ++ (ByteArray.extract y3.2.2.2.2.1 (0 : Nat) (1 : Nat)))))))) ≤ (8796093022208 : Nat)) then (if ((List.length ((List.take (List.length y3.2.2.2.2.2.1) (List.drop (0 : Nat) y3.2.2.2.2.2.1)) ++ (List.map (fun y4 => (((UInt8.toNat y4) : Nat) : Int)) (Array.toList (ByteArray.data y3.2.2.2.2.1))))) = (List.length ((List.take (List.length y3.2.2.2.2.2.1) (List.drop (0 : Nat) y3.2.2.2.2.2.1)) ++ (List.map (fun y4 => (((UInt8.toNat y4) : Nat) : Int)) (Array.toList (ByteArray.data y3.2.2.2.2.1)))))) then (if ((List.length ((List.take (List.length y3.2.2.2.2.2.2.1) (List.drop (0 : Nat) y3.2.2.2.2.2.2.1)) ++ (List.take (1 : Nat) (List.drop (0 : Nat) (List.set (List.replicate (1 : Nat) (ByteArray.mk #[])) (0 : Nat) (y3.2.2.1 ++ (ByteArray.extract y3.2.2.2.2.1 (0 : Nat) (1 : Nat)))))))) = (List.length ((List.take (List.length y3.2.2.2.2.2.2.1) (List.drop (0 : Nat) y3.2.2.2.2.2.2.1)) ++ (List.take (1 : Nat) (List.drop (0 : Nat) (List.set (List.replicate (1 : Nat) (ByteArray.mk #[])) (0 : Nat) (y3.2.2.1 ++ (ByteArray.extract y3.2.2.2.2.1 (0 : Nat) (1 : Nat))))))))) then (some (Sum.inl (y3.1, (y3.2.1, (y3.2.2.2.2.1, (y3.2.2.2.1, (((List.take (List.length y3.2.2.2.2.2.1) (List.drop (0 : Nat) y3.2.2.2.2.2.1)) ++ (List.map (fun y4 => (((UInt8.toNat y4) : Nat) : Int)) (Array.toList (ByteArray.data y3.2.2.2.2.1)))), (((List.take (List.length y3.2.2.2.2.2.2.1) (List.drop (0 : Nat) y3.2.2.2.2.2.2.1)) ++ (List.take (1 : Nat) (List.drop (0 : Nat) (List.set (List.replicate (1 : Nat) (ByteArray.mk #[])) (0 : Nat) (y3.2.2.1 ++ (ByteArray.extract y3.2.2.2.2.1 (0 : Nat) (1 : Nat))))))), Unit.unit))))))))
   else none)
   else none)
   else none)
   else none)
   else none)
   else (if ((List.length ((List.take (List.length y3.2.2.2.2.2.1) (List.drop (0 : Nat) y3.2.2.2.2.2.1)) ++ (List.map (fun y4 => (((UInt8.toNat y4) : Nat) : Int)) (Array.toList (ByteArray.data y3.2.2.2.2.1))))) = (List.length ((List.take (List.length y3.2.2.2.2.2.1) (List.drop (0 : Nat) y3.2.2.2.2.2.1)) ++ (List.map (fun y4 => (((UInt8.toNat y4) : Nat) : Int)) (Array.toList (ByteArray.data y3.2.2.2.2.1)))))) then (if ((List.length y3.2.2.2.2.2.2.1) = (List.length y3.2.2.2.2.2.2.1)) then (some (Sum.inl (y3.1, (y3.2.1, (y3.2.2.2.2.1, (y3.2.2.2.1, (((List.take (List.length y3.2.2.2.2.2.1) (List.drop (0 : Nat) y3.2.2.2.2.2.1)) ++ (List.map (fun y4 => (((UInt8.toNat y4) : Nat) : Int)) (Array.toList (ByteArray.data y3.2.2.2.2.1)))), (y3.2.2.2.2.2.2.1, Unit.unit))))))))
   else none)
   else none))
   else (if ((List.length ((List.take (List.length y3.2.2.2.2.2.1) (List.drop (0 : Nat) y3.2.2.2.2.2.1)) ++ (List.map (fun y4 => (((UInt8.toNat y4) : Nat) : Int)) (Array.toList (ByteArray.data y3.2.2.2.2.1))))) = (List.length ((List.take (List.length y3.2.2.2.2.2.1) (List.drop (0 : Nat) y3.2.2.2.2.2.1)) ++ (List.map (fun y4 => (((UInt8.toNat y4) : Nat) : Int)) (Array.toList (ByteArray.data y3.2.2.2.2.1)))))) then (if ((List.length y3.2.2.2.2.2.2.1) = (List.length y3.2.2.2.2.2.2.1)) then (some (Sum.inl (y3.1, (y3.2.1, (y3.2.2.2.2.1, (y3.2.2.2.1, (((List.take (List.length y3.2.2.2.2.2.1) (List.drop (0 : Nat) y3.2.2.2.2.2.1)) ++ (List.map (fun y4 => (((UInt8.toNat y4) : Nat) : Int)) (Array.toList (ByteArray.data y3.2.2.2.2.1)))), (y3.2.2.2.2.2.2.1, Unit.unit))))))))
   else none)
   else none))
   else none))) (Sum.elim (fun y3 => (some (Sum.inr (Sum.inl (y3.1, (y3.2.1, Unit.unit)))))) Empty.elim)))
   else none)
   else none)))) (Sum.elim (fun y2 => (some (Sum.inr (Sum.inl (y2.1, (y2.2.1, Unit.unit)))))) Empty.elim)))
   else none)
   else none)))
theorem b11_1_eq (x : g11_1.D) : b11_1 x = evF P (T21.orc _) Go.Proofs.Try.f11.ntmps fx11 (Code.at [true, true, true, true, true, true, false, false] c11) (planAt 64 [([false, true, false, true, false], ⟨g11_2, o11_2, l11_2⟩), ([false, true, true, true, true, true, false], ⟨g11_3, o11_3, b11_3⟩)]) g11_1 x (injK fx11 ((.normal, g11_1) :: o11_1) some) := by kernel_rfl
noncomputable def l11_1 : g11_1.D → Option (outD o11_1) := loopN g11_1 o11_1 b11_1 18446744073709551616
theorem at11_1 : Code.at [true, true, true, true, true, true, false] c11 = .loop (Code.at [true, true, true, true, true, true, false, false] c11) := by kernel_rfl
theorem s11_1_ok : SubOk P Go.Proofs.Try.f11.ntmps fx11 (Code.at [true, true, true, true, true, true, false] c11) ⟨g11_1, o11_1, l11_1⟩ := by
  rw [at11_1]
  exact loop_ok (sub_ok (ct := ⟨g11_1, ((.normal, g11_1) :: o11_1), b11_1⟩) (Table.ok T21_ok _) hmix (planAt_ok (d := 64) (l := [([false, true, false, true, false], ⟨g11_2, o11_2, l11_2⟩), ([false, true, true, true, true, true, false], ⟨g11_3, o11_3, b11_3⟩)]) ⟨s11_2_ok, s11_3_ok, trivial⟩) b11_1_eq) rfl _
noncomputable def f11 (x : gi11.D) : Option go11.D :=
  (if ((decide (x.2.1 < (0 : Int))) = true) then (some ([], ((1 : Int), Unit.unit)))
   else (if ((decide (x.2.1 > (1048576 : Int))) = true) then (some ([], ((1 : Int), Unit.unit)))
   else (Option.bind (Go.Ev.Lzw.l11_1 (x.1, (x.2.1, ((ByteArray.mk #[]), ((0 : Int), ([], ([], Unit.unit))))))) (Sum.elim (fun y1 => (some (y1.1, (y1.2.1, Unit.unit)))) Empty.elim))))
theorem f11_eq (x : gi11.D) : f11 x = evF P (T21.orc _) Go.Proofs.Try.f11.ntmps fx11 c11 (planAt 64 [([true, true, true, true, true, true, false], ⟨g11_1, o11_1, l11_1⟩)]) gi11 x (fnK fx11 go11) := by kernel_rfl
theorem f11_ok : EntOk P 11 ⟨gi11, go11, f11⟩ :=
  ent_ok (e := ⟨gi11, go11, f11⟩) (c := c11) (fx := fx11) ⟨Go.Proofs.Try.func11, by kernel_rfl, rfl, by decide +kernel, by kernel_rfl, rfl, rfl⟩ (Table.ok T21_ok _) hmix (planAt_ok (d := 64) (l := [([true, true, true, true, true, true, false], ⟨g11_1, o11_1, l11_1⟩)]) ⟨s11_1_ok, trivial⟩) f11_eq
noncomputable def T11 : Table := T21.add 11 [⟨gi11, go11, f11⟩] []
theorem T11_ok : TableOk P T11 := Table.plus T21_ok (es := [⟨gi11, go11, f11⟩]) ⟨f11_ok, trivial⟩ []

/-! ## 12: erasure/erasurelaw12.awake -/
noncomputable def c12 : Code := Func.code Go.Proofs.Try.f12
abbrev gi12 : Sg := ⟨[], [], []⟩
abbrev go12 : Sg := ⟨[0], [.lf .bool], []⟩
def fx12 : List Bool := []
noncomputable def f12 (_ : gi12.D) : Option go12.D :=
  (Option.bind (Go.Ev.Lzw.f8 ((List.take (10 : Nat) (List.drop (0 : Nat) (List.set (List.set (List.set (List.set (List.set (List.set (List.set (List.set (List.set (List.set (List.replicate (10 : Nat) (0 : Int)) (0 : Nat) (45 : Int)) (1 : Nat) (45 : Int)) (2 : Nat) (45 : Int)) (3 : Nat) (45 : Int)) (4 : Nat) (45 : Int)) (5 : Nat) (65 : Int)) (6 : Nat) (45 : Int)) (7 : Nat) (45 : Int)) (8 : Nat) (45 : Int)) (9 : Nat) (66 : Int)))), Unit.unit)) (fun y1 => (Option.bind (Go.Ev.Lzw.f10 ((List.take (9 : Nat) (List.drop (0 : Nat) (List.set (List.set (List.set (List.set (List.set (List.set (List.set (List.set (List.set (List.replicate (9 : Nat) (0 : Int)) (0 : Nat) (128 : Int)) (1 : Nat) (11 : Int)) (2 : Nat) (96 : Int)) (3 : Nat) (80 : Int)) (4 : Nat) (34 : Int)) (5 : Nat) (12 : Int)) (6 : Nat) (12 : Int)) (7 : Nat) (133 : Int)) (8 : Nat) (1 : Int)))), ((20 : Int), Unit.unit))) (fun y2 => (if (((ByteArray.toList (ByteArray.mk (List.toArray (List.map (fun y3 => (UInt8.ofNat (Int.toNat y3))) (List.take (List.length y1.2.1) (List.drop (0 : Nat) y1.2.1)))))) == (ByteArray.toList (ByteArray.mk #[128, 11, 96, 80, 34, 12, 12, 133, 1]))) = true) then (if ((y1.1 == (0 : Int)) = true) then (if (((ByteArray.toList (ByteArray.mk (List.toArray (List.map (fun y3 => (UInt8.ofNat (Int.toNat y3))) (List.take (List.length y2.2.1) (List.drop (0 : Nat) y2.2.1)))))) == (ByteArray.toList (ByteArray.mk #[45, 45, 45, 45, 45, 65, 45, 45, 45, 66]))) = true) then (some ((y2.1 == y1.1), Unit.unit))
   else (some (false, Unit.unit)))
   else (some (false, Unit.unit)))
   else (some (false, Unit.unit)))))))
theorem f12_eq (x : gi12.D) : f12 x = evF P (T11.orc _) Go.Proofs.Try.f12.ntmps fx12 c12 (planAt 64 []) gi12 x (fnK fx12 go12) := by kernel_rfl
theorem f12_ok : EntOk P 12 ⟨gi12, go12, f12⟩ :=
  ent_ok (e := ⟨gi12, go12, f12⟩) (c := c12) (fx := fx12) ⟨Go.Proofs.Try.func12, by kernel_rfl, rfl, by decide +kernel, by kernel_rfl, rfl, rfl⟩ (Table.ok T11_ok _) hmix (planAt_ok (d := 64) (l := []) trivial) f12_eq
noncomputable def T12 : Table := T11.add 12 [⟨gi12, go12, f12⟩] []
theorem T12_ok : TableOk P T12 := Table.plus T11_ok (es := [⟨gi12, go12, f12⟩]) ⟨f12_ok, trivial⟩ []

/-! ## 3: erasure/erasurelaw12.LzwDoes -/
noncomputable def c3 : Code := Func.code Go.Proofs.Try.f3
abbrev gi3 : Sg := ⟨[0, 1], [.lf (.sl (.int .u8)), .lf (.int .i64)], []⟩
abbrev go3 : Sg := ⟨[4], [.lf .bool], []⟩
def fx3 : List Bool := []
noncomputable def f3 (x : gi3.D) : Option go3.D :=
  (if ((decide ((((List.length x.1) : Nat) : Int) > (600 : Int))) = true) then (some (true, Unit.unit))
   else (Option.bind (Go.Ev.Lzw.f7 (x.1, Unit.unit)) (fun y1 => (Option.bind (Go.Ev.Lzw.f8 ((List.take (List.length y1.1) (List.drop (0 : Nat) y1.1)), Unit.unit)) (fun y2 => (Option.bind (Go.Ev.Lzw.f9 (x.1, Unit.unit)) (fun y3 => (Option.bind (Go.Ev.Lzw.f10 ((List.take (List.length y1.1) (List.drop (0 : Nat) y1.1)), (x.2.1, Unit.unit))) (fun y4 => (Option.bind (Go.Ev.Lzw.f11 (x.1, (x.2.1, Unit.unit))) (fun y5 => (Option.bind (Go.Ev.Lzw.f12 Unit.unit) (fun y6 => (if (y6.1 = true) then (if (((ByteArray.toList (ByteArray.mk (List.toArray (List.map (fun y7 => (UInt8.ofNat (Int.toNat y7))) (List.take (List.length y1.1) (List.drop (0 : Nat) y1.1)))))) == (ByteArray.toList (ByteArray.mk (List.toArray (List.map (fun y7 => (UInt8.ofNat (Int.toNat y7))) x.1))))) = true) then (if (((ByteArray.toList (ByteArray.mk (List.toArray (List.map (fun y7 => (UInt8.ofNat (Int.toNat y7))) (List.take (List.length y2.2.1) (List.drop (0 : Nat) y2.2.1)))))) == (ByteArray.toList (ByteArray.mk (List.toArray (List.map (fun y7 => (UInt8.ofNat (Int.toNat y7))) (List.take (List.length y3.2.1) (List.drop (0 : Nat) y3.2.1))))))) = true) then (if ((y2.1 == y3.1) = true) then (if (((ByteArray.toList (ByteArray.mk (List.toArray (List.map (fun y7 => (UInt8.ofNat (Int.toNat y7))) (List.take (List.length y4.2.1) (List.drop (0 : Nat) y4.2.1)))))) == (ByteArray.toList (ByteArray.mk (List.toArray (List.map (fun y7 => (UInt8.ofNat (Int.toNat y7))) y5.1))))) = true) then (some ((y4.1 == y5.2.1), Unit.unit))
   else (some (false, Unit.unit)))
   else (some (false, Unit.unit)))
   else (some (false, Unit.unit)))
   else (some (false, Unit.unit)))
   else (some (false, Unit.unit))))))))))))))))
theorem f3_eq (x : gi3.D) : f3 x = evF P (T12.orc _) Go.Proofs.Try.f3.ntmps fx3 c3 (planAt 64 []) gi3 x (fnK fx3 go3) := by kernel_rfl
theorem f3_ok : EntOk P 3 ⟨gi3, go3, f3⟩ :=
  ent_ok (e := ⟨gi3, go3, f3⟩) (c := c3) (fx := fx3) ⟨Go.Proofs.Try.func3, by kernel_rfl, rfl, by decide +kernel, by kernel_rfl, rfl, rfl⟩ (Table.ok T12_ok _) hmix (planAt_ok (d := 64) (l := []) trivial) f3_eq
noncomputable def T3 : Table := T12.add 3 [⟨gi3, go3, f3⟩] []
theorem T3_ok : TableOk P T3 := Table.plus T12_ok (es := [⟨gi3, go3, f3⟩]) ⟨f3_ok, trivial⟩ []

/-! ## 4: erasure/erasurelaw12.LzwBack -/
noncomputable def c4 : Code := Func.code Go.Proofs.Try.f4
abbrev gi4 : Sg := ⟨[0, 1, 2], [.lf (.sl (.int .u8)), .lf (.sl (.int .u8)), .lf (.int .i64)], []⟩
abbrev go4 : Sg := ⟨[6], [.lf .bool], []⟩
def fx4 : List Bool := []
abbrev g4_1 : Sg := ⟨[8, 9, 10], [.lf (.int .i64), .lf (.sl (.int .u8)), .lf (.int .i64)], []⟩
abbrev o4_1 : Outs := [(.normal, ⟨[6], [.lf .bool], []⟩)]
noncomputable def b4_1 (x : g4_1.D) : Option (outD o4_1) :=
  (Option.bind (Go.Ev.Lzw.f12 Unit.unit) (fun y1 => (if (y1.1 = true) then (if ((x.1 == (0 : Int)) = true) then (if ((x.2.2.1 == (2 : Int)) = true) then (some (Sum.inl (((((List.length x.2.1) : Nat) : Int) == (0 : Int)), Unit.unit)))
   else (some (Sum.inl (false, Unit.unit))))
   else (some (Sum.inl (false, Unit.unit))))
   else (some (Sum.inl (false, Unit.unit))))))
theorem b4_1_eq (x : g4_1.D) : b4_1 x = evF P (T3.orc _) Go.Proofs.Try.f4.ntmps fx4 (Code.at [true, true, true, true, false, true, false, false] c4) (planAt 64 []) g4_1 x (injK fx4 o4_1 some) := by kernel_rfl
theorem s4_1_ok : SubOk P Go.Proofs.Try.f4.ntmps fx4 (Code.at [true, true, true, true, false, true, false, false] c4) ⟨g4_1, o4_1, b4_1⟩ :=
  sub_ok (ct := ⟨g4_1, o4_1, b4_1⟩) (Table.ok T3_ok _) hmix (planAt_ok (d := 64) (l := []) trivial) b4_1_eq
noncomputable def f4 (x : gi4.D) : Option go4.D :=
  (if ((decide ((((List.length x.1) : Nat) : Int) > (9000 : Int))) = true) then (some (true, Unit.unit))
   else (if ((decide ((((List.length x.2.1) : Nat) : Int) > (300 : Int))) = true) then (some (true, Unit.unit))
   else (if ((decide (x.2.2.1 < (0 : Int))) = true) then (some (true, Unit.unit))
   else (if ((decide (x.2.2.1 > (9000 : Int))) = true) then (some (true, Unit.unit))
   else (Option.bind (Go.Ev.Lzw.f8 (x.1, Unit.unit)) (fun y1 => (if (((0 : Nat) + (List.length (List.take (List.length y1.2.1) (List.drop (0 : Nat) y1.2.1)))) ≤ (140737488355328 : Nat)) then (if (((List.length (List.take (List.length ((List.take (0 : Nat) (List.drop (0 : Nat) (List.replicate (0 : Nat) (0 : Int)))) ++ (List.take (List.length y1.2.1) (List.drop (0 : Nat) y1.2.1)))) (List.drop (0 : Nat) ((List.take (0 : Nat) (List.drop (0 : Nat) (List.replicate (0 : Nat) (0 : Int)))) ++ (List.take (List.length y1.2.1) (List.drop (0 : Nat) y1.2.1)))))) + (List.length x.2.1)) ≤ (140737488355328 : Nat)) then (Option.bind (Go.Ev.Lzw.f10 ((List.take (List.length ((List.take (List.length ((List.take (0 : Nat) (List.drop (0 : Nat) (List.replicate (0 : Nat) (0 : Int)))) ++ (List.take (List.length y1.2.1) (List.drop (0 : Nat) y1.2.1)))) (List.drop (0 : Nat) ((List.take (0 : Nat) (List.drop (0 : Nat) (List.replicate (0 : Nat) (0 : Int)))) ++ (List.take (List.length y1.2.1) (List.drop (0 : Nat) y1.2.1))))) ++ x.2.1)) (List.drop (0 : Nat) ((List.take (List.length ((List.take (0 : Nat) (List.drop (0 : Nat) (List.replicate (0 : Nat) (0 : Int)))) ++ (List.take (List.length y1.2.1) (List.drop (0 : Nat) y1.2.1)))) (List.drop (0 : Nat) ((List.take (0 : Nat) (List.drop (0 : Nat) (List.replicate (0 : Nat) (0 : Int)))) ++ (List.take (List.length y1.2.1) (List.drop (0 : Nat) y1.2.1))))) ++ x.2.1))), (x.2.2.1, Unit.unit))) (fun y2 => (if ((decide (x.2.2.1 < (((List.length x.1) : Nat) : Int))) = true) then (Option.bind (Go.Ev.Lzw.b4_1 (y1.1, ((List.take (List.length y2.2.1) (List.drop (0 : Nat) y2.2.1)), (y2.1, Unit.unit)))) (Sum.elim (fun y3 => (some (y3.1, Unit.unit))) Empty.elim))
   else (Option.bind (Go.Ev.Lzw.f12 Unit.unit) (fun y3 => (if (y3.1 = true) then (if ((y1.1 == (0 : Int)) = true) then (if ((y2.1 == (0 : Int)) = true) then (some (((ByteArray.toList (ByteArray.mk (List.toArray (List.map (fun y4 => (UInt8.ofNat (Int.toNat y4))) (List.take (List.length y2.2.1) (List.drop (0 : Nat) y2.2.1)))))) == (ByteArray.toList (ByteArray.mk (List.toArray (List.map (fun y4 => (UInt8.ofNat (Int.toNat y4))) x.1))))), Unit.unit))
   else (some (false, Unit.unit)))
   else (some (false, Unit.unit)))
   else (some (false, Unit.unit))))))))
   else none)
   else none)))))))
theorem f4_eq (x : gi4.D) : f4 x = evF P (T3.orc _) Go.Proofs.Try.f4.ntmps fx4 c4 (planAt 64 [([true, true, true, true, false, true, false, false], ⟨g4_1, o4_1, b4_1⟩)]) gi4 x (fnK fx4 go4) := by kernel_rfl
theorem f4_ok : EntOk P 4 ⟨gi4, go4, f4⟩ :=
  ent_ok (e := ⟨gi4, go4, f4⟩) (c := c4) (fx := fx4) ⟨Go.Proofs.Try.func4, by kernel_rfl, rfl, by decide +kernel, by kernel_rfl, rfl, rfl⟩ (Table.ok T3_ok _) hmix (planAt_ok (d := 64) (l := [([true, true, true, true, false, true, false, false], ⟨g4_1, o4_1, b4_1⟩)]) ⟨s4_1_ok, trivial⟩) f4_eq
noncomputable def T4 : Table := T3.add 4 [⟨gi4, go4, f4⟩] []
theorem T4_ok : TableOk P T4 := Table.plus T3_ok (es := [⟨gi4, go4, f4⟩]) ⟨f4_ok, trivial⟩ []

/-! ## 5: erasure/erasurelaw12.LzwOften -/
noncomputable def c5 : Code := Func.code Go.Proofs.Try.f5
abbrev gi5 : Sg := ⟨[0, 1], [.lf (.sl (.int .u8)), .lf (.int .i64)], []⟩
abbrev go5 : Sg := ⟨[4], [.lf .bool], []⟩
def fx5 : List Bool := []
abbrev g5_1 : Sg := ⟨[0, 1, 5, 6, 7], [.lf (.sl (.int .u8)), .lf (.int .i64), .lf (.gr (.int .u8) 0), .lf (.int .i64), .lf (.int .i64)], [some (.arr true (.int .u8))]⟩
abbrev o5_1 : Outs := [(.exit 0, ⟨[5], [.lf (.gr (.int .u8) 0)], [some (.arr true (.int .u8))]⟩)]
noncomputable def b5_1 (x : g5_1.D) : Option (outD ((.normal, g5_1) :: o5_1)) :=
  (if ((decide (x.2.2.2.1 < x.2.1)) = true) then (if (((List.length (List.take (List.length x.2.2.2.2.1) (List.drop (0 : Nat) x.2.2.2.2.1))) + (List.length x.1)) ≤ (140737488355328 : Nat)) then (if (((List.length (List.take (List.length ((List.take (List.length x.2.2.2.2.1) (List.drop (0 : Nat) x.2.2.2.2.1)) ++ x.1)) (List.drop (0 : Nat) ((List.take (List.length x.2.2.2.2.1) (List.drop (0 : Nat) x.2.2.2.2.1)) ++ x.1)))) + (List.length (List.take (1 : Nat) (List.drop (0 : Nat) (List.set (List.replicate (1 : Nat) (0 : Int)) (0 : Nat) (Go.IntKind.wrap Go.IntKind.u8 (Int.tmod (Int.tmod (Go.IntKind.wrap Go.IntKind.i64 ((Go.IntKind.wrap Go.IntKind.i64 (x.2.2.1 * (75 : Int))) + (74 : Int))) (65537 : Int)) (256 : Int)))))))) ≤ (140737488355328 : Nat)) then (if ((List.length ((List.take (List.length ((List.take (List.length x.2.2.2.2.1) (List.drop (0 : Nat) x.2.2.2.2.1)) ++ x.1)) (List.drop (0 : Nat) ((List.take (List.length x.2.2.2.2.1) (List.drop (0 : Nat) x.2.2.2.2.1)) ++ x.1))) ++ (List.take (1 : Nat) (List.drop (0 : Nat) (List.set (List.replicate (1 : Nat) (0 : Int)) (0 : Nat) (Go.IntKind.wrap Go.IntKind.u8 (Int.tmod (Int.tmod (Go.IntKind.wrap Go.IntKind.i64 ((Go.IntKind.wrap Go.IntKind.i64 (x.2.2.1 * (75 : Int))) + (74 : Int))) (65537 : Int)) (256 : Int)))))))) = (List.length ((List.take (List.length ((List.take (List.length x.2.2.2.2.1) (List.drop (0 : Nat) x.2.2.2.2.1)) ++ x.1)) (List.drop (0 : Nat) ((List.take (List.length x.2.2.2.2.1) (List.drop (0 : Nat) x.2.2.2.2.1)) ++ x.1))) ++ (List.take (1 : Nat) (List.drop (0 : Nat) (List.set (List.replicate (1 : Nat) (0 : Int)) (0 : Nat) (Go.IntKind.wrap Go.IntKind.u8 (Int.tmod (Int.tmod (Go.IntKind.wrap Go.IntKind.i64 ((Go.IntKind.wrap Go.IntKind.i64 (x.2.2.1 * (75 : Int))) + (74 : Int))) (65537 : Int)) (256 : Int))))))))) then (some (Sum.inl (x.1, (x.2.1, ((Int.tmod (Go.IntKind.wrap Go.IntKind.i64 ((Go.IntKind.wrap Go.IntKind.i64 (x.2.2.1 * (75 : Int))) + (74 : Int))) (65537 : Int)), ((Go.IntKind.wrap Go.IntKind.i64 (x.2.2.2.1 + (1 : Int))), (((List.take (List.length ((List.take (List.length x.2.2.2.2.1) (List.drop (0 : Nat) x.2.2.2.2.1)) ++ x.1)) (List.drop (0 : Nat) ((List.take (List.length x.2.2.2.2.1) (List.drop (0 : Nat) x.2.2.2.2.1)) ++ x.1))) ++ (List.take (1 : Nat) (List.drop (0 : Nat) (List.set (List.replicate (1 : Nat) (0 : Int)) (0 : Nat) (Go.IntKind.wrap Go.IntKind.u8 (Int.tmod (Int.tmod (Go.IntKind.wrap Go.IntKind.i64 ((Go.IntKind.wrap Go.IntKind.i64 (x.2.2.1 * (75 : Int))) + (74 : Int))) (65537 : Int)) (256 : Int))))))), Unit.unit)))))))
   else none)
   else none)
   else none)
   else (if ((List.length x.2.2.2.2.1) = (List.length x.2.2.2.2.1)) then (some (Sum.inr (Sum.inl (x.2.2.2.2.1, Unit.unit))))
   else none))
theorem b5_1_eq (x : g5_1.D) : b5_1 x = evF P (T4.orc _) Go.Proofs.Try.f5.ntmps fx5 (Code.at [true, true, true, true, false, true, false, false] c5) (planAt 64 []) g5_1 x (injK fx5 ((.normal, g5_1) :: o5_1) some) := by kernel_rfl
noncomputable def l5_1 : g5_1.D → Option (outD o5_1) := loopN g5_1 o5_1 b5_1 18446744073709551616
theorem at5_1 : Code.at [true, true, true, true, false, true, false] c5 = .loop (Code.at [true, true, true, true, false, true, false, false] c5) := by kernel_rfl
theorem s5_1_ok : SubOk P Go.Proofs.Try.f5.ntmps fx5 (Code.at [true, true, true, true, false, true, false] c5) ⟨g5_1, o5_1, l5_1⟩ := by
  rw [at5_1]
  exact loop_ok (sub_ok (ct := ⟨g5_1, ((.normal, g5_1) :: o5_1), b5_1⟩) (Table.ok T4_ok _) hmix (planAt_ok (d := 64) (l := []) trivial) b5_1_eq) rfl _
noncomputable def f5 (x : gi5.D) : Option go5.D :=
  (if ((decide ((((List.length x.1) : Nat) : Int) > (40 : Int))) = true) then (some (true, Unit.unit))
   else (if ((decide (x.2.1 < (0 : Int))) = true) then (some (true, Unit.unit))
   else (if ((decide (x.2.1 > (300 : Int))) = true) then (some (true, Unit.unit))
   else (Option.bind (Go.Ev.Lzw.l5_1 (x.1, (x.2.1, ((7 : Int), ((0 : Int), ([], Unit.unit)))))) (Sum.elim (fun y1 => (Option.bind (Go.Ev.Lzw.f8 ((List.take (List.length y1.1) (List.drop (0 : Nat) y1.1)), Unit.unit)) (fun y2 => (Option.bind (Go.Ev.Lzw.f10 ((List.take (List.length y2.2.1) (List.drop (0 : Nat) y2.2.1)), ((20000 : Int), Unit.unit))) (fun y3 => (Option.bind (Go.Ev.Lzw.f12 Unit.unit) (fun y4 => (if (y4.1 = true) then (if ((y2.1 == (0 : Int)) = true) then (if ((y3.1 == y2.1) = true) then (if (((ByteArray.toList (ByteArray.mk (List.toArray (List.map (fun y5 => (UInt8.ofNat (Int.toNat y5))) (List.take (List.length y3.2.1) (List.drop (0 : Nat) y3.2.1)))))) == (ByteArray.toList (ByteArray.mk (List.toArray (List.map (fun y5 => (UInt8.ofNat (Int.toNat y5))) (List.take (List.length y1.1) (List.drop (0 : Nat) y1.1))))))) = true) then (some ((decide ((((List.length y2.2.1) : Nat) : Int) ≤ (Go.IntKind.wrap Go.IntKind.i64 ((Go.IntKind.wrap Go.IntKind.i64 ((2 : Int) * (((List.length y1.1) : Nat) : Int))) + (20 : Int))))), Unit.unit))
   else (some (false, Unit.unit)))
   else (some (false, Unit.unit)))
   else (some (false, Unit.unit)))
   else (some (false, Unit.unit)))))))))) Empty.elim)))))
theorem f5_eq (x : gi5.D) : f5 x = evF P (T4.orc _) Go.Proofs.Try.f5.ntmps fx5 c5 (planAt 64 [([true, true, true, true, false, true, false], ⟨g5_1, o5_1, l5_1⟩)]) gi5 x (fnK fx5 go5) := by kernel_rfl
theorem f5_ok : EntOk P 5 ⟨gi5, go5, f5⟩ :=
  ent_ok (e := ⟨gi5, go5, f5⟩) (c := c5) (fx := fx5) ⟨Go.Proofs.Try.func5, by kernel_rfl, rfl, by decide +kernel, by kernel_rfl, rfl, rfl⟩ (Table.ok T4_ok _) hmix (planAt_ok (d := 64) (l := [([true, true, true, true, false, true, false], ⟨g5_1, o5_1, l5_1⟩)]) ⟨s5_1_ok, trivial⟩) f5_eq
noncomputable def T5 : Table := T4.add 5 [⟨gi5, go5, f5⟩] []
theorem T5_ok : TableOk P T5 := Table.plus T4_ok (es := [⟨gi5, go5, f5⟩]) ⟨f5_ok, trivial⟩ []

/-! ## 6: erasure/erasurelaw12.LzwPlain -/
noncomputable def c6 : Code := Func.code Go.Proofs.Try.f6
abbrev gi6 : Sg := ⟨[0], [.lf (.sl (.int .u8))], []⟩
abbrev go6 : Sg := ⟨[2], [.lf .bool], []⟩
def fx6 : List Bool := []
abbrev g6_3 : Sg := ⟨[0, 3, 5, 6, 7, 8], [.lf (.sl (.int .u8)), .lf (.gr (.int .i64) 0), .lf (.gr (.int .u8) 1), .lf (.int .i64), .lf (.int .i64), .lf (.int .i64)], [some (.arr true (.int .i64)), some (.arr true (.int .u8))]⟩
abbrev o6_3 : Outs := [(.exit 4, ⟨[0, 3, 5, 6], [.lf (.sl (.int .u8)), .lf (.gr (.int .i64) 0), .lf (.gr (.int .u8) 1), .lf (.int .i64)], [some (.arr true (.int .i64)), some (.arr true (.int .u8))]⟩)]
noncomputable def b6_3 (x : g6_3.D) : Option (outD ((.normal, g6_3) :: o6_3)) :=
  (if ((decide (x.2.2.2.1 < (9 : Int))) = true) then (if ((0 : Int) ≤ x.2.1) then (if (x.2.1 < (((List.length x.2.2.2.2.1) : Nat) : Int)) then (if (x.2.2.1 = (0 : Int)) then none
   else (if (((Int.tmod (Go.IntKind.wrap Go.IntKind.i64 (Int.tdiv (List.getD x.2.2.2.2.1 ((0 : Nat) + (Int.toNat x.2.1)) (0 : Int)) x.2.2.1)) (2 : Int)) == (1 : Int)) = true) then (if ((0 : Int) ≤ (Go.IntKind.wrap Go.IntKind.i64 (Int.tdiv (Go.IntKind.wrap Go.IntKind.i64 ((Go.IntKind.wrap Go.IntKind.i64 ((9 : Int) * x.2.1)) + x.2.2.2.1)) (8 : Int)))) then (if ((Go.IntKind.wrap Go.IntKind.i64 (Int.tdiv (Go.IntKind.wrap Go.IntKind.i64 ((Go.IntKind.wrap Go.IntKind.i64 ((9 : Int) * x.2.1)) + x.2.2.2.1)) (8 : Int))) < (((List.length x.2.2.2.2.2.1) : Nat) : Int)) then (if ((Go.IntKind.wrap Go.IntKind.i64 ((7 : Int) - (Int.tmod (Go.IntKind.wrap Go.IntKind.i64 ((Go.IntKind.wrap Go.IntKind.i64 ((9 : Int) * x.2.1)) + x.2.2.2.1)) (8 : Int)))) < (0 : Int)) then none
   else (if ((0 : Int) ≤ (Go.IntKind.wrap Go.IntKind.i64 (Int.tdiv (Go.IntKind.wrap Go.IntKind.i64 ((Go.IntKind.wrap Go.IntKind.i64 ((9 : Int) * x.2.1)) + x.2.2.2.1)) (8 : Int)))) then (if ((Go.IntKind.wrap Go.IntKind.i64 (Int.tdiv (Go.IntKind.wrap Go.IntKind.i64 ((Go.IntKind.wrap Go.IntKind.i64 ((9 : Int) * x.2.1)) + x.2.2.2.1)) (8 : Int))) < (((List.length x.2.2.2.2.2.1) : Nat) : Int)) then (if ((List.length x.2.2.2.2.1) = (List.length x.2.2.2.2.1)) then (if ((List.length x.2.2.2.2.2.1) = (List.length (List.set x.2.2.2.2.2.1 ((0 : Nat) + (Int.toNat (Go.IntKind.wrap Go.IntKind.i64 (Int.tdiv (Go.IntKind.wrap Go.IntKind.i64 ((Go.IntKind.wrap Go.IntKind.i64 ((9 : Int) * x.2.1)) + x.2.2.2.1)) (8 : Int))))) (Go.IntKind.wrap Go.IntKind.u8 ((List.getD x.2.2.2.2.2.1 ((0 : Nat) + (Int.toNat (Go.IntKind.wrap Go.IntKind.i64 (Int.tdiv (Go.IntKind.wrap Go.IntKind.i64 ((Go.IntKind.wrap Go.IntKind.i64 ((9 : Int) * x.2.1)) + x.2.2.2.1)) (8 : Int))))) (0 : Int)) + (Go.IntKind.wrap Go.IntKind.u8 ((1 : Int) * ((2 : Int) ^ (Min.min (Int.toNat (Go.IntKind.wrap Go.IntKind.i64 ((7 : Int) - (Int.tmod (Go.IntKind.wrap Go.IntKind.i64 ((Go.IntKind.wrap Go.IntKind.i64 ((9 : Int) * x.2.1)) + x.2.2.2.1)) (8 : Int))))) (8 : Nat)))))))))) then (some (Sum.inl (x.1, (x.2.1, ((Max.max (Go.IntKind.wrap Go.IntKind.i64 (Int.tdiv x.2.2.1 (2 : Int))) (1 : Int)), ((Go.IntKind.wrap Go.IntKind.i64 (x.2.2.2.1 + (1 : Int))), (x.2.2.2.2.1, ((List.set x.2.2.2.2.2.1 ((0 : Nat) + (Int.toNat (Go.IntKind.wrap Go.IntKind.i64 (Int.tdiv (Go.IntKind.wrap Go.IntKind.i64 ((Go.IntKind.wrap Go.IntKind.i64 ((9 : Int) * x.2.1)) + x.2.2.2.1)) (8 : Int))))) (Go.IntKind.wrap Go.IntKind.u8 ((List.getD x.2.2.2.2.2.1 ((0 : Nat) + (Int.toNat (Go.IntKind.wrap Go.IntKind.i64 (Int.tdiv (Go.IntKind.wrap Go.IntKind.i64 ((Go.IntKind.wrap Go.IntKind.i64 ((9 : Int) * x.2.1)) + x.2.2.2.1)) (8 : Int))))) (0 : Int)) + (Go.IntKind.wrap Go.IntKind.u8 ((1 : Int) * ((2 : Int) ^ (Min.min (Int.toNat (Go.IntKind.wrap Go.IntKind.i64 ((7 : Int) - (Int.tmod (Go.IntKind.wrap Go.IntKind.i64 ((Go.IntKind.wrap Go.IntKind.i64 ((9 : Int) * x.2.1)) + x.2.2.2.1)) (8 : Int))))) (8 : Nat)))))))), Unit.unit))))))))
   else none)
   else none)
   else none)
   else none))
   else none)
   else none)
   else (if ((List.length x.2.2.2.2.1) = (List.length x.2.2.2.2.1)) then (if ((List.length x.2.2.2.2.2.1) = (List.length x.2.2.2.2.2.1)) then (some (Sum.inl (x.1, (x.2.1, ((Max.max (Go.IntKind.wrap Go.IntKind.i64 (Int.tdiv x.2.2.1 (2 : Int))) (1 : Int)), ((Go.IntKind.wrap Go.IntKind.i64 (x.2.2.2.1 + (1 : Int))), (x.2.2.2.2.1, (x.2.2.2.2.2.1, Unit.unit))))))))
   else none)
   else none)))
   else none)
   else none)
   else (if ((List.length x.2.2.2.2.1) = (List.length x.2.2.2.2.1)) then (if ((List.length x.2.2.2.2.2.1) = (List.length x.2.2.2.2.2.1)) then (some (Sum.inr (Sum.inl (x.1, (x.2.1, (x.2.2.2.2.1, (x.2.2.2.2.2.1, Unit.unit)))))))
   else none)
   else none))
theorem b6_3_eq (x : g6_3.D) : b6_3 x = evF P (T5.orc _) Go.Proofs.Try.f6.ntmps fx6 (Code.at [true, true, true, true, true, true, true, false, true, false, false, true, false, false, true, true, false, false] c6) (planAt 64 []) g6_3 x (injK fx6 ((.normal, g6_3) :: o6_3) some) := by kernel_rfl
noncomputable def l6_3 : g6_3.D → Option (outD o6_3) := loopN g6_3 o6_3 b6_3 18446744073709551616
theorem at6_3 : Code.at [true, true, true, true, true, true, true, false, true, false, false, true, false, false, true, true, false] c6 = .loop (Code.at [true, true, true, true, true, true, true, false, true, false, false, true, false, false, true, true, false, false] c6) := by kernel_rfl
theorem s6_3_ok : SubOk P Go.Proofs.Try.f6.ntmps fx6 (Code.at [true, true, true, true, true, true, true, false, true, false, false, true, false, false, true, true, false] c6) ⟨g6_3, o6_3, l6_3⟩ := by
  rw [at6_3]
  exact loop_ok (sub_ok (ct := ⟨g6_3, ((.normal, g6_3) :: o6_3), b6_3⟩) (Table.ok T5_ok _) hmix (planAt_ok (d := 64) (l := []) trivial) b6_3_eq) rfl _
abbrev g6_2 : Sg := ⟨[0, 3, 5, 6], [.lf (.sl (.int .u8)), .lf (.gr (.int .i64) 0), .lf (.gr (.int .u8) 1), .lf (.int .i64)], [some (.arr true (.int .i64)), some (.arr true (.int .u8))]⟩
abbrev o6_2 : Outs := [(.exit 2, ⟨[0, 5], [.lf (.sl (.int .u8)), .lf (.gr (.int .u8) 0)], [some (.arr true (.int .u8))]⟩)]
noncomputable def b6_2 (x : g6_2.D) : Option (outD ((.normal, g6_2) :: o6_2)) :=
  (if ((decide (x.2.1 < (((List.length x.2.2.1) : Nat) : Int))) = true) then (if ((List.length x.2.2.1) = (List.length x.2.2.1)) then (if ((List.length x.2.2.2.1) = (List.length x.2.2.2.1)) then (Option.bind (Go.Ev.Lzw.l6_3 (x.1, (x.2.1, ((256 : Int), ((0 : Int), (x.2.2.1, (x.2.2.2.1, Unit.unit))))))) (Sum.elim (fun y1 => (if ((List.length y1.2.2.1) = (List.length y1.2.2.1)) then (if ((List.length y1.2.2.2.1) = (List.length y1.2.2.2.1)) then (some (Sum.inl (y1.1, ((Go.IntKind.wrap Go.IntKind.i64 (y1.2.1 + (1 : Int))), (y1.2.2.1, (y1.2.2.2.1, Unit.unit))))))
   else none)
   else none)) Empty.elim))
   else none)
   else none)
   else (if ((List.length x.2.2.2.1) = (List.length x.2.2.2.1)) then (some (Sum.inr (Sum.inl (x.1, (x.2.2.2.1, Unit.unit)))))
   else none))
theorem b6_2_eq (x : g6_2.D) : b6_2 x = evF P (T5.orc _) Go.Proofs.Try.f6.ntmps fx6 (Code.at [true, true, true, true, true, true, true, false, true, false, false] c6) (planAt 64 [([true, false, false, true, true, false], ⟨g6_3, o6_3, l6_3⟩)]) g6_2 x (injK fx6 ((.normal, g6_2) :: o6_2) some) := by kernel_rfl
noncomputable def l6_2 : g6_2.D → Option (outD o6_2) := loopN g6_2 o6_2 b6_2 18446744073709551616
theorem at6_2 : Code.at [true, true, true, true, true, true, true, false, true, false] c6 = .loop (Code.at [true, true, true, true, true, true, true, false, true, false, false] c6) := by kernel_rfl
theorem s6_2_ok : SubOk P Go.Proofs.Try.f6.ntmps fx6 (Code.at [true, true, true, true, true, true, true, false, true, false] c6) ⟨g6_2, o6_2, l6_2⟩ := by
  rw [at6_2]
  exact loop_ok (sub_ok (ct := ⟨g6_2, ((.normal, g6_2) :: o6_2), b6_2⟩) (Table.ok T5_ok _) hmix (planAt_ok (d := 64) (l := [([true, false, false, true, true, false], ⟨g6_3, o6_3, l6_3⟩)]) ⟨s6_3_ok, trivial⟩) b6_2_eq) rfl _
abbrev g6_1 : Sg := ⟨[0, 3, 4], [.lf (.sl (.int .u8)), .lf (.gr (.int .i64) 0), .lf (.int .i64)], [some (.arr true (.int .i64))]⟩
abbrev o6_1 : Outs := [(.exit 0, ⟨[0, 3], [.lf (.sl (.int .u8)), .lf (.gr (.int .i64) 0)], [some (.arr true (.int .i64))]⟩)]
noncomputable def b6_1 (x : g6_1.D) : Option (outD ((.normal, g6_1) :: o6_1)) :=
  (if ((decide (x.2.1 < (((List.length x.1) : Nat) : Int))) = true) then (if ((0 : Int) ≤ x.2.1) then (if (x.2.1 < (((List.length x.1) : Nat) : Int)) then (if (((List.length (List.take (List.length x.2.2.1) (List.drop (0 : Nat) x.2.2.1))) + (List.length (List.take (1 : Nat) (List.drop (0 : Nat) (List.set (List.replicate (1 : Nat) (0 : Int)) (0 : Nat) (Go.IntKind.wrap Go.IntKind.i64 (List.getD x.1 (Int.toNat x.2.1) (0 : Int)))))))) ≤ (17592186044416 : Nat)) then (if ((List.length ((List.take (List.length x.2.2.1) (List.drop (0 : Nat) x.2.2.1)) ++ (List.take (1 : Nat) (List.drop (0 : Nat) (List.set (List.replicate (1 : Nat) (0 : Int)) (0 : Nat) (Go.IntKind.wrap Go.IntKind.i64 (List.getD x.1 (Int.toNat x.2.1) (0 : Int)))))))) = (List.length ((List.take (List.length x.2.2.1) (List.drop (0 : Nat) x.2.2.1)) ++ (List.take (1 : Nat) (List.drop (0 : Nat) (List.set (List.replicate (1 : Nat) (0 : Int)) (0 : Nat) (Go.IntKind.wrap Go.IntKind.i64 (List.getD x.1 (Int.toNat x.2.1) (0 : Int))))))))) then (some (Sum.inl (x.1, ((Go.IntKind.wrap Go.IntKind.i64 (x.2.1 + (1 : Int))), (((List.take (List.length x.2.2.1) (List.drop (0 : Nat) x.2.2.1)) ++ (List.take (1 : Nat) (List.drop (0 : Nat) (List.set (List.replicate (1 : Nat) (0 : Int)) (0 : Nat) (Go.IntKind.wrap Go.IntKind.i64 (List.getD x.1 (Int.toNat x.2.1) (0 : Int))))))), Unit.unit)))))
   else none)
   else none)
   else none)
   else none)
   else (if ((List.length x.2.2.1) = (List.length x.2.2.1)) then (some (Sum.inr (Sum.inl (x.1, (x.2.2.1, Unit.unit)))))
   else none))
theorem b6_1_eq (x : g6_1.D) : b6_1 x = evF P (T5.orc _) Go.Proofs.Try.f6.ntmps fx6 (Code.at [true, true, true, true, false, true, false, false] c6) (planAt 64 []) g6_1 x (injK fx6 ((.normal, g6_1) :: o6_1) some) := by kernel_rfl
noncomputable def l6_1 : g6_1.D → Option (outD o6_1) := loopN g6_1 o6_1 b6_1 18446744073709551616
theorem at6_1 : Code.at [true, true, true, true, false, true, false] c6 = .loop (Code.at [true, true, true, true, false, true, false, false] c6) := by kernel_rfl
theorem s6_1_ok : SubOk P Go.Proofs.Try.f6.ntmps fx6 (Code.at [true, true, true, true, false, true, false] c6) ⟨g6_1, o6_1, l6_1⟩ := by
  rw [at6_1]
  exact loop_ok (sub_ok (ct := ⟨g6_1, ((.normal, g6_1) :: o6_1), b6_1⟩) (Table.ok T5_ok _) hmix (planAt_ok (d := 64) (l := []) trivial) b6_1_eq) rfl _
noncomputable def f6 (x : gi6.D) : Option go6.D :=
  (if ((decide ((((List.length x.1) : Nat) : Int) > (200 : Int))) = true) then (some (true, Unit.unit))
   else (Option.bind (Go.Ev.Lzw.l6_1 (x.1, ((0 : Int), (([] ++ (List.take (1 : Nat) (List.drop (0 : Nat) (List.set (List.replicate (1 : Nat) (0 : Int)) (0 : Nat) (256 : Int))))), Unit.unit)))) (Sum.elim (fun y1 => (if (((List.length (List.take (List.length y1.2.1) (List.drop (0 : Nat) y1.2.1))) + (1 : Nat)) ≤ (17592186044416 : Nat)) then (if ((0 : Int) ≤ (Go.IntKind.wrap Go.IntKind.i64 (Int.tdiv (Go.IntKind.wrap Go.IntKind.i64 ((Go.IntKind.wrap Go.IntKind.i64 ((9 : Int) * (((List.length ((List.take (List.length y1.2.1) (List.drop (0 : Nat) y1.2.1)) ++ (List.take (1 : Nat) (List.drop (0 : Nat) (List.set (List.replicate (1 : Nat) (0 : Int)) (0 : Nat) (257 : Int)))))) : Nat) : Int))) + (7 : Int))) (8 : Int)))) then (if ((Go.IntKind.wrap Go.IntKind.i64 (Int.tdiv (Go.IntKind.wrap Go.IntKind.i64 ((Go.IntKind.wrap Go.IntKind.i64 ((9 : Int) * (((List.length ((List.take (List.length y1.2.1) (List.drop (0 : Nat) y1.2.1)) ++ (List.take (1 : Nat) (List.drop (0 : Nat) (List.set (List.replicate (1 : Nat) (0 : Int)) (0 : Nat) (257 : Int)))))) : Nat) : Int))) + (7 : Int))) (8 : Int))) ≤ (Go.IntKind.wrap Go.IntKind.i64 (Int.tdiv (Go.IntKind.wrap Go.IntKind.i64 ((Go.IntKind.wrap Go.IntKind.i64 ((9 : Int) * (((List.length ((List.take (List.length y1.2.1) (List.drop (0 : Nat) y1.2.1)) ++ (List.take (1 : Nat) (List.drop (0 : Nat) (List.set (List.replicate (1 : Nat) (0 : Int)) (0 : Nat) (257 : Int)))))) : Nat) : Int))) + (7 : Int))) (8 : Int)))) then (if ((Go.IntKind.wrap Go.IntKind.i64 (Int.tdiv (Go.IntKind.wrap Go.IntKind.i64 ((Go.IntKind.wrap Go.IntKind.i64 ((9 : Int) * (((List.length ((List.take (List.length y1.2.1) (List.drop (0 : Nat) y1.2.1)) ++ (List.take (1 : Nat) (List.drop (0 : Nat) (List.set (List.replicate (1 : Nat) (0 : Int)) (0 : Nat) (257 : Int)))))) : Nat) : Int))) + (7 : Int))) (8 : Int))) ≤ (281474976710656 : Int)) then (if ((List.length ((List.take (List.length y1.2.1) (List.drop (0 : Nat) y1.2.1)) ++ (List.take (1 : Nat) (List.drop (0 : Nat) (List.set (List.replicate (1 : Nat) (0 : Int)) (0 : Nat) (257 : Int)))))) = (List.length ((List.take (List.length y1.2.1) (List.drop (0 : Nat) y1.2.1)) ++ (List.take (1 : Nat) (List.drop (0 : Nat) (List.set (List.replicate (1 : Nat) (0 : Int)) (0 : Nat) (257 : Int))))))) then (if ((Int.toNat (Go.IntKind.wrap Go.IntKind.i64 (Int.tdiv (Go.IntKind.wrap Go.IntKind.i64 ((Go.IntKind.wrap Go.IntKind.i64 ((9 : Int) * (((List.length ((List.take (List.length y1.2.1) (List.drop (0 : Nat) y1.2.1)) ++ (List.take (1 : Nat) (List.drop (0 : Nat) (List.set (List.replicate (1 : Nat) (0 : Int)) (0 : Nat) (257 : Int)))))) : Nat) : Int))) + (7 : Int))) (8 : Int)))) = (List.length (List.replicate (Int.toNat (Go.IntKind.wrap Go.IntKind.i64 (Int.tdiv (Go.IntKind.wrap Go.IntKind.i64 ((Go.IntKind.wrap Go.IntKind.i64 ((9 : Int) * (((List.length ((List.take (List.length y1.2.1) (List.drop (0 : Nat) y1.2.1)) ++ (List.take (1 : Nat) (List.drop (0 : Nat) (List.set (List.replicate (1 : Nat) (0 : Int)) (0 : Nat) (257 : Int)))))) : Nat) : Int))) + (7 : Int))) (8 : Int)))) (0 : Int)))) then (Option.bind (Go.Ev.Lzw.l6_2 (y1.1, ((0 : Int), (((List.take (List.length y1.2.1) (List.drop (0 : Nat) y1.2.1)) ++ (List.take (1 : Nat) (List.drop (0 : Nat) (List.set (List.replicate (1 : Nat) (0 : Int)) (0 : Nat) (257 : Int))))), ((List.replicate (Int.toNat (Go.IntKind.wrap Go.IntKind.i64 (Int.tdiv (Go.IntKind.wrap Go.IntKind.i64 ((Go.IntKind.wrap Go.IntKind.i64 ((9 : Int) * (((List.length ((List.take (List.length y1.2.1) (List.drop (0 : Nat) y1.2.1)) ++ (List.take (1 : Nat) (List.drop (0 : Nat) (List.set (List.replicate (1 : Nat) (0 : Int)) (0 : Nat) (257 : Int)))))) : Nat) : Int))) + (7 : Int))) (8 : Int)))) (0 : Int)), Unit.unit))))) (Sum.elim (fun y2 => (Option.bind (Go.Ev.Lzw.f10 ((List.take (List.length y2.2.1) (List.drop (0 : Nat) y2.2.1)), ((300 : Int), Unit.unit))) (fun y3 => (Option.bind (Go.Ev.Lzw.f12 Unit.unit) (fun y4 => (if (y4.1 = true) then (if ((y3.1 == (0 : Int)) = true) then (some (((ByteArray.toList (ByteArray.mk (List.toArray (List.map (fun y5 => (UInt8.ofNat (Int.toNat y5))) (List.take (List.length y3.2.1) (List.drop (0 : Nat) y3.2.1)))))) == (ByteArray.toList (ByteArray.mk (List.toArray (List.map (fun y5 => (UInt8.ofNat (Int.toNat y5))) y2.1))))), Unit.unit))
   else (some (false, Unit.unit)))
   else (some (false, Unit.unit)))))))) Empty.elim))
   else none)
   else none)
   else none)
   else none)
   else none)
   else none)) Empty.elim)))
theorem f6_eq (x : gi6.D) : f6 x = evF P (T5.orc _) Go.Proofs.Try.f6.ntmps fx6 c6 (planAt 64 [([true, true, true, true, false, true, false], ⟨g6_1, o6_1, l6_1⟩), ([true, true, true, true, true, true, true, false, true, false], ⟨g6_2, o6_2, l6_2⟩)]) gi6 x (fnK fx6 go6) := by kernel_rfl
theorem f6_ok : EntOk P 6 ⟨gi6, go6, f6⟩ :=
  ent_ok (e := ⟨gi6, go6, f6⟩) (c := c6) (fx := fx6) ⟨Go.Proofs.Try.func6, by kernel_rfl, rfl, by decide +kernel, by kernel_rfl, rfl, rfl⟩ (Table.ok T5_ok _) hmix (planAt_ok (d := 64) (l := [([true, true, true, true, false, true, false], ⟨g6_1, o6_1, l6_1⟩), ([true, true, true, true, true, true, true, false, true, false], ⟨g6_2, o6_2, l6_2⟩)]) ⟨s6_1_ok, s6_2_ok, trivial⟩) f6_eq
noncomputable def T6 : Table := T5.add 6 [⟨gi6, go6, f6⟩] []
theorem T6_ok : TableOk P T6 := Table.plus T5_ok (es := [⟨gi6, go6, f6⟩]) ⟨f6_ok, trivial⟩ []

end Go.Ev.Lzw
