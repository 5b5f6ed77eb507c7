/- Part of a proof about the given program: F. -/
import Derived.Test.YtibeakoeoinkjaaEvZ
import Derived.Test.YtibeakoeoinkjaaChecked
namespace Go.Ev.Inflate
open Go.Ev

noncomputable abbrev P := Go.Proofs.Try.prog
set_option maxRecDepth 1000000
theorem hmix : P.follows .mixedOrders = true := by kernel_rfl

/-! ## 14: erasure/inflate.is -/
noncomputable def c14 : Code := Func.code Go.Proofs.Try.f14
abbrev gi14 : Sg := ⟨[0], [.agg [.lf (.int .i64), .lf (.int .i64), .lf (.int .i64)]], []⟩
abbrev go14 : Sg := ⟨[2], [.lf .bool], []⟩
def fx14 : List Bool := []
noncomputable def f14 (x : gi14.D) : Option go14.D :=
  (if ((x.2.1 == (0 : Int)) = true) then (if ((x.2.2.1 == (0 : Int)) = true) then (some (((Int.fdiv x.1 (256 : Int)) == (0 : Int)), Unit.unit))
   else (some (false, Unit.unit)))
   else (if ((x.1 == (0 : Int)) = true) then (if ((decide (x.2.1 ≥ (3 : Int))) = true) then (if ((decide (x.2.1 ≤ (258 : Int))) = true) then (if ((decide (x.2.2.1 ≥ (1 : Int))) = true) then (some ((decide (x.2.2.1 ≤ (32768 : Int))), Unit.unit))
   else (some (false, Unit.unit)))
   else (some (false, Unit.unit)))
   else (some (false, Unit.unit)))
   else (some (false, Unit.unit))))
theorem f14_eq (x : gi14.D) : f14 x = evF P (Table.empty.orc _) Go.Proofs.Try.f14.ntmps fx14 c14 (planAt 64 []) gi14 x (fnK fx14 [go14]) := by kernel_rfl
theorem f14_ok : EntOk P 14 ⟨gi14, [go14], f14⟩ :=
  ent_ok (fn := Go.Proofs.Try.f14) (gi := gi14) (gos := [go14]) (f := f14) (c := c14) (fx := fx14) ⟨Go.Proofs.Try.func14, by kernel_rfl, rfl, by decide +kernel, rfl, rfl⟩ (by kernel_rfl) (Table.ok (Table.empty_ok P) _) hmix (planAt_ok (P := P) (n := Go.Proofs.Try.f14.ntmps) (fx := fx14) (c := c14) (d := 64) (l := []) trivial) f14_eq
noncomputable def T14 : Table := Table.empty.add 14 [⟨gi14, [go14], f14⟩] []
theorem T14_ok : TableOk P T14 := Table.plus (Table.empty_ok P) (es := [⟨gi14, [go14], f14⟩]) ⟨f14_ok, trivial⟩ []

/-! ## 13: erasure/inflate.Expand$1 -/
noncomputable def c13 : Code := Func.code Go.Proofs.Try.f13
abbrev gi13 : Sg := ⟨[0], [.agg [.lf (.int .i64), .lf (.int .i64), .lf (.int .i64)]], []⟩
abbrev go13 : Sg := ⟨[2], [.lf .bool], []⟩
def fx13 : List Bool := []
noncomputable def f13 (x : gi13.D) : Option go13.D :=
  (Option.bind (Go.Ev.Inflate.f14 (x.1, (x.2.1, (x.2.2.1, Unit.unit)))) (fun y1 => (some ((Bool.not y1.1), Unit.unit))))
theorem f13_eq (x : gi13.D) : f13 x = evF P (T14.orc _) Go.Proofs.Try.f13.ntmps fx13 c13 (planAt 64 []) gi13 x (fnK fx13 [go13]) := by kernel_rfl
theorem f13_ok : EntOk P 13 ⟨gi13, [go13], f13⟩ :=
  ent_ok (fn := Go.Proofs.Try.f13) (gi := gi13) (gos := [go13]) (f := f13) (c := c13) (fx := fx13) ⟨Go.Proofs.Try.func13, by kernel_rfl, rfl, by decide +kernel, rfl, rfl⟩ (by kernel_rfl) (Table.ok T14_ok _) hmix (planAt_ok (P := P) (n := Go.Proofs.Try.f13.ntmps) (fx := fx13) (c := c13) (d := 64) (l := []) trivial) f13_eq
noncomputable def T13 : Table := T14.add 13 [⟨gi13, [go13], f13⟩] []
theorem T13_ok : TableOk P T13 := Table.plus T14_ok (es := [⟨gi13, [go13], f13⟩]) ⟨f13_ok, trivial⟩ []

/-! ## 23: slices.IndexFunc[[]erasure/api.Token,erasure/api.Token] -/
noncomputable def c23 : Code := Func.code Go.Proofs.Try.f23
abbrev gi23 : Sg := ⟨[0, 1], [.lf (.sl (.pair (.int .i64) (.pair (.int .i64) (.int .i64)))), .lf (.fnc 13 [])], []⟩
abbrev go23 : Sg := ⟨[4], [.lf (.int .i64)], []⟩
def fx23 : List Bool := []
abbrev g23_1 : Sg := ⟨[0, 1, 7, 8], [.lf (.sl (.pair (.int .i64) (.pair (.int .i64) (.int .i64)))), .lf (.fnc 13 []), .lf (.int .i64), .lf (.int .i64)], []⟩
abbrev o23_1 : Outs := [(.exit 0, ⟨[], [], []⟩), (.ret, ⟨[4], [.lf (.int .i64)], []⟩)]
noncomputable def b23_1 (x : g23_1.D) : Option (outD ((.normal, g23_1) :: o23_1)) :=
  (if ((decide (x.2.2.1 < x.2.1)) = true) then (if ((0 : Int) ≤ x.2.2.1) then (if (x.2.2.1 < (((List.length x.1) : Nat) : Int)) then (Option.bind (Go.Ev.Inflate.f13 ((List.getD x.1 (Int.toNat x.2.2.1) ((0 : Int), ((0 : Int), (0 : Int)))).1, ((List.getD x.1 (Int.toNat x.2.2.1) ((0 : Int), ((0 : Int), (0 : Int)))).2.1, ((List.getD x.1 (Int.toNat x.2.2.1) ((0 : Int), ((0 : Int), (0 : Int)))).2.2, Unit.unit)))) (fun y1 => (if (y1.1 = true) then (some (Sum.inr (Sum.inr (Sum.inl (x.2.2.1, Unit.unit)))))
   else (some (Sum.inl (x.1, (x.2.1, ((Go.IntKind.wrap Go.IntKind.i64 (x.2.2.1 + (1 : Int))), Unit.unit))))))))
   else none)
   else none)
   else (some (Sum.inr (Sum.inl Unit.unit))))
theorem b23_1_eq (x : g23_1.D) : b23_1 x = evF P (T13.orc _) Go.Proofs.Try.f23.ntmps fx23 (Code.at [true, false, true, false, false] c23) (planAt 64 []) g23_1 x (injK fx23 ((.normal, g23_1) :: o23_1) some) := by kernel_rfl
noncomputable def l23_1 : g23_1.D → Option (outD o23_1) := loopN g23_1 o23_1 b23_1 18446744073709551616
theorem at23_1 : Code.at [true, false, true, false] c23 = .loop (Code.at [true, false, true, false, false] c23) := by kernel_rfl
theorem s23_1_ok : SubOk P Go.Proofs.Try.f23.ntmps fx23 (Code.at [true, false, true, false] c23) ⟨g23_1, o23_1, l23_1⟩ := by
  rw [at23_1]
  exact loop_ok (sub_ok (g := g23_1) (outs := ((.normal, g23_1) :: o23_1)) (f := b23_1) (Table.ok T13_ok _) hmix (planAt_ok (P := P) (n := Go.Proofs.Try.f23.ntmps) (fx := fx23) (c := (Code.at [true, false, true, false, false] c23)) (d := 64) (l := []) trivial) b23_1_eq) rfl _
noncomputable def f23 (x : gi23.D) : Option go23.D :=
  (Option.bind (Go.Ev.Inflate.l23_1 (x.1, ((((List.length x.1) : Nat) : Int), ((0 : Int), Unit.unit)))) (Sum.elim (fun _ => (some ((-1 : Int), Unit.unit))) (Sum.elim (fun y1 => (some (y1.1, Unit.unit))) Empty.elim)))
theorem f23_eq (x : gi23.D) : f23 x = evF P (T13.orc _) Go.Proofs.Try.f23.ntmps fx23 c23 (planAt 64 [([true, false, true, false], ⟨g23_1, o23_1, l23_1⟩)]) gi23 x (fnK fx23 [go23]) := by kernel_rfl
theorem pf23 : AllSub P Go.Proofs.Try.f23.ntmps fx23 c23 [([true, false, true, false], ⟨g23_1, o23_1, l23_1⟩)] := And.intro s23_1_ok (trivial)
theorem qf23 : PlanOk P Go.Proofs.Try.f23.ntmps fx23 (planAt 64 [([true, false, true, false], ⟨g23_1, o23_1, l23_1⟩)]) c23 := planAt_ok pf23
theorem f23_ok : EntOk P 23 ⟨gi23, [go23], f23⟩ :=
  ent_ok (fn := Go.Proofs.Try.f23) (gi := gi23) (gos := [go23]) (f := f23) (c := c23) (fx := fx23) ⟨Go.Proofs.Try.func23, by kernel_rfl, rfl, by decide +kernel, rfl, rfl⟩ (by kernel_rfl) (Table.ok T13_ok _) hmix (qf23) f23_eq
noncomputable def T23 : Table := T13.add 23 [⟨gi23, [go23], f23⟩] []
theorem T23_ok : TableOk P T23 := Table.plus T13_ok (es := [⟨gi23, [go23], f23⟩]) ⟨f23_ok, trivial⟩ []

/-! ## 12: slices.ContainsFunc[[]erasure/api.Token,erasure/api.Token] -/
noncomputable def c12 : Code := Func.code Go.Proofs.Try.f12
abbrev gi12 : Sg := ⟨[0, 1], [.lf (.sl (.pair (.int .i64) (.pair (.int .i64) (.int .i64)))), .lf (.fnc 13 [])], []⟩
abbrev go12 : Sg := ⟨[4], [.lf .bool], []⟩
def fx12 : List Bool := []
noncomputable def f12 (x : gi12.D) : Option go12.D :=
  (Option.bind (Go.Ev.Inflate.f23 (x.1, Unit.unit)) (fun y1 => (some ((decide (y1.1 ≥ (0 : Int))), Unit.unit))))
theorem f12_eq (x : gi12.D) : f12 x = evF P (T23.orc _) Go.Proofs.Try.f12.ntmps fx12 c12 (planAt 64 []) gi12 x (fnK fx12 [go12]) := by kernel_rfl
theorem f12_ok : EntOk P 12 ⟨gi12, [go12], f12⟩ :=
  ent_ok (fn := Go.Proofs.Try.f12) (gi := gi12) (gos := [go12]) (f := f12) (c := c12) (fx := fx12) ⟨Go.Proofs.Try.func12, by kernel_rfl, rfl, by decide +kernel, rfl, rfl⟩ (by kernel_rfl) (Table.ok T23_ok _) hmix (planAt_ok (P := P) (n := Go.Proofs.Try.f12.ntmps) (fx := fx12) (c := c12) (d := 64) (l := []) trivial) f12_eq
noncomputable def T12 : Table := T23.add 12 [⟨gi12, [go12], f12⟩] []
theorem T12_ok : TableOk P T12 := Table.plus T23_ok (es := [⟨gi12, [go12], f12⟩]) ⟨f12_ok, trivial⟩ []

/-! ## 7: erasure/inflate.Expand -/
noncomputable def c7 : Code := Func.code Go.Proofs.Try.f7
abbrev gi7 : Sg := ⟨[0, 1], [.lf (.sl (.pair (.int .i64) (.pair (.int .i64) (.int .i64)))), .lf (.int .i64)], []⟩
abbrev go7 : Sg := ⟨[4, 5], [.lf (.sl (.int .u8)), .lf (.int .i64)], []⟩
def fx7 : List Bool := []
abbrev g7_2 : Sg := ⟨[1, 6, 8, 19, 20, 21, 51, 52], [.lf (.int .i64), .lf (.gr (.int .u8) 0), .lf (.ptr 1 0), .lf (.sl (.pair (.int .i64) (.pair (.int .i64) (.int .i64)))), .lf (.int .i64), .lf (.int .i64), .lf (.int .i64), .lf (.int .i64)], [some (.arr true (.int .u8)), some (.box true [.lf (.int .i64), .lf (.int .i64), .lf (.int .i64)])]⟩
abbrev o7_2 : Outs := [(.exit 3, ⟨[1, 6, 19, 20, 21], [.lf (.int .i64), .lf (.gr (.int .u8) 0), .lf (.sl (.pair (.int .i64) (.pair (.int .i64) (.int .i64)))), .lf (.int .i64), .lf (.int .i64)], [some (.arr true (.int .u8))]⟩)]
noncomputable def b7_2 (x : g7_2.D) : Option (outD ((.normal, g7_2) :: o7_2)) :=
  (if ((decide (x.2.2.2.2.2.1 < x.2.2.2.2.1)) = true) then (if ((0 : Int) ≤ (Go.IntKind.wrap Go.IntKind.i64 ((((List.length x.2.2.2.2.2.2.1) : Nat) : Int) - x.2.2.2.2.2.2.2.2.2.1))) then (if ((Go.IntKind.wrap Go.IntKind.i64 ((((List.length x.2.2.2.2.2.2.1) : Nat) : Int) - x.2.2.2.2.2.2.2.2.2.1)) < (((List.length x.2.2.2.2.2.2.1) : Nat) : Int)) then (if (((List.length (List.take (List.length x.2.2.2.2.2.2.1) (List.drop (0 : Nat) x.2.2.2.2.2.2.1))) + (List.length (List.take (1 : Nat) (List.drop (0 : Nat) (List.set (List.replicate (1 : Nat) (0 : Int)) (0 : Nat) (List.getD x.2.2.2.2.2.2.1 ((0 : Nat) + (Int.toNat (Go.IntKind.wrap Go.IntKind.i64 ((((List.length x.2.2.2.2.2.2.1) : Nat) : Int) - x.2.2.2.2.2.2.2.2.2.1)))) (0 : Int))))))) ≤ (140737488355328 : Nat)) then (if ((List.length ((List.take (List.length x.2.2.2.2.2.2.1) (List.drop (0 : Nat) x.2.2.2.2.2.2.1)) ++ (List.take (1 : Nat) (List.drop (0 : Nat) (List.set (List.replicate (1 : Nat) (0 : Int)) (0 : Nat) (List.getD x.2.2.2.2.2.2.1 ((0 : Nat) + (Int.toNat (Go.IntKind.wrap Go.IntKind.i64 ((((List.length x.2.2.2.2.2.2.1) : Nat) : Int) - x.2.2.2.2.2.2.2.2.2.1)))) (0 : Int))))))) = (List.length ((List.take (List.length x.2.2.2.2.2.2.1) (List.drop (0 : Nat) x.2.2.2.2.2.2.1)) ++ (List.take (1 : Nat) (List.drop (0 : Nat) (List.set (List.replicate (1 : Nat) (0 : Int)) (0 : Nat) (List.getD x.2.2.2.2.2.2.1 ((0 : Nat) + (Int.toNat (Go.IntKind.wrap Go.IntKind.i64 ((((List.length x.2.2.2.2.2.2.1) : Nat) : Int) - x.2.2.2.2.2.2.2.2.2.1)))) (0 : Int)))))))) then (some (Sum.inl (x.1, (x.2.1, (x.2.2.1, (x.2.2.2.1, (x.2.2.2.2.1, ((Go.IntKind.wrap Go.IntKind.i64 (x.2.2.2.2.2.1 + (1 : Int))), (((List.take (List.length x.2.2.2.2.2.2.1) (List.drop (0 : Nat) x.2.2.2.2.2.2.1)) ++ (List.take (1 : Nat) (List.drop (0 : Nat) (List.set (List.replicate (1 : Nat) (0 : Int)) (0 : Nat) (List.getD x.2.2.2.2.2.2.1 ((0 : Nat) + (Int.toNat (Go.IntKind.wrap Go.IntKind.i64 ((((List.length x.2.2.2.2.2.2.1) : Nat) : Int) - x.2.2.2.2.2.2.2.2.2.1)))) (0 : Int)))))), (x.2.2.2.2.2.2.2.1, (x.2.2.2.2.2.2.2.2.1, (x.2.2.2.2.2.2.2.2.2.1, Unit.unit))))))))))))
   else none)
   else none)
   else none)
   else none)
   else (if ((List.length x.2.2.2.2.2.2.1) = (List.length x.2.2.2.2.2.2.1)) then (some (Sum.inr (Sum.inl (x.1, (x.2.1, (x.2.2.1, (x.2.2.2.1, (x.2.2.2.2.2.2.1, Unit.unit))))))))
   else none))
theorem b7_2_eq (x : g7_2.D) : b7_2 x = evF P (T12.orc _) Go.Proofs.Try.f7.ntmps fx7 (Code.at [true, true, true, false, true, false, false, true, true, false, false, true, true, true, false, false] c7) (planAt 64 []) g7_2 x (injK fx7 ((.normal, g7_2) :: o7_2) some) := by kernel_rfl
noncomputable def l7_2 : g7_2.D → Option (outD o7_2) := loopN g7_2 o7_2 b7_2 18446744073709551616
theorem at7_2 : Code.at [true, true, true, false, true, false, false, true, true, false, false, true, true, true, false] c7 = .loop (Code.at [true, true, true, false, true, false, false, true, true, false, false, true, true, true, false, false] c7) := by kernel_rfl
theorem s7_2_ok : SubOk P Go.Proofs.Try.f7.ntmps fx7 (Code.at [true, true, true, false, true, false, false, true, true, false, false, true, true, true, false] c7) ⟨g7_2, o7_2, l7_2⟩ := by
  rw [at7_2]
  exact loop_ok (sub_ok (g := g7_2) (outs := ((.normal, g7_2) :: o7_2)) (f := b7_2) (Table.ok T12_ok _) hmix (planAt_ok (P := P) (n := Go.Proofs.Try.f7.ntmps) (fx := fx7) (c := (Code.at [true, true, true, false, true, false, false, true, true, false, false, true, true, true, false, false] c7)) (d := 64) (l := []) trivial) b7_2_eq) rfl _
abbrev g7_1 : Sg := ⟨[1, 6, 19, 20, 21], [.lf (.int .i64), .lf (.gr (.int .u8) 0), .lf (.sl (.pair (.int .i64) (.pair (.int .i64) (.int .i64)))), .lf (.int .i64), .lf (.int .i64)], [some (.arr true (.int .u8))]⟩
abbrev o7_1 : Outs := [(.exit 0, ⟨[6], [.lf (.gr (.int .u8) 0)], [some (.arr true (.int .u8))]⟩), (.ret, ⟨[4, 5], [.lf (.sl (.int .u8)), .lf (.int .i64)], []⟩)]
noncomputable def b7_1 (x : g7_1.D) : Option (outD ((.normal, g7_1) :: o7_1)) :=
  (if ((decide (x.2.2.2.1 < x.2.2.1)) = true) then (if ((0 : Int) ≤ x.2.2.2.1) then (if (x.2.2.2.1 < (((List.length x.2.1) : Nat) : Int)) then (if ((decide ((List.getD x.2.1 (Int.toNat x.2.2.2.1) ((0 : Int), ((0 : Int), (0 : Int)))).2.2 > (((List.length x.2.2.2.2.1) : Nat) : Int))) = true) then (some (Sum.inr (Sum.inr (Sum.inl ([], ((4 : Int), Unit.unit))))))
   else (if ((decide ((Go.IntKind.wrap Go.IntKind.i64 ((((List.length x.2.2.2.2.1) : Nat) : Int) + (Max.max (List.getD x.2.1 (Int.toNat x.2.2.2.1) ((0 : Int), ((0 : Int), (0 : Int)))).2.1 (1 : Int)))) > x.1)) = true) then (some (Sum.inr (Sum.inr (Sum.inl ([], ((2 : Int), Unit.unit))))))
   else (if (((List.getD x.2.1 (Int.toNat x.2.2.2.1) ((0 : Int), ((0 : Int), (0 : Int)))).2.1 == (0 : Int)) = true) then (if (((List.length (List.take (List.length x.2.2.2.2.1) (List.drop (0 : Nat) x.2.2.2.2.1))) + (List.length (List.take (1 : Nat) (List.drop (0 : Nat) (List.set (List.replicate (1 : Nat) (0 : Int)) (0 : Nat) (Go.IntKind.wrap Go.IntKind.u8 (List.getD x.2.1 (Int.toNat x.2.2.2.1) ((0 : Int), ((0 : Int), (0 : Int)))).1)))))) ≤ (140737488355328 : Nat)) then (if ((List.length ((List.take (List.length x.2.2.2.2.1) (List.drop (0 : Nat) x.2.2.2.2.1)) ++ (List.take (1 : Nat) (List.drop (0 : Nat) (List.set (List.replicate (1 : Nat) (0 : Int)) (0 : Nat) (Go.IntKind.wrap Go.IntKind.u8 (List.getD x.2.1 (Int.toNat x.2.2.2.1) ((0 : Int), ((0 : Int), (0 : Int)))).1)))))) = (List.length ((List.take (List.length x.2.2.2.2.1) (List.drop (0 : Nat) x.2.2.2.2.1)) ++ (List.take (1 : Nat) (List.drop (0 : Nat) (List.set (List.replicate (1 : Nat) (0 : Int)) (0 : Nat) (Go.IntKind.wrap Go.IntKind.u8 (List.getD x.2.1 (Int.toNat x.2.2.2.1) ((0 : Int), ((0 : Int), (0 : Int)))).1))))))) then (Option.bind (Go.Ev.Inflate.l7_2 (x.1, (x.2.1, (x.2.2.1, (x.2.2.2.1, ((List.getD x.2.1 (Int.toNat x.2.2.2.1) ((0 : Int), ((0 : Int), (0 : Int)))).2.1, ((0 : Int), (((List.take (List.length x.2.2.2.2.1) (List.drop (0 : Nat) x.2.2.2.2.1)) ++ (List.take (1 : Nat) (List.drop (0 : Nat) (List.set (List.replicate (1 : Nat) (0 : Int)) (0 : Nat) (Go.IntKind.wrap Go.IntKind.u8 (List.getD x.2.1 (Int.toNat x.2.2.2.1) ((0 : Int), ((0 : Int), (0 : Int)))).1))))), ((List.getD x.2.1 (Int.toNat x.2.2.2.1) ((0 : Int), ((0 : Int), (0 : Int)))).1, ((List.getD x.2.1 (Int.toNat x.2.2.2.1) ((0 : Int), ((0 : Int), (0 : Int)))).2.1, ((List.getD x.2.1 (Int.toNat x.2.2.2.1) ((0 : Int), ((0 : Int), (0 : Int)))).2.2, Unit.unit))))))))))) (Sum.elim (fun y1 => (if ((List.length y1.2.2.2.2.1) = (List.length y1.2.2.2.2.1)) then (some (Sum.inl (y1.1, (y1.2.1, (y1.2.2.1, ((Go.IntKind.wrap Go.IntKind.i64 (y1.2.2.2.1 + (1 : Int))), (y1.2.2.2.2.1, Unit.unit)))))))
   else none)) Empty.elim))
   else none)
   else none)
   else (if ((List.length x.2.2.2.2.1) = (List.length x.2.2.2.2.1)) then (Option.bind (Go.Ev.Inflate.l7_2 (x.1, (x.2.1, (x.2.2.1, (x.2.2.2.1, ((List.getD x.2.1 (Int.toNat x.2.2.2.1) ((0 : Int), ((0 : Int), (0 : Int)))).2.1, ((0 : Int), (x.2.2.2.2.1, ((List.getD x.2.1 (Int.toNat x.2.2.2.1) ((0 : Int), ((0 : Int), (0 : Int)))).1, ((List.getD x.2.1 (Int.toNat x.2.2.2.1) ((0 : Int), ((0 : Int), (0 : Int)))).2.1, ((List.getD x.2.1 (Int.toNat x.2.2.2.1) ((0 : Int), ((0 : Int), (0 : Int)))).2.2, Unit.unit))))))))))) (Sum.elim (fun y1 => (if ((List.length y1.2.2.2.2.1) = (List.length y1.2.2.2.2.1)) then (some (Sum.inl (y1.1, (y1.2.1, (y1.2.2.1, ((Go.IntKind.wrap Go.IntKind.i64 (y1.2.2.2.1 + (1 : Int))), (y1.2.2.2.2.1, Unit.unit)))))))
   else none)) Empty.elim))
   else none))))
   else none)
   else none)
   else (if ((List.length x.2.2.2.2.1) = (List.length x.2.2.2.2.1)) then (some (Sum.inr (Sum.inl (x.2.2.2.2.1, Unit.unit))))
   else none))
theorem b7_1_eq (x : g7_1.D) : b7_1 x = evF P (T12.orc _) Go.Proofs.Try.f7.ntmps fx7 (Code.at [true, true, true, false, true, false, false] c7) (planAt 64 [([true, true, false, false, true, true, true, false], ⟨g7_2, o7_2, l7_2⟩)]) g7_1 x (injK fx7 ((.normal, g7_1) :: o7_1) some) := by kernel_rfl
noncomputable def l7_1 : g7_1.D → Option (outD o7_1) := loopN g7_1 o7_1 b7_1 18446744073709551616
theorem p7_1 : AllSub P Go.Proofs.Try.f7.ntmps fx7 (Code.at [true, true, true, false, true, false, false] c7) [([true, true, false, false, true, true, true, false], ⟨g7_2, o7_2, l7_2⟩)] := And.intro s7_2_ok (trivial)
theorem q7_1 : PlanOk P Go.Proofs.Try.f7.ntmps fx7 (planAt 64 [([true, true, false, false, true, true, true, false], ⟨g7_2, o7_2, l7_2⟩)]) (Code.at [true, true, true, false, true, false, false] c7) := planAt_ok p7_1
theorem at7_1 : Code.at [true, true, true, false, true, false] c7 = .loop (Code.at [true, true, true, false, true, false, false] c7) := by kernel_rfl
theorem s7_1_ok : SubOk P Go.Proofs.Try.f7.ntmps fx7 (Code.at [true, true, true, false, true, false] c7) ⟨g7_1, o7_1, l7_1⟩ := by
  rw [at7_1]
  exact loop_ok (sub_ok (g := g7_1) (outs := ((.normal, g7_1) :: o7_1)) (f := b7_1) (Table.ok T12_ok _) hmix (q7_1) b7_1_eq) rfl _
noncomputable def f7 (x : gi7.D) : Option go7.D :=
  (if ((decide (x.2.1 < (0 : Int))) = true) then (some ([], ((1 : Int), Unit.unit)))
   else (if ((decide (x.2.1 > (1048576 : Int))) = true) then (some ([], ((1 : Int), Unit.unit)))
   else (Option.bind (Go.Ev.Inflate.f12 (x.1, Unit.unit)) (fun y1 => (if (y1.1 = true) then (some ([], ((1 : Int), Unit.unit)))
   else (Option.bind (Go.Ev.Inflate.l7_1 (x.2.1, (x.1, ((((List.length x.1) : Nat) : Int), ((0 : Int), ([], Unit.unit)))))) (Sum.elim (fun y2 => (some ((List.take (List.length y2.1) (List.drop (0 : Nat) y2.1)), ((0 : Int), Unit.unit)))) (Sum.elim (fun y2 => (some (y2.1, (y2.2.1, Unit.unit)))) Empty.elim))))))))
theorem f7_eq (x : gi7.D) : f7 x = evF P (T12.orc _) Go.Proofs.Try.f7.ntmps fx7 c7 (planAt 64 [([true, true, true, false, true, false], ⟨g7_1, o7_1, l7_1⟩)]) gi7 x (fnK fx7 [go7]) := by kernel_rfl
theorem pf7 : AllSub P Go.Proofs.Try.f7.ntmps fx7 c7 [([true, true, true, false, true, false], ⟨g7_1, o7_1, l7_1⟩)] := And.intro s7_1_ok (trivial)
theorem qf7 : PlanOk P Go.Proofs.Try.f7.ntmps fx7 (planAt 64 [([true, true, true, false, true, false], ⟨g7_1, o7_1, l7_1⟩)]) c7 := planAt_ok pf7
theorem f7_ok : EntOk P 7 ⟨gi7, [go7], f7⟩ :=
  ent_ok (fn := Go.Proofs.Try.f7) (gi := gi7) (gos := [go7]) (f := f7) (c := c7) (fx := fx7) ⟨Go.Proofs.Try.func7, by kernel_rfl, rfl, by decide +kernel, rfl, rfl⟩ (by kernel_rfl) (Table.ok T12_ok _) hmix (qf7) f7_eq
noncomputable def T7 : Table := T12.add 7 [⟨gi7, [go7], f7⟩] []
theorem T7_ok : TableOk P T7 := Table.plus T12_ok (es := [⟨gi7, [go7], f7⟩]) ⟨f7_ok, trivial⟩ []

/-! ## 15: erasure/erasureref06.Is -/
noncomputable def c15 : Code := Func.code Go.Proofs.Try.f15
abbrev gi15 : Sg := ⟨[0], [.agg [.lf (.int .i64), .lf (.int .i64), .lf (.int .i64)]], []⟩
abbrev go15 : Sg := ⟨[2], [.lf .bool], []⟩
def fx15 : List Bool := []
abbrev g15_1 : Sg := ⟨[1], [.lf (.ptr 0 0)], [some (.box true [.lf (.int .i64), .lf (.int .i64), .lf (.int .i64)])]⟩
abbrev o15_1 : Outs := [(.normal, ⟨[2], [.lf .bool], []⟩)]
noncomputable def b15_1 (x : g15_1.D) : Option (outD o15_1) :=
  (if ((x.2.2.1 == (0 : Int)) = true) then (if ((decide (x.1 ≥ (0 : Int))) = true) then (some (Sum.inl ((decide (x.1 ≤ (255 : Int))), Unit.unit)))
   else (some (Sum.inl (false, Unit.unit))))
   else (some (Sum.inl (false, Unit.unit))))
theorem b15_1_eq (x : g15_1.D) : b15_1 x = evF P (T7.orc _) Go.Proofs.Try.f15.ntmps fx15 (Code.at [true, false, true, false, false] c15) (planAt 64 []) g15_1 x (injK fx15 o15_1 some) := by kernel_rfl
theorem s15_1_ok : SubOk P Go.Proofs.Try.f15.ntmps fx15 (Code.at [true, false, true, false, false] c15) ⟨g15_1, o15_1, b15_1⟩ :=
  sub_ok (g := g15_1) (outs := o15_1) (f := b15_1) (Table.ok T7_ok _) hmix (planAt_ok (P := P) (n := Go.Proofs.Try.f15.ntmps) (fx := fx15) (c := (Code.at [true, false, true, false, false] c15)) (d := 64) (l := []) trivial) b15_1_eq
noncomputable def f15 (x : gi15.D) : Option go15.D :=
  (if ((x.2.1 == (0 : Int)) = true) then (Option.bind (Go.Ev.Inflate.b15_1 (x.1, (x.2.1, (x.2.2.1, Unit.unit)))) (Sum.elim (fun y1 => (some (y1.1, Unit.unit))) Empty.elim))
   else (if ((decide (x.2.1 ≥ (3 : Int))) = true) then (if ((decide (x.2.1 ≤ (258 : Int))) = true) then (if ((decide (x.2.2.1 ≥ (1 : Int))) = true) then (if ((decide (x.2.2.1 ≤ (32768 : Int))) = true) then (some ((x.1 == (0 : Int)), Unit.unit))
   else (some (false, Unit.unit)))
   else (some (false, Unit.unit)))
   else (some (false, Unit.unit)))
   else (some (false, Unit.unit))))
theorem f15_eq (x : gi15.D) : f15 x = evF P (T7.orc _) Go.Proofs.Try.f15.ntmps fx15 c15 (planAt 64 [([true, false, true, false, false], ⟨g15_1, o15_1, b15_1⟩)]) gi15 x (fnK fx15 [go15]) := by kernel_rfl
theorem pf15 : AllSub P Go.Proofs.Try.f15.ntmps fx15 c15 [([true, false, true, false, false], ⟨g15_1, o15_1, b15_1⟩)] := And.intro s15_1_ok (trivial)
theorem qf15 : PlanOk P Go.Proofs.Try.f15.ntmps fx15 (planAt 64 [([true, false, true, false, false], ⟨g15_1, o15_1, b15_1⟩)]) c15 := planAt_ok pf15
theorem f15_ok : EntOk P 15 ⟨gi15, [go15], f15⟩ :=
  ent_ok (fn := Go.Proofs.Try.f15) (gi := gi15) (gos := [go15]) (f := f15) (c := c15) (fx := fx15) ⟨Go.Proofs.Try.func15, by kernel_rfl, rfl, by decide +kernel, rfl, rfl⟩ (by kernel_rfl) (Table.ok T7_ok _) hmix (qf15) f15_eq
noncomputable def T15 : Table := T7.add 15 [⟨gi15, [go15], f15⟩] []
theorem T15_ok : TableOk P T15 := Table.plus T7_ok (es := [⟨gi15, [go15], f15⟩]) ⟨f15_ok, trivial⟩ []

/-! ## 16: erasure/erasureref06.size -/
noncomputable def c16 : Code := Func.code Go.Proofs.Try.f16
abbrev gi16 : Sg := ⟨[0], [.agg [.lf (.int .i64), .lf (.int .i64), .lf (.int .i64)]], []⟩
abbrev go16 : Sg := ⟨[2], [.lf (.int .i64)], []⟩
def fx16 : List Bool := []
noncomputable def f16 (x : gi16.D) : Option go16.D :=
  (some ((Max.max x.2.1 (1 : Int)), Unit.unit))
theorem f16_eq (x : gi16.D) : f16 x = evF P (T15.orc _) Go.Proofs.Try.f16.ntmps fx16 c16 (planAt 64 []) gi16 x (fnK fx16 [go16]) := by kernel_rfl
theorem f16_ok : EntOk P 16 ⟨gi16, [go16], f16⟩ :=
  ent_ok (fn := Go.Proofs.Try.f16) (gi := gi16) (gos := [go16]) (f := f16) (c := c16) (fx := fx16) ⟨Go.Proofs.Try.func16, by kernel_rfl, rfl, by decide +kernel, rfl, rfl⟩ (by kernel_rfl) (Table.ok T15_ok _) hmix (planAt_ok (P := P) (n := Go.Proofs.Try.f16.ntmps) (fx := fx16) (c := c16) (d := 64) (l := []) trivial) f16_eq
noncomputable def T16 : Table := T15.add 16 [⟨gi16, [go16], f16⟩] []
theorem T16_ok : TableOk P T16 := Table.plus T15_ok (es := [⟨gi16, [go16], f16⟩]) ⟨f16_ok, trivial⟩ []

/-! ## 8: erasure/erasureref06.Expand -/
noncomputable def c8 : Code := Func.code Go.Proofs.Try.f8
abbrev gi8 : Sg := ⟨[0, 1], [.lf (.sl (.pair (.int .i64) (.pair (.int .i64) (.int .i64)))), .lf (.int .i64)], []⟩
abbrev go8 : Sg := ⟨[4, 5], [.lf (.sl (.int .u8)), .lf (.int .i64)], []⟩
def fx8 : List Bool := []
abbrev g8_4 : Sg := ⟨[0, 1, 7, 8, 9], [.lf (.sl (.pair (.int .i64) (.pair (.int .i64) (.int .i64)))), .lf (.int .i64), .lf (.gr (.int .u8) 0), .lf (.int .i64), .lf (.int .i64)], [some (.arr true (.int .u8))]⟩
abbrev o8_4 : Outs := [(.exit 4, ⟨[0, 1, 7, 8], [.lf (.sl (.pair (.int .i64) (.pair (.int .i64) (.int .i64)))), .lf (.int .i64), .lf (.gr (.int .u8) 0), .lf (.int .i64)], [some (.arr true (.int .u8))]⟩)]
noncomputable def b8_4 (x : g8_4.D) : Option (outD ((.normal, g8_4) :: o8_4)) :=
  (if ((0 : Int) ≤ x.2.2.1) then (if (x.2.2.1 < (((List.length x.1) : Nat) : Int)) then (if ((decide (x.2.2.2.1 < (List.getD x.1 (Int.toNat x.2.2.1) ((0 : Int), ((0 : Int), (0 : Int)))).2.1)) = true) then (if ((0 : Int) ≤ x.2.2.1) then (if (x.2.2.1 < (((List.length x.1) : Nat) : Int)) then (if ((0 : Int) ≤ (Go.IntKind.wrap Go.IntKind.i64 ((((List.length x.2.2.2.2.1) : Nat) : Int) - (List.getD x.1 (Int.toNat x.2.2.1) ((0 : Int), ((0 : Int), (0 : Int)))).2.2))) then (if ((Go.IntKind.wrap Go.IntKind.i64 ((((List.length x.2.2.2.2.1) : Nat) : Int) - (List.getD x.1 (Int.toNat x.2.2.1) ((0 : Int), ((0 : Int), (0 : Int)))).2.2)) < (((List.length x.2.2.2.2.1) : Nat) : Int)) then (if (((List.length (List.take (List.length x.2.2.2.2.1) (List.drop (0 : Nat) x.2.2.2.2.1))) + (List.length (List.take (1 : Nat) (List.drop (0 : Nat) (List.set (List.replicate (1 : Nat) (0 : Int)) (0 : Nat) (List.getD x.2.2.2.2.1 ((0 : Nat) + (Int.toNat (Go.IntKind.wrap Go.IntKind.i64 ((((List.length x.2.2.2.2.1) : Nat) : Int) - (List.getD x.1 (Int.toNat x.2.2.1) ((0 : Int), ((0 : Int), (0 : Int)))).2.2)))) (0 : Int))))))) ≤ (140737488355328 : Nat)) then (if ((List.length ((List.take (List.length x.2.2.2.2.1) (List.drop (0 : Nat) x.2.2.2.2.1)) ++ (List.take (1 : Nat) (List.drop (0 : Nat) (List.set (List.replicate (1 : Nat) (0 : Int)) (0 : Nat) (List.getD x.2.2.2.2.1 ((0 : Nat) + (Int.toNat (Go.IntKind.wrap Go.IntKind.i64 ((((List.length x.2.2.2.2.1) : Nat) : Int) - (List.getD x.1 (Int.toNat x.2.2.1) ((0 : Int), ((0 : Int), (0 : Int)))).2.2)))) (0 : Int))))))) = (List.length ((List.take (List.length x.2.2.2.2.1) (List.drop (0 : Nat) x.2.2.2.2.1)) ++ (List.take (1 : Nat) (List.drop (0 : Nat) (List.set (List.replicate (1 : Nat) (0 : Int)) (0 : Nat) (List.getD x.2.2.2.2.1 ((0 : Nat) + (Int.toNat (Go.IntKind.wrap Go.IntKind.i64 ((((List.length x.2.2.2.2.1) : Nat) : Int) - (List.getD x.1 (Int.toNat x.2.2.1) ((0 : Int), ((0 : Int), (0 : Int)))).2.2)))) (0 : Int)))))))) then (some (Sum.inl (x.1, (x.2.1, (x.2.2.1, ((Go.IntKind.wrap Go.IntKind.i64 (x.2.2.2.1 + (1 : Int))), (((List.take (List.length x.2.2.2.2.1) (List.drop (0 : Nat) x.2.2.2.2.1)) ++ (List.take (1 : Nat) (List.drop (0 : Nat) (List.set (List.replicate (1 : Nat) (0 : Int)) (0 : Nat) (List.getD x.2.2.2.2.1 ((0 : Nat) + (Int.toNat (Go.IntKind.wrap Go.IntKind.i64 ((((List.length x.2.2.2.2.1) : Nat) : Int) - (List.getD x.1 (Int.toNat x.2.2.1) ((0 : Int), ((0 : Int), (0 : Int)))).2.2)))) (0 : Int)))))), Unit.unit)))))))
   else none)
   else none)
   else none)
   else none)
   else none)
   else none)
   else (if ((List.length x.2.2.2.2.1) = (List.length x.2.2.2.2.1)) then (some (Sum.inr (Sum.inl (x.1, (x.2.1, (x.2.2.1, (x.2.2.2.2.1, Unit.unit)))))))
   else none))
   else none)
   else none)
theorem b8_4_eq (x : g8_4.D) : b8_4 x = evF P (T16.orc _) Go.Proofs.Try.f8.ntmps fx8 (Code.at [true, true, true, true, false, true, false, false, true, false, false, true, true, true, true, false, false] c8) (planAt 64 []) g8_4 x (injK fx8 ((.normal, g8_4) :: o8_4) some) := by kernel_rfl
noncomputable def l8_4 : g8_4.D → Option (outD o8_4) := loopN g8_4 o8_4 b8_4 18446744073709551616
theorem at8_4 : Code.at [true, true, true, true, false, true, false, false, true, false, false, true, true, true, true, false] c8 = .loop (Code.at [true, true, true, true, false, true, false, false, true, false, false, true, true, true, true, false, false] c8) := by kernel_rfl
theorem s8_4_ok : SubOk P Go.Proofs.Try.f8.ntmps fx8 (Code.at [true, true, true, true, false, true, false, false, true, false, false, true, true, true, true, false] c8) ⟨g8_4, o8_4, l8_4⟩ := by
  rw [at8_4]
  exact loop_ok (sub_ok (g := g8_4) (outs := ((.normal, g8_4) :: o8_4)) (f := b8_4) (Table.ok T16_ok _) hmix (planAt_ok (P := P) (n := Go.Proofs.Try.f8.ntmps) (fx := fx8) (c := (Code.at [true, true, true, true, false, true, false, false, true, false, false, true, true, true, true, false, false] c8)) (d := 64) (l := []) trivial) b8_4_eq) rfl _
abbrev g8_3 : Sg := ⟨[0, 1, 7, 8], [.lf (.sl (.pair (.int .i64) (.pair (.int .i64) (.int .i64)))), .lf (.int .i64), .lf (.gr (.int .u8) 0), .lf (.int .i64)], [some (.arr true (.int .u8))]⟩
abbrev o8_3 : Outs := [(.normal, ⟨[0, 1, 7, 8], [.lf (.sl (.pair (.int .i64) (.pair (.int .i64) (.int .i64)))), .lf (.int .i64), .lf (.gr (.int .u8) 0), .lf (.int .i64)], [some (.arr true (.int .u8))]⟩)]
noncomputable def b8_3 (x : g8_3.D) : Option (outD o8_3) :=
  (if ((0 : Int) ≤ x.2.2.1) then (if (x.2.2.1 < (((List.length x.1) : Nat) : Int)) then (if (((List.getD x.1 (Int.toNat x.2.2.1) ((0 : Int), ((0 : Int), (0 : Int)))).2.1 == (0 : Int)) = true) then (if ((0 : Int) ≤ x.2.2.1) then (if (x.2.2.1 < (((List.length x.1) : Nat) : Int)) then (if (((List.length (List.take (List.length x.2.2.2.1) (List.drop (0 : Nat) x.2.2.2.1))) + (List.length (List.take (1 : Nat) (List.drop (0 : Nat) (List.set (List.replicate (1 : Nat) (0 : Int)) (0 : Nat) (Go.IntKind.wrap Go.IntKind.u8 (List.getD x.1 (Int.toNat x.2.2.1) ((0 : Int), ((0 : Int), (0 : Int)))).1)))))) ≤ (140737488355328 : Nat)) then (if ((List.length ((List.take (List.length x.2.2.2.1) (List.drop (0 : Nat) x.2.2.2.1)) ++ (List.take (1 : Nat) (List.drop (0 : Nat) (List.set (List.replicate (1 : Nat) (0 : Int)) (0 : Nat) (Go.IntKind.wrap Go.IntKind.u8 (List.getD x.1 (Int.toNat x.2.2.1) ((0 : Int), ((0 : Int), (0 : Int)))).1)))))) = (List.length ((List.take (List.length x.2.2.2.1) (List.drop (0 : Nat) x.2.2.2.1)) ++ (List.take (1 : Nat) (List.drop (0 : Nat) (List.set (List.replicate (1 : Nat) (0 : Int)) (0 : Nat) (Go.IntKind.wrap Go.IntKind.u8 (List.getD x.1 (Int.toNat x.2.2.1) ((0 : Int), ((0 : Int), (0 : Int)))).1))))))) then (some (Sum.inl (x.1, (x.2.1, (x.2.2.1, (((List.take (List.length x.2.2.2.1) (List.drop (0 : Nat) x.2.2.2.1)) ++ (List.take (1 : Nat) (List.drop (0 : Nat) (List.set (List.replicate (1 : Nat) (0 : Int)) (0 : Nat) (Go.IntKind.wrap Go.IntKind.u8 (List.getD x.1 (Int.toNat x.2.2.1) ((0 : Int), ((0 : Int), (0 : Int)))).1))))), Unit.unit))))))
   else none)
   else none)
   else none)
   else none)
   else (if ((List.length x.2.2.2.1) = (List.length x.2.2.2.1)) then (some (Sum.inl (x.1, (x.2.1, (x.2.2.1, (x.2.2.2.1, Unit.unit))))))
   else none))
   else none)
   else none)
theorem b8_3_eq (x : g8_3.D) : b8_3 x = evF P (T16.orc _) Go.Proofs.Try.f8.ntmps fx8 (Code.at [true, true, true, true, false, true, false, false, true, false, false, true, true, false] c8) (planAt 64 []) g8_3 x (injK fx8 o8_3 some) := by kernel_rfl
theorem s8_3_ok : SubOk P Go.Proofs.Try.f8.ntmps fx8 (Code.at [true, true, true, true, false, true, false, false, true, false, false, true, true, false] c8) ⟨g8_3, o8_3, b8_3⟩ :=
  sub_ok (g := g8_3) (outs := o8_3) (f := b8_3) (Table.ok T16_ok _) hmix (planAt_ok (P := P) (n := Go.Proofs.Try.f8.ntmps) (fx := fx8) (c := (Code.at [true, true, true, true, false, true, false, false, true, false, false, true, true, false] c8)) (d := 64) (l := []) trivial) b8_3_eq
abbrev g8_2 : Sg := ⟨[0, 1, 7, 8], [.lf (.sl (.pair (.int .i64) (.pair (.int .i64) (.int .i64)))), .lf (.int .i64), .lf (.gr (.int .u8) 0), .lf (.int .i64)], [some (.arr true (.int .u8))]⟩
abbrev o8_2 : Outs := [(.exit 2, ⟨[7], [.lf (.gr (.int .u8) 0)], [some (.arr true (.int .u8))]⟩), (.ret, ⟨[4, 5], [.lf (.sl (.int .u8)), .lf (.int .i64)], []⟩)]
noncomputable def b8_2 (x : g8_2.D) : Option (outD ((.normal, g8_2) :: o8_2)) :=
  (if ((decide (x.2.2.1 < (((List.length x.1) : Nat) : Int))) = true) then (if ((0 : Int) ≤ x.2.2.1) then (if (x.2.2.1 < (((List.length x.1) : Nat) : Int)) then (if ((decide ((List.getD x.1 (Int.toNat x.2.2.1) ((0 : Int), ((0 : Int), (0 : Int)))).2.2 > (((List.length x.2.2.2.1) : Nat) : Int))) = true) then (some (Sum.inr (Sum.inr (Sum.inl ([], ((4 : Int), Unit.unit))))))
   else (if ((0 : Int) ≤ x.2.2.1) then (if (x.2.2.1 < (((List.length x.1) : Nat) : Int)) then (Option.bind (Go.Ev.Inflate.f16 ((List.getD x.1 (Int.toNat x.2.2.1) ((0 : Int), ((0 : Int), (0 : Int)))).1, ((List.getD x.1 (Int.toNat x.2.2.1) ((0 : Int), ((0 : Int), (0 : Int)))).2.1, ((List.getD x.1 (Int.toNat x.2.2.1) ((0 : Int), ((0 : Int), (0 : Int)))).2.2, Unit.unit)))) (fun y1 => (if ((decide ((Go.IntKind.wrap Go.IntKind.i64 ((((List.length x.2.2.2.1) : Nat) : Int) + y1.1)) > x.2.1)) = true) then (some (Sum.inr (Sum.inr (Sum.inl ([], ((2 : Int), Unit.unit))))))
   else (if ((List.length x.2.2.2.1) = (List.length x.2.2.2.1)) then (Option.bind (Go.Ev.Inflate.b8_3 (x.1, (x.2.1, (x.2.2.1, (x.2.2.2.1, Unit.unit))))) (Sum.elim (fun y2 => (if ((List.length y2.2.2.2.1) = (List.length y2.2.2.2.1)) then (Option.bind (Go.Ev.Inflate.l8_4 (y2.1, (y2.2.1, (y2.2.2.1, ((0 : Int), (y2.2.2.2.1, Unit.unit)))))) (Sum.elim (fun y3 => (if ((List.length y3.2.2.2.1) = (List.length y3.2.2.2.1)) then (some (Sum.inl (y3.1, (y3.2.1, ((Go.IntKind.wrap Go.IntKind.i64 (y3.2.2.1 + (1 : Int))), (y3.2.2.2.1, Unit.unit))))))
   else none)) Empty.elim))
   else none)) Empty.elim))
   else none))))
   else none)
   else none))
   else none)
   else none)
   else (if ((List.length x.2.2.2.1) = (List.length x.2.2.2.1)) then (some (Sum.inr (Sum.inl (x.2.2.2.1, Unit.unit))))
   else none))
theorem b8_2_eq (x : g8_2.D) : b8_2 x = evF P (T16.orc _) Go.Proofs.Try.f8.ntmps fx8 (Code.at [true, true, true, true, false, true, false, false] c8) (planAt 64 [([true, false, false, true, true, false], ⟨g8_3, o8_3, b8_3⟩), ([true, false, false, true, true, true, true, false], ⟨g8_4, o8_4, l8_4⟩)]) g8_2 x (injK fx8 ((.normal, g8_2) :: o8_2) some) := by kernel_rfl
noncomputable def l8_2 : g8_2.D → Option (outD o8_2) := loopN g8_2 o8_2 b8_2 18446744073709551616
theorem p8_2 : AllSub P Go.Proofs.Try.f8.ntmps fx8 (Code.at [true, true, true, true, false, true, false, false] c8) [([true, false, false, true, true, false], ⟨g8_3, o8_3, b8_3⟩), ([true, false, false, true, true, true, true, false], ⟨g8_4, o8_4, l8_4⟩)] := And.intro s8_3_ok (And.intro s8_4_ok (trivial))
theorem q8_2 : PlanOk P Go.Proofs.Try.f8.ntmps fx8 (planAt 64 [([true, false, false, true, true, false], ⟨g8_3, o8_3, b8_3⟩), ([true, false, false, true, true, true, true, false], ⟨g8_4, o8_4, l8_4⟩)]) (Code.at [true, true, true, true, false, true, false, false] c8) := planAt_ok p8_2
theorem at8_2 : Code.at [true, true, true, true, false, true, false] c8 = .loop (Code.at [true, true, true, true, false, true, false, false] c8) := by kernel_rfl
theorem s8_2_ok : SubOk P Go.Proofs.Try.f8.ntmps fx8 (Code.at [true, true, true, true, false, true, false] c8) ⟨g8_2, o8_2, l8_2⟩ := by
  rw [at8_2]
  exact loop_ok (sub_ok (g := g8_2) (outs := ((.normal, g8_2) :: o8_2)) (f := b8_2) (Table.ok T16_ok _) hmix (q8_2) b8_2_eq) rfl _
abbrev g8_1 : Sg := ⟨[0, 1, 6], [.lf (.sl (.pair (.int .i64) (.pair (.int .i64) (.int .i64)))), .lf (.int .i64), .lf (.int .i64)], []⟩
abbrev o8_1 : Outs := [(.exit 0, ⟨[0, 1], [.lf (.sl (.pair (.int .i64) (.pair (.int .i64) (.int .i64)))), .lf (.int .i64)], []⟩), (.ret, ⟨[4, 5], [.lf (.sl (.int .u8)), .lf (.int .i64)], []⟩)]
noncomputable def b8_1 (x : g8_1.D) : Option (outD ((.normal, g8_1) :: o8_1)) :=
  (if ((decide (x.2.2.1 < (((List.length x.1) : Nat) : Int))) = true) then (if ((0 : Int) ≤ x.2.2.1) then (if (x.2.2.1 < (((List.length x.1) : Nat) : Int)) then (Option.bind (Go.Ev.Inflate.f15 ((List.getD x.1 (Int.toNat x.2.2.1) ((0 : Int), ((0 : Int), (0 : Int)))).1, ((List.getD x.1 (Int.toNat x.2.2.1) ((0 : Int), ((0 : Int), (0 : Int)))).2.1, ((List.getD x.1 (Int.toNat x.2.2.1) ((0 : Int), ((0 : Int), (0 : Int)))).2.2, Unit.unit)))) (fun y1 => (if ((Bool.not y1.1) = true) then (some (Sum.inr (Sum.inr (Sum.inl ([], ((1 : Int), Unit.unit))))))
   else (some (Sum.inl (x.1, (x.2.1, ((Go.IntKind.wrap Go.IntKind.i64 (x.2.2.1 + (1 : Int))), Unit.unit))))))))
   else none)
   else none)
   else (some (Sum.inr (Sum.inl (x.1, (x.2.1, Unit.unit))))))
theorem b8_1_eq (x : g8_1.D) : b8_1 x = evF P (T16.orc _) Go.Proofs.Try.f8.ntmps fx8 (Code.at [true, true, false, true, false, false] c8) (planAt 64 []) g8_1 x (injK fx8 ((.normal, g8_1) :: o8_1) some) := by kernel_rfl
noncomputable def l8_1 : g8_1.D → Option (outD o8_1) := loopN g8_1 o8_1 b8_1 18446744073709551616
theorem at8_1 : Code.at [true, true, false, true, false] c8 = .loop (Code.at [true, true, false, true, false, false] c8) := by kernel_rfl
theorem s8_1_ok : SubOk P Go.Proofs.Try.f8.ntmps fx8 (Code.at [true, true, false, true, false] c8) ⟨g8_1, o8_1, l8_1⟩ := by
  rw [at8_1]
  exact loop_ok (sub_ok (g := g8_1) (outs := ((.normal, g8_1) :: o8_1)) (f := b8_1) (Table.ok T16_ok _) hmix (planAt_ok (P := P) (n := Go.Proofs.Try.f8.ntmps) (fx := fx8) (c := (Code.at [true, true, false, true, false, false] c8)) (d := 64) (l := []) trivial) b8_1_eq) rfl _
noncomputable def f8 (x : gi8.D) : Option go8.D :=
  (if ((decide (x.2.1 < (0 : Int))) = true) then (some ([], ((1 : Int), Unit.unit)))
   else (if ((decide (x.2.1 > (1048576 : Int))) = true) then (some ([], ((1 : Int), Unit.unit)))
   else (Option.bind (Go.Ev.Inflate.l8_1 (x.1, (x.2.1, ((0 : Int), Unit.unit)))) (Sum.elim (fun y1 => (Option.bind (Go.Ev.Inflate.l8_2 (y1.1, (y1.2.1, ((0 : Int), ([], Unit.unit))))) (Sum.elim (fun y2 => (some ((List.take (List.length y2.1) (List.drop (0 : Nat) y2.1)), ((0 : Int), Unit.unit)))) (Sum.elim (fun y2 => (some (y2.1, (y2.2.1, Unit.unit)))) Empty.elim)))) (Sum.elim (fun y1 => (some (y1.1, (y1.2.1, Unit.unit)))) Empty.elim)))))
theorem f8_eq (x : gi8.D) : f8 x = evF P (T16.orc _) Go.Proofs.Try.f8.ntmps fx8 c8 (planAt 64 [([true, true, false, true, false], ⟨g8_1, o8_1, l8_1⟩), ([true, true, true, true, false, true, false], ⟨g8_2, o8_2, l8_2⟩)]) gi8 x (fnK fx8 [go8]) := by kernel_rfl
theorem pf8 : AllSub P Go.Proofs.Try.f8.ntmps fx8 c8 [([true, true, false, true, false], ⟨g8_1, o8_1, l8_1⟩), ([true, true, true, true, false, true, false], ⟨g8_2, o8_2, l8_2⟩)] := And.intro s8_1_ok (And.intro s8_2_ok (trivial))
theorem qf8 : PlanOk P Go.Proofs.Try.f8.ntmps fx8 (planAt 64 [([true, true, false, true, false], ⟨g8_1, o8_1, l8_1⟩), ([true, true, true, true, false, true, false], ⟨g8_2, o8_2, l8_2⟩)]) c8 := planAt_ok pf8
theorem f8_ok : EntOk P 8 ⟨gi8, [go8], f8⟩ :=
  ent_ok (fn := Go.Proofs.Try.f8) (gi := gi8) (gos := [go8]) (f := f8) (c := c8) (fx := fx8) ⟨Go.Proofs.Try.func8, by kernel_rfl, rfl, by decide +kernel, rfl, rfl⟩ (by kernel_rfl) (Table.ok T16_ok _) hmix (qf8) f8_eq
noncomputable def T8 : Table := T16.add 8 [⟨gi8, [go8], f8⟩] []
theorem T8_ok : TableOk P T8 := Table.plus T16_ok (es := [⟨gi8, [go8], f8⟩]) ⟨f8_ok, trivial⟩ []

/-! ## 24: slices.Clone[[]byte,byte] -/
noncomputable def c24 : Code := Func.code Go.Proofs.Try.f24
abbrev gi24 : Sg := ⟨[0], [.lf (.sl (.int .u8))], []⟩
abbrev go24 : Sg := ⟨[2], [.lf (.gr (.int .u8) 0)], [some (.arr true (.int .u8))]⟩
def fx24 : List Bool := []
noncomputable def f24 (x : gi24.D) : Option go24.D :=
  (if ((List.length x.1) = (0 : Nat)) then (Go.Ev.amb (Go.Ev.Orc.eq (Go.Ev.Table.orcE Go.Ev.Inflate.T8 (Go.Ev.Sg.D Go.Ev.Inflate.go24) (Go.Ev.Sg.eq Go.Ev.Inflate.go24) (Go.Ev.Sg.eq_eq Go.Ev.Inflate.go24))) (some ([], Unit.unit)) (if (((0 : Nat) + (List.length x.1)) ≤ (140737488355328 : Nat)) then (if ((List.length ((List.take (0 : Nat) (List.drop (0 : Nat) (List.replicate (0 : Nat) (0 : Int)))) ++ x.1)) = (List.length ((List.take (0 : Nat) (List.drop (0 : Nat) (List.replicate (0 : Nat) (0 : Int)))) ++ x.1))) then (some (((List.take (0 : Nat) (List.drop (0 : Nat) (List.replicate (0 : Nat) (0 : Int)))) ++ x.1), Unit.unit))
   else none)
   else none))
   else (if (((0 : Nat) + (List.length x.1)) ≤ (140737488355328 : Nat)) then (if ((List.length ((List.take (0 : Nat) (List.drop (0 : Nat) (List.replicate (0 : Nat) (0 : Int)))) ++ x.1)) = (List.length ((List.take (0 : Nat) (List.drop (0 : Nat) (List.replicate (0 : Nat) (0 : Int)))) ++ x.1))) then (some (((List.take (0 : Nat) (List.drop (0 : Nat) (List.replicate (0 : Nat) (0 : Int)))) ++ x.1), Unit.unit))
   else none)
   else none))
theorem f24_eq (x : gi24.D) : f24 x = evF P (T8.orcE go24.D go24.eq go24.eq_eq) Go.Proofs.Try.f24.ntmps fx24 c24 (planAt 64 []) gi24 x (fnK fx24 [go24]) := by kernel_rfl
theorem f24_ok : EntOk P 24 ⟨gi24, [go24], f24⟩ :=
  ent_ok (fn := Go.Proofs.Try.f24) (gi := gi24) (gos := [go24]) (f := f24) (c := c24) (fx := fx24) ⟨Go.Proofs.Try.func24, by kernel_rfl, rfl, by decide +kernel, rfl, rfl⟩ (by kernel_rfl) (Table.okE T8_ok _ _ _) hmix (planAt_ok (P := P) (n := Go.Proofs.Try.f24.ntmps) (fx := fx24) (c := c24) (d := 64) (l := []) trivial) f24_eq
noncomputable def T24 : Table := T8.add 24 [⟨gi24, [go24], f24⟩] []
theorem T24_ok : TableOk P T24 := Table.plus T8_ok (es := [⟨gi24, [go24], f24⟩]) ⟨f24_ok, trivial⟩ []

/-! ## 17: erasure/bits.NewReader -/
noncomputable def c17 : Code := Func.code Go.Proofs.Try.f17
abbrev gi17 : Sg := ⟨[0], [.lf (.sl (.int .u8))], []⟩
abbrev go17 : Sg := ⟨[2], [.lf (.ptr 0 0)], [some (.box true [.lf (.sl (.int .u8)), .lf (.int .i64), .lf (.int .i64), .lf (.int .i64)])]⟩
def fx17 : List Bool := []
noncomputable def f17 (x : gi17.D) : Option go17.D :=
  (Option.bind (Go.Ev.Inflate.f24 (x.1, Unit.unit)) (fun y1 => (some ((List.take (List.length y1.1) (List.drop (0 : Nat) y1.1)), ((0 : Int), ((0 : Int), ((0 : Int), Unit.unit)))))))
theorem f17_eq (x : gi17.D) : f17 x = evF P (T24.orc _) Go.Proofs.Try.f17.ntmps fx17 c17 (planAt 64 []) gi17 x (fnK fx17 [go17]) := by kernel_rfl
theorem f17_ok : EntOk P 17 ⟨gi17, [go17], f17⟩ :=
  ent_ok (fn := Go.Proofs.Try.f17) (gi := gi17) (gos := [go17]) (f := f17) (c := c17) (fx := fx17) ⟨Go.Proofs.Try.func17, by kernel_rfl, rfl, by decide +kernel, rfl, rfl⟩ (by kernel_rfl) (Table.ok T24_ok _) hmix (planAt_ok (P := P) (n := Go.Proofs.Try.f17.ntmps) (fx := fx17) (c := c17) (d := 64) (l := []) trivial) f17_eq
noncomputable def T17 : Table := T24.add 17 [⟨gi17, [go17], f17⟩] []
theorem T17_ok : TableOk P T17 := Table.plus T24_ok (es := [⟨gi17, [go17], f17⟩]) ⟨f17_ok, trivial⟩ []

/-! ## 22: (*erasure/bits.Reader).Left -/
noncomputable def c22 : Code := Func.code Go.Proofs.Try.f22
abbrev gi22 : Sg := ⟨[0], [.lf (.ptr 0 0)], [some (.box true [.lf (.sl (.int .u8)), .lf (.int .i64), .lf (.int .i64), .lf (.int .i64)])]⟩
abbrev go22 : Sg := ⟨[2], [.lf (.int .i64)], [some (.box true [.lf (.sl (.int .u8)), .lf (.int .i64), .lf (.int .i64), .lf (.int .i64)])]⟩
def fx22 : List Bool := [true]
noncomputable def f22 (x : gi22.D) : Option go22.D :=
  (some ((Go.IntKind.wrap Go.IntKind.i64 ((Go.IntKind.wrap Go.IntKind.i64 ((8 : Int) * (Go.IntKind.wrap Go.IntKind.i64 ((((List.length x.1) : Nat) : Int) - x.2.1)))) + x.2.2.2.1)), (x.1, (x.2.1, (x.2.2.1, (x.2.2.2.1, Unit.unit))))))
theorem f22_eq (x : gi22.D) : f22 x = evF P (T17.orc _) Go.Proofs.Try.f22.ntmps fx22 c22 (planAt 64 []) gi22 x (fnK fx22 [go22]) := by kernel_rfl
theorem f22_ok : EntOk P 22 ⟨gi22, [go22], f22⟩ :=
  ent_ok (fn := Go.Proofs.Try.f22) (gi := gi22) (gos := [go22]) (f := f22) (c := c22) (fx := fx22) ⟨Go.Proofs.Try.func22, by kernel_rfl, rfl, by decide +kernel, rfl, rfl⟩ (by kernel_rfl) (Table.ok T17_ok _) hmix (planAt_ok (P := P) (n := Go.Proofs.Try.f22.ntmps) (fx := fx22) (c := c22) (d := 64) (l := []) trivial) f22_eq
noncomputable def T22 : Table := T17.add 22 [⟨gi22, [go22], f22⟩] []
theorem T22_ok : TableOk P T22 := Table.plus T17_ok (es := [⟨gi22, [go22], f22⟩]) ⟨f22_ok, trivial⟩ []

/-! ## 59: (*erasure/bits.Reader).next -/
noncomputable def c59 : Code := Func.code Go.Proofs.Try.f59
abbrev gi59 : Sg := ⟨[0], [.lf (.ptr 0 0)], [some (.box true [.lf (.sl (.int .u8)), .lf (.int .i64), .lf (.int .i64), .lf (.int .i64)])]⟩
abbrev go59 : Sg := ⟨[2], [.lf (.int .u8)], [some (.box true [.lf (.sl (.int .u8)), .lf (.int .i64), .lf (.int .i64), .lf (.int .i64)])]⟩
def fx59 : List Bool := [true]
noncomputable def f59 (x : gi59.D) : Option go59.D :=
  (if ((0 : Int) ≤ x.2.1) then (if (x.2.1 < (((List.length x.1) : Nat) : Int)) then (some ((List.getD x.1 (Int.toNat x.2.1) (0 : Int)), (x.1, ((Go.IntKind.wrap Go.IntKind.i64 (x.2.1 + (1 : Int))), (x.2.2.1, (x.2.2.2.1, Unit.unit))))))
   else none)
   else none)
theorem f59_eq (x : gi59.D) : f59 x = evF P (T22.orc _) Go.Proofs.Try.f59.ntmps fx59 c59 (planAt 64 []) gi59 x (fnK fx59 [go59]) := by kernel_rfl
theorem f59_ok : EntOk P 59 ⟨gi59, [go59], f59⟩ :=
  ent_ok (fn := Go.Proofs.Try.f59) (gi := gi59) (gos := [go59]) (f := f59) (c := c59) (fx := fx59) ⟨Go.Proofs.Try.func59, by kernel_rfl, rfl, by decide +kernel, rfl, rfl⟩ (by kernel_rfl) (Table.ok T22_ok _) hmix (planAt_ok (P := P) (n := Go.Proofs.Try.f59.ntmps) (fx := fx59) (c := c59) (d := 64) (l := []) trivial) f59_eq
noncomputable def T59 : Table := T22.add 59 [⟨gi59, [go59], f59⟩] []
theorem T59_ok : TableOk P T59 := Table.plus T22_ok (es := [⟨gi59, [go59], f59⟩]) ⟨f59_ok, trivial⟩ []

/-! ## 25: (*erasure/bits.Reader).Bits -/
noncomputable def c25 : Code := Func.code Go.Proofs.Try.f25
abbrev gi25 : Sg := ⟨[0, 1], [.lf (.ptr 0 0), .lf (.int .i64)], [some (.box true [.lf (.sl (.int .u8)), .lf (.int .i64), .lf (.int .i64), .lf (.int .i64)])]⟩
abbrev go25 : Sg := ⟨[4, 5], [.lf (.int .i64), .lf (.int .i64)], [some (.box true [.lf (.sl (.int .u8)), .lf (.int .i64), .lf (.int .i64), .lf (.int .i64)])]⟩
def fx25 : List Bool := [true]
abbrev g25_1 : Sg := ⟨[0, 1, 6], [.lf (.ptr 0 0), .lf (.int .i64), .lf (.ifc 43 (.ptr 0 0))], [some (.box true [.lf (.sl (.int .u8)), .lf (.int .i64), .lf (.int .i64), .lf (.int .i64)])]⟩
abbrev o25_1 : Outs := [(.exit 1, ⟨[0, 1], [.lf (.ptr 0 0), .lf (.int .i64)], [some (.box true [.lf (.sl (.int .u8)), .lf (.int .i64), .lf (.int .i64), .lf (.int .i64)])]⟩)]
noncomputable def b25_1 (x : g25_1.D) : Option (outD ((.normal, g25_1) :: o25_1)) :=
  (if ((decide (x.2.2.2.2.1 < x.1)) = true) then (Option.bind (Go.Ev.Inflate.f59 (x.2.1, (x.2.2.1, (x.2.2.2.1, (x.2.2.2.2.1, Unit.unit))))) (fun y1 => (if (y1.2.2.2.2.1 < (0 : Int)) then none
   else (if ((decide (x.2.2.2.1 = y1.2.2.2.1)) = true) then (if ((decide (x.2.2.2.2.1 = y1.2.2.2.2.1)) = true) then (some (Sum.inl (x.1, (y1.2.1, (y1.2.2.1, ((Go.IntKind.wrap Go.IntKind.i64 (((BitVec.toNat ((BitVec.ofInt (64 : Nat) x.2.2.2.1) ||| (BitVec.ofInt (64 : Nat) (Go.IntKind.wrap Go.IntKind.i64 ((Go.IntKind.wrap Go.IntKind.i64 y1.1) * ((2 : Int) ^ (Min.min (Int.toNat y1.2.2.2.2.1) (64 : Nat)))))))) : Nat) : Int)), ((Go.IntKind.wrap Go.IntKind.i64 (y1.2.2.2.2.1 + (8 : Int))), Unit.unit)))))))
   else none)
   else none))))
   else (some (Sum.inr (Sum.inl (x.1, (x.2.1, (x.2.2.1, (x.2.2.2.1, (x.2.2.2.2.1, Unit.unit)))))))))
theorem b25_1_eq (x : g25_1.D) : b25_1 x = evF P (T59.orc _) Go.Proofs.Try.f25.ntmps fx25 (Code.at [true, true, true, false, false, false] c25) (planAt 64 []) g25_1 x (injK fx25 ((.normal, g25_1) :: o25_1) some) := by kernel_rfl
noncomputable def l25_1 : g25_1.D → Option (outD o25_1) := loopN g25_1 o25_1 b25_1 18446744073709551616
theorem at25_1 : Code.at [true, true, true, false, false] c25 = .loop (Code.at [true, true, true, false, false, false] c25) := by kernel_rfl
theorem s25_1_ok : SubOk P Go.Proofs.Try.f25.ntmps fx25 (Code.at [true, true, true, false, false] c25) ⟨g25_1, o25_1, l25_1⟩ := by
  rw [at25_1]
  exact loop_ok (sub_ok (g := g25_1) (outs := ((.normal, g25_1) :: o25_1)) (f := b25_1) (Table.ok T59_ok _) hmix (planAt_ok (P := P) (n := Go.Proofs.Try.f25.ntmps) (fx := fx25) (c := (Code.at [true, true, true, false, false, false] c25)) (d := 64) (l := []) trivial) b25_1_eq) rfl _
noncomputable def f25 (x : gi25.D) : Option go25.D :=
  (if ((decide (x.1 < (0 : Int))) = true) then (some ((0 : Int), ((1 : Int), (x.2.1, (x.2.2.1, (x.2.2.2.1, (x.2.2.2.2.1, Unit.unit)))))))
   else (if ((decide (x.1 > (24 : Int))) = true) then (some ((0 : Int), ((1 : Int), (x.2.1, (x.2.2.1, (x.2.2.2.1, (x.2.2.2.2.1, Unit.unit)))))))
   else (Option.bind (Go.Ev.Inflate.f22 (x.2.1, (x.2.2.1, (x.2.2.2.1, (x.2.2.2.2.1, Unit.unit))))) (fun y1 => (if ((decide (x.1 > y1.1)) = true) then (some ((0 : Int), ((6 : Int), (y1.2.1, (y1.2.2.1, (y1.2.2.2.1, (y1.2.2.2.2.1, Unit.unit)))))))
   else (Option.bind (Go.Ev.Inflate.l25_1 (x.1, (y1.2.1, (y1.2.2.1, (y1.2.2.2.1, (y1.2.2.2.2.1, Unit.unit)))))) (Sum.elim (fun y2 => (if (y2.1 < (0 : Int)) then none
   else (if (y2.1 < (0 : Int)) then none
   else (some ((Go.IntKind.wrap Go.IntKind.i64 (((BitVec.toNat ((BitVec.ofInt (64 : Nat) y2.2.2.2.1) &&& (BitVec.ofInt (64 : Nat) (Go.IntKind.wrap Go.IntKind.i64 ((Go.IntKind.wrap Go.IntKind.i64 ((1 : Int) * ((2 : Int) ^ (Min.min (Int.toNat y2.1) (64 : Nat))))) - (1 : Int)))))) : Nat) : Int)), ((0 : Int), (y2.2.1, (y2.2.2.1, ((Int.fdiv y2.2.2.2.1 ((2 : Int) ^ (Min.min (Int.toNat y2.1) (64 : Nat)))), ((Go.IntKind.wrap Go.IntKind.i64 (y2.2.2.2.2.1 - y2.1)), Unit.unit)))))))))) Empty.elim)))))))
theorem f25_eq (x : gi25.D) : f25 x = evF P (T59.orc _) Go.Proofs.Try.f25.ntmps fx25 c25 (planAt 64 [([true, true, true, false, false], ⟨g25_1, o25_1, l25_1⟩)]) gi25 x (fnK fx25 [go25]) := by kernel_rfl
theorem pf25 : AllSub P Go.Proofs.Try.f25.ntmps fx25 c25 [([true, true, true, false, false], ⟨g25_1, o25_1, l25_1⟩)] := And.intro s25_1_ok (trivial)
theorem qf25 : PlanOk P Go.Proofs.Try.f25.ntmps fx25 (planAt 64 [([true, true, true, false, false], ⟨g25_1, o25_1, l25_1⟩)]) c25 := planAt_ok pf25
theorem f25_ok : EntOk P 25 ⟨gi25, [go25], f25⟩ :=
  ent_ok (fn := Go.Proofs.Try.f25) (gi := gi25) (gos := [go25]) (f := f25) (c := c25) (fx := fx25) ⟨Go.Proofs.Try.func25, by kernel_rfl, rfl, by decide +kernel, rfl, rfl⟩ (by kernel_rfl) (Table.ok T59_ok _) hmix (qf25) f25_eq
noncomputable def T25 : Table := T59.add 25 [⟨gi25, [go25], f25⟩] []
theorem T25_ok : TableOk P T25 := Table.plus T59_ok (es := [⟨gi25, [go25], f25⟩]) ⟨f25_ok, trivial⟩ []

/-! ## 18: (*erasure/inflate.work).numbers -/
noncomputable def c18 : Code := Func.code Go.Proofs.Try.f18
abbrev gi18 : Sg := ⟨[0, 1], [.lf (.ptr 0 0), .lf (.sl (.int .i64))], [some (.box true [.lf (.ptr 1 0), .lf (.gr (.pair (.int .i64) (.pair (.int .i64) (.int .i64))) 2), .lf (.int .i64), .lf (.int .i64)]), some (.box true [.lf (.sl (.int .u8)), .lf (.int .i64), .lf (.int .i64), .lf (.int .i64)]), some (.arr true (.pair (.int .i64) (.pair (.int .i64) (.int .i64))))]⟩
abbrev go18 : Sg := ⟨[4, 5], [.lf (.sl (.int .i64)), .lf (.int .i64)], [some (.box true [.lf (.ptr 1 0), .lf (.gr (.pair (.int .i64) (.pair (.int .i64) (.int .i64))) 2), .lf (.int .i64), .lf (.int .i64)]), some (.box true [.lf (.sl (.int .u8)), .lf (.int .i64), .lf (.int .i64), .lf (.int .i64)]), some (.arr true (.pair (.int .i64) (.pair (.int .i64) (.int .i64))))]⟩
def fx18 : List Bool := [true, true, true]
abbrev g18_1 : Sg := ⟨[0, 6, 11, 12, 13], [.lf (.ptr 0 0), .lf (.gr (.int .i64) 3), .lf (.sl (.int .i64)), .lf (.int .i64), .lf (.int .i64)], [some (.box true [.lf (.ptr 1 0), .lf (.gr (.pair (.int .i64) (.pair (.int .i64) (.int .i64))) 2), .lf (.int .i64), .lf (.int .i64)]), some (.box true [.lf (.sl (.int .u8)), .lf (.int .i64), .lf (.int .i64), .lf (.int .i64)]), some (.arr true (.pair (.int .i64) (.pair (.int .i64) (.int .i64)))), some (.arr true (.int .i64))]⟩
abbrev o18_1 : Outs := [(.exit 0, ⟨[6], [.lf (.gr (.int .i64) 3)], [some (.box true [.lf (.ptr 1 0), .lf (.gr (.pair (.int .i64) (.pair (.int .i64) (.int .i64))) 2), .lf (.int .i64), .lf (.int .i64)]), some (.box true [.lf (.sl (.int .u8)), .lf (.int .i64), .lf (.int .i64), .lf (.int .i64)]), some (.arr true (.pair (.int .i64) (.pair (.int .i64) (.int .i64)))), some (.arr true (.int .i64))]⟩), (.ret, ⟨[4, 5], [.lf (.sl (.int .i64)), .lf (.int .i64)], [some (.box true [.lf (.ptr 1 0), .lf (.gr (.pair (.int .i64) (.pair (.int .i64) (.int .i64))) 2), .lf (.int .i64), .lf (.int .i64)]), some (.box true [.lf (.sl (.int .u8)), .lf (.int .i64), .lf (.int .i64), .lf (.int .i64)]), some (.arr true (.pair (.int .i64) (.pair (.int .i64) (.int .i64))))]⟩)]
noncomputable def b18_1 (x : g18_1.D) : Option (outD ((.normal, g18_1) :: o18_1)) :=
  (if ((decide (x.2.2.1 < x.2.1)) = true) then (if ((0 : Int) ≤ x.2.2.1) then (if (x.2.2.1 < (((List.length x.1) : Nat) : Int)) then (Option.bind (Go.Ev.Inflate.f25 ((List.getD x.1 (Int.toNat x.2.2.1) (0 : Int)), (x.2.2.2.2.2.1, (x.2.2.2.2.2.2.1, (x.2.2.2.2.2.2.2.1, (x.2.2.2.2.2.2.2.2.1, Unit.unit)))))) (fun y1 => (if ((y1.2.1 != (0 : Int)) = true) then (if ((List.length x.2.2.2.2.2.2.2.2.2.1) = (List.length x.2.2.2.2.2.2.2.2.2.1)) then (some (Sum.inr (Sum.inr (Sum.inl ([], (y1.2.1, (x.2.2.2.1, (x.2.2.2.2.1, (y1.2.2.1, (y1.2.2.2.1, (y1.2.2.2.2.1, (y1.2.2.2.2.2.1, (x.2.2.2.2.2.2.2.2.2.1, Unit.unit)))))))))))))
   else none)
   else (if (((List.length (List.take (List.length x.2.2.2.2.2.2.2.2.2.2.1) (List.drop (0 : Nat) x.2.2.2.2.2.2.2.2.2.2.1))) + (List.length (List.take (1 : Nat) (List.drop (0 : Nat) (List.set (List.replicate (1 : Nat) (0 : Int)) (0 : Nat) y1.1))))) ≤ (17592186044416 : Nat)) then (if ((List.length ((List.take (List.length x.2.2.2.2.2.2.2.2.2.2.1) (List.drop (0 : Nat) x.2.2.2.2.2.2.2.2.2.2.1)) ++ (List.take (1 : Nat) (List.drop (0 : Nat) (List.set (List.replicate (1 : Nat) (0 : Int)) (0 : Nat) y1.1))))) = (List.length ((List.take (List.length x.2.2.2.2.2.2.2.2.2.2.1) (List.drop (0 : Nat) x.2.2.2.2.2.2.2.2.2.2.1)) ++ (List.take (1 : Nat) (List.drop (0 : Nat) (List.set (List.replicate (1 : Nat) (0 : Int)) (0 : Nat) y1.1)))))) then (if ((List.length x.2.2.2.2.2.2.2.2.2.1) = (List.length x.2.2.2.2.2.2.2.2.2.1)) then (some (Sum.inl (x.1, (x.2.1, ((Go.IntKind.wrap Go.IntKind.i64 (x.2.2.1 + (1 : Int))), (x.2.2.2.1, (x.2.2.2.2.1, (y1.2.2.1, (y1.2.2.2.1, (y1.2.2.2.2.1, (y1.2.2.2.2.2.1, (x.2.2.2.2.2.2.2.2.2.1, (((List.take (List.length x.2.2.2.2.2.2.2.2.2.2.1) (List.drop (0 : Nat) x.2.2.2.2.2.2.2.2.2.2.1)) ++ (List.take (1 : Nat) (List.drop (0 : Nat) (List.set (List.replicate (1 : Nat) (0 : Int)) (0 : Nat) y1.1)))), Unit.unit)))))))))))))
   else none)
   else none)
   else none))))
   else none)
   else none)
   else (if ((List.length x.2.2.2.2.2.2.2.2.2.2.1) = (List.length x.2.2.2.2.2.2.2.2.2.2.1)) then (if ((List.length x.2.2.2.2.2.2.2.2.2.1) = (List.length x.2.2.2.2.2.2.2.2.2.1)) then (some (Sum.inr (Sum.inl (x.2.2.2.1, (x.2.2.2.2.1, (x.2.2.2.2.2.1, (x.2.2.2.2.2.2.1, (x.2.2.2.2.2.2.2.1, (x.2.2.2.2.2.2.2.2.1, (x.2.2.2.2.2.2.2.2.2.1, (x.2.2.2.2.2.2.2.2.2.2.1, Unit.unit)))))))))))
   else none)
   else none))
theorem b18_1_eq (x : g18_1.D) : b18_1 x = evF P (T25.orc _) Go.Proofs.Try.f18.ntmps fx18 (Code.at [true, true, false, true, false, false] c18) (planAt 64 []) g18_1 x (injK fx18 ((.normal, g18_1) :: o18_1) some) := by kernel_rfl
noncomputable def l18_1 : g18_1.D → Option (outD o18_1) := loopN g18_1 o18_1 b18_1 18446744073709551616
theorem at18_1 : Code.at [true, true, false, true, false] c18 = .loop (Code.at [true, true, false, true, false, false] c18) := by kernel_rfl
theorem s18_1_ok : SubOk P Go.Proofs.Try.f18.ntmps fx18 (Code.at [true, true, false, true, false] c18) ⟨g18_1, o18_1, l18_1⟩ := by
  rw [at18_1]
  exact loop_ok (sub_ok (g := g18_1) (outs := ((.normal, g18_1) :: o18_1)) (f := b18_1) (Table.ok T25_ok _) hmix (planAt_ok (P := P) (n := Go.Proofs.Try.f18.ntmps) (fx := fx18) (c := (Code.at [true, true, false, true, false, false] c18)) (d := 64) (l := []) trivial) b18_1_eq) rfl _
noncomputable def f18 (x : gi18.D) : Option go18.D :=
  (if ((List.length x.2.2.2.2.2.2.2.1) = (List.length x.2.2.2.2.2.2.2.1)) then (Option.bind (Go.Ev.Inflate.l18_1 (x.1, ((((List.length x.1) : Nat) : Int), ((0 : Int), (x.2.1, (x.2.2.1, (x.2.2.2.1, (x.2.2.2.2.1, (x.2.2.2.2.2.1, (x.2.2.2.2.2.2.1, (x.2.2.2.2.2.2.2.1, ([], Unit.unit)))))))))))) (Sum.elim (fun y1 => (if ((List.length y1.2.2.2.2.2.2.1) = (List.length y1.2.2.2.2.2.2.1)) then (some ((List.take (List.length y1.2.2.2.2.2.2.2.1) (List.drop (0 : Nat) y1.2.2.2.2.2.2.2.1)), ((0 : Int), (y1.1, (y1.2.1, (y1.2.2.1, (y1.2.2.2.1, (y1.2.2.2.2.1, (y1.2.2.2.2.2.1, (y1.2.2.2.2.2.2.1, Unit.unit))))))))))
   else none)) (Sum.elim (fun y1 => (if ((List.length y1.2.2.2.2.2.2.2.2.1) = (List.length y1.2.2.2.2.2.2.2.2.1)) then (some (y1.1, (y1.2.1, (y1.2.2.1, (y1.2.2.2.1, (y1.2.2.2.2.1, (y1.2.2.2.2.2.1, (y1.2.2.2.2.2.2.1, (y1.2.2.2.2.2.2.2.1, (y1.2.2.2.2.2.2.2.2.1, Unit.unit))))))))))
   else none)) Empty.elim)))
   else none)
theorem f18_eq (x : gi18.D) : f18 x = evF P (T25.orc _) Go.Proofs.Try.f18.ntmps fx18 c18 (planAt 64 [([true, true, false, true, false], ⟨g18_1, o18_1, l18_1⟩)]) gi18 x (fnK fx18 [go18]) := by kernel_rfl
theorem pf18 : AllSub P Go.Proofs.Try.f18.ntmps fx18 c18 [([true, true, false, true, false], ⟨g18_1, o18_1, l18_1⟩)] := And.intro s18_1_ok (trivial)
theorem qf18 : PlanOk P Go.Proofs.Try.f18.ntmps fx18 (planAt 64 [([true, true, false, true, false], ⟨g18_1, o18_1, l18_1⟩)]) c18 := planAt_ok pf18
theorem f18_ok : EntOk P 18 ⟨gi18, [go18], f18⟩ :=
  ent_ok (fn := Go.Proofs.Try.f18) (gi := gi18) (gos := [go18]) (f := f18) (c := c18) (fx := fx18) ⟨Go.Proofs.Try.func18, by kernel_rfl, rfl, by decide +kernel, rfl, rfl⟩ (by kernel_rfl) (Table.ok T25_ok _) hmix (qf18) f18_eq
noncomputable def T18 : Table := T25.add 18 [⟨gi18, [go18], f18⟩] []
theorem T18_ok : TableOk P T18 := Table.plus T25_ok (es := [⟨gi18, [go18], f18⟩]) ⟨f18_ok, trivial⟩ []

/-! ## 26: (*erasure/bits.Reader).Align -/
noncomputable def c26 : Code := Func.code Go.Proofs.Try.f26
abbrev gi26 : Sg := ⟨[0], [.lf (.ptr 0 0)], [some (.box true [.lf (.sl (.int .u8)), .lf (.int .i64), .lf (.int .i64), .lf (.int .i64)])]⟩
abbrev go26 : Sg := ⟨[2], [.lf (.int .i64)], [some (.box true [.lf (.sl (.int .u8)), .lf (.int .i64), .lf (.int .i64), .lf (.int .i64)])]⟩
def fx26 : List Bool := [true]
noncomputable def f26 (x : gi26.D) : Option go26.D :=
  (some ((0 : Int), (x.1, ((Go.IntKind.wrap Go.IntKind.i64 (x.2.1 - (Go.IntKind.wrap Go.IntKind.i64 (Int.tdiv x.2.2.2.1 (8 : Int))))), ((0 : Int), ((0 : Int), Unit.unit))))))
theorem f26_eq (x : gi26.D) : f26 x = evF P (T18.orc _) Go.Proofs.Try.f26.ntmps fx26 c26 (planAt 64 []) gi26 x (fnK fx26 [go26]) := by kernel_rfl
theorem f26_ok : EntOk P 26 ⟨gi26, [go26], f26⟩ :=
  ent_ok (fn := Go.Proofs.Try.f26) (gi := gi26) (gos := [go26]) (f := f26) (c := c26) (fx := fx26) ⟨Go.Proofs.Try.func26, by kernel_rfl, rfl, by decide +kernel, rfl, rfl⟩ (by kernel_rfl) (Table.ok T18_ok _) hmix (planAt_ok (P := P) (n := Go.Proofs.Try.f26.ntmps) (fx := fx26) (c := c26) (d := 64) (l := []) trivial) f26_eq
noncomputable def T26 : Table := T18.add 26 [⟨gi26, [go26], f26⟩] []
theorem T26_ok : TableOk P T26 := Table.plus T18_ok (es := [⟨gi26, [go26], f26⟩]) ⟨f26_ok, trivial⟩ []

/-! ## 27: (*erasure/bits.Reader).Bytes -/
noncomputable def c27 : Code := Func.code Go.Proofs.Try.f27
abbrev gi27 : Sg := ⟨[0, 1], [.lf (.ptr 0 0), .lf (.int .i64)], [some (.box true [.lf (.sl (.int .u8)), .lf (.int .i64), .lf (.int .i64), .lf (.int .i64)])]⟩
abbrev go27 : Sg := ⟨[4, 5], [.lf (.gr (.int .u8) 1), .lf (.int .i64)], [some (.box true [.lf (.sl (.int .u8)), .lf (.int .i64), .lf (.int .i64), .lf (.int .i64)]), some (.arr true (.int .u8))]⟩
def fx27 : List Bool := [true]
noncomputable def f27 (x : gi27.D) : Option go27.D :=
  (if ((decide (x.1 < (0 : Int))) = true) then (some ((1 : Int), (x.2.1, (x.2.2.1, (x.2.2.2.1, (x.2.2.2.2.1, ([], Unit.unit)))))))
   else (Option.bind (Go.Ev.Inflate.f26 (x.2.1, (x.2.2.1, (x.2.2.2.1, (x.2.2.2.2.1, Unit.unit))))) (fun y1 => (if ((decide (x.1 > (Go.IntKind.wrap Go.IntKind.i64 ((((List.length y1.2.1) : Nat) : Int) - y1.2.2.1)))) = true) then (some ((6 : Int), (y1.2.1, (y1.2.2.1, (y1.2.2.2.1, (y1.2.2.2.2.1, ([], Unit.unit)))))))
   else (if ((0 : Int) ≤ (Go.IntKind.wrap Go.IntKind.i64 (y1.2.2.1 + x.1))) then (if ((Go.IntKind.wrap Go.IntKind.i64 (y1.2.2.1 + x.1)) ≤ (((List.length y1.2.1) : Nat) : Int)) then (if ((0 : Int) ≤ (Go.IntKind.wrap Go.IntKind.i64 ((Go.IntKind.wrap Go.IntKind.i64 (y1.2.2.1 + x.1)) - x.1))) then (if ((Go.IntKind.wrap Go.IntKind.i64 ((Go.IntKind.wrap Go.IntKind.i64 (y1.2.2.1 + x.1)) - x.1)) ≤ (((Int.toNat (Go.IntKind.wrap Go.IntKind.i64 (y1.2.2.1 + x.1))) : Nat) : Int)) then (Option.bind (Go.Ev.Inflate.f24 ((List.drop (Int.toNat (Go.IntKind.wrap Go.IntKind.i64 ((Go.IntKind.wrap Go.IntKind.i64 (y1.2.2.1 + x.1)) - x.1))) (List.take (Int.toNat (Go.IntKind.wrap Go.IntKind.i64 (y1.2.2.1 + x.1))) y1.2.1)), Unit.unit)) (fun y2 => (if ((List.length y2.1) = (List.length y2.1)) then (some ((0 : Int), (y1.2.1, ((Go.IntKind.wrap Go.IntKind.i64 (y1.2.2.1 + x.1)), (y1.2.2.2.1, (y1.2.2.2.2.1, (y2.1, Unit.unit)))))))
   else none)))
   else none)
   else none)
   else none)
   else none)))))
theorem f27_eq (x : gi27.D) : f27 x = evF P (T26.orc _) Go.Proofs.Try.f27.ntmps fx27 c27 (planAt 64 []) gi27 x (fnK fx27 [go27]) := by kernel_rfl
theorem f27_ok : EntOk P 27 ⟨gi27, [go27], f27⟩ :=
  ent_ok (fn := Go.Proofs.Try.f27) (gi := gi27) (gos := [go27]) (f := f27) (c := c27) (fx := fx27) ⟨Go.Proofs.Try.func27, by kernel_rfl, rfl, by decide +kernel, rfl, rfl⟩ (by kernel_rfl) (Table.ok T26_ok _) hmix (planAt_ok (P := P) (n := Go.Proofs.Try.f27.ntmps) (fx := fx27) (c := c27) (d := 64) (l := []) trivial) f27_eq
noncomputable def T27 : Table := T26.add 27 [⟨gi27, [go27], f27⟩] []
theorem T27_ok : TableOk P T27 := Table.plus T26_ok (es := [⟨gi27, [go27], f27⟩]) ⟨f27_ok, trivial⟩ []

/-! ## 28: (*erasure/inflate.work).add -/
noncomputable def c28 : Code := Func.code Go.Proofs.Try.f28
abbrev gi28 : Sg := ⟨[0, 1], [.lf (.ptr 0 0), .agg [.lf (.int .i64), .lf (.int .i64), .lf (.int .i64)]], [some (.box true [.lf (.ptr 1 0), .lf (.gr (.pair (.int .i64) (.pair (.int .i64) (.int .i64))) 2), .lf (.int .i64), .lf (.int .i64)]), some (.box true [.lf (.sl (.int .u8)), .lf (.int .i64), .lf (.int .i64), .lf (.int .i64)]), some (.arr true (.pair (.int .i64) (.pair (.int .i64) (.int .i64))))]⟩
abbrev go28 : Sg := ⟨[4], [.lf (.int .i64)], [some (.box true [.lf (.ptr 1 0), .lf (.gr (.pair (.int .i64) (.pair (.int .i64) (.int .i64))) 3), .lf (.int .i64), .lf (.int .i64)]), some (.box true [.lf (.sl (.int .u8)), .lf (.int .i64), .lf (.int .i64), .lf (.int .i64)]), none, some (.arr true (.pair (.int .i64) (.pair (.int .i64) (.int .i64))))]⟩
def fx28 : List Bool := [true, true, false]
noncomputable def f28 (x : gi28.D) : Option go28.D :=
  (if ((decide (x.2.2.1 > x.2.2.2.1)) = true) then (if ((List.length x.2.2.2.2.2.2.2.2.2.1) = (List.length x.2.2.2.2.2.2.2.2.2.1)) then (some ((4 : Int), (x.2.2.2.1, (x.2.2.2.2.1, (x.2.2.2.2.2.1, (x.2.2.2.2.2.2.1, (x.2.2.2.2.2.2.2.1, (x.2.2.2.2.2.2.2.2.1, (x.2.2.2.2.2.2.2.2.2.1, Unit.unit)))))))))
   else none)
   else (if ((decide ((Go.IntKind.wrap Go.IntKind.i64 (x.2.2.2.1 + (Max.max x.2.1 (1 : Int)))) > x.2.2.2.2.1)) = true) then (if ((List.length x.2.2.2.2.2.2.2.2.2.1) = (List.length x.2.2.2.2.2.2.2.2.2.1)) then (some ((2 : Int), (x.2.2.2.1, (x.2.2.2.2.1, (x.2.2.2.2.2.1, (x.2.2.2.2.2.2.1, (x.2.2.2.2.2.2.2.1, (x.2.2.2.2.2.2.2.2.1, (x.2.2.2.2.2.2.2.2.2.1, Unit.unit)))))))))
   else none)
   else (if (((List.length (List.take (List.length x.2.2.2.2.2.2.2.2.2.1) (List.drop (0 : Nat) x.2.2.2.2.2.2.2.2.2.1))) + (List.length (List.take (1 : Nat) (List.drop (0 : Nat) (List.set (List.replicate (1 : Nat) ((0 : Int), ((0 : Int), (0 : Int)))) (0 : Nat) (x.1, (x.2.1, x.2.2.1))))))) ≤ (5864062014805 : Nat)) then (if ((List.length ((List.take (List.length x.2.2.2.2.2.2.2.2.2.1) (List.drop (0 : Nat) x.2.2.2.2.2.2.2.2.2.1)) ++ (List.take (1 : Nat) (List.drop (0 : Nat) (List.set (List.replicate (1 : Nat) ((0 : Int), ((0 : Int), (0 : Int)))) (0 : Nat) (x.1, (x.2.1, x.2.2.1))))))) = (List.length ((List.take (List.length x.2.2.2.2.2.2.2.2.2.1) (List.drop (0 : Nat) x.2.2.2.2.2.2.2.2.2.1)) ++ (List.take (1 : Nat) (List.drop (0 : Nat) (List.set (List.replicate (1 : Nat) ((0 : Int), ((0 : Int), (0 : Int)))) (0 : Nat) (x.1, (x.2.1, x.2.2.1)))))))) then (some ((0 : Int), ((Go.IntKind.wrap Go.IntKind.i64 (x.2.2.2.1 + (Max.max x.2.1 (1 : Int)))), (x.2.2.2.2.1, (x.2.2.2.2.2.1, (x.2.2.2.2.2.2.1, (x.2.2.2.2.2.2.2.1, (x.2.2.2.2.2.2.2.2.1, (((List.take (List.length x.2.2.2.2.2.2.2.2.2.1) (List.drop (0 : Nat) x.2.2.2.2.2.2.2.2.2.1)) ++ (List.take (1 : Nat) (List.drop (0 : Nat) (List.set (List.replicate (1 : Nat) ((0 : Int), ((0 : Int), (0 : Int)))) (0 : Nat) (x.1, (x.2.1, x.2.2.1)))))), Unit.unit)))))))))
   else none)
   else none)))
theorem f28_eq (x : gi28.D) : f28 x = evF P (T27.orc _) Go.Proofs.Try.f28.ntmps fx28 c28 (planAt 64 []) gi28 x (fnK fx28 [go28]) := by kernel_rfl
theorem f28_ok : EntOk P 28 ⟨gi28, [go28], f28⟩ :=
  ent_ok (fn := Go.Proofs.Try.f28) (gi := gi28) (gos := [go28]) (f := f28) (c := c28) (fx := fx28) ⟨Go.Proofs.Try.func28, by kernel_rfl, rfl, by decide +kernel, rfl, rfl⟩ (by kernel_rfl) (Table.ok T27_ok _) hmix (planAt_ok (P := P) (n := Go.Proofs.Try.f28.ntmps) (fx := fx28) (c := c28) (d := 64) (l := []) trivial) f28_eq
noncomputable def T28 : Table := T27.add 28 [⟨gi28, [go28], f28⟩] []
theorem T28_ok : TableOk P T28 := Table.plus T27_ok (es := [⟨gi28, [go28], f28⟩]) ⟨f28_ok, trivial⟩ []

/-! ## 19: (*erasure/inflate.work).stored -/
noncomputable def c19 : Code := Func.code Go.Proofs.Try.f19
abbrev gi19 : Sg := ⟨[0], [.lf (.ptr 0 0)], [some (.box true [.lf (.ptr 1 0), .lf (.gr (.pair (.int .i64) (.pair (.int .i64) (.int .i64))) 2), .lf (.int .i64), .lf (.int .i64)]), some (.box true [.lf (.sl (.int .u8)), .lf (.int .i64), .lf (.int .i64), .lf (.int .i64)]), some (.arr true (.pair (.int .i64) (.pair (.int .i64) (.int .i64))))]⟩
abbrev go19 : Sg := ⟨[2], [.lf (.int .i64)], [some (.box true [.lf (.ptr 1 0), .lf (.gr (.pair (.int .i64) (.pair (.int .i64) (.int .i64))) 3), .lf (.int .i64), .lf (.int .i64)]), some (.box true [.lf (.sl (.int .u8)), .lf (.int .i64), .lf (.int .i64), .lf (.int .i64)]), none, some (.arr true (.pair (.int .i64) (.pair (.int .i64) (.int .i64))))]⟩
def fx19 : List Bool := [true, true, false]
abbrev g19_1 : Sg := ⟨[0, 60, 61, 62], [.lf (.ptr 0 0), .lf (.sl (.int .u8)), .lf (.int .i64), .lf (.int .i64)], [some (.box true [.lf (.ptr 1 0), .lf (.gr (.pair (.int .i64) (.pair (.int .i64) (.int .i64))) 3), .lf (.int .i64), .lf (.int .i64)]), some (.box true [.lf (.sl (.int .u8)), .lf (.int .i64), .lf (.int .i64), .lf (.int .i64)]), none, some (.arr true (.pair (.int .i64) (.pair (.int .i64) (.int .i64))))]⟩
abbrev o19_1 : Outs := [(.exit 2, ⟨[], [], [some (.box true [.lf (.ptr 1 0), .lf (.gr (.pair (.int .i64) (.pair (.int .i64) (.int .i64))) 3), .lf (.int .i64), .lf (.int .i64)]), some (.box true [.lf (.sl (.int .u8)), .lf (.int .i64), .lf (.int .i64), .lf (.int .i64)]), none, some (.arr true (.pair (.int .i64) (.pair (.int .i64) (.int .i64))))]⟩)]
noncomputable def b19_1 (x : g19_1.D) : Option (outD ((.normal, g19_1) :: o19_1)) :=
  (if ((decide (x.2.2.1 < x.2.1)) = true) then (if ((0 : Int) ≤ x.2.2.1) then (if (x.2.2.1 < (((List.length x.1) : Nat) : Int)) then (if ((List.length x.2.2.2.2.2.2.2.2.2.1) = (List.length x.2.2.2.2.2.2.2.2.2.1)) then (Option.bind (Go.Ev.Inflate.f28 ((Go.IntKind.wrap Go.IntKind.i64 (List.getD x.1 (Int.toNat x.2.2.1) (0 : Int))), ((0 : Int), ((0 : Int), (x.2.2.2.1, (x.2.2.2.2.1, (x.2.2.2.2.2.1, (x.2.2.2.2.2.2.1, (x.2.2.2.2.2.2.2.1, (x.2.2.2.2.2.2.2.2.1, (x.2.2.2.2.2.2.2.2.2.1, Unit.unit))))))))))) (fun y1 => (if ((List.length y1.2.2.2.2.2.2.2.1) = (List.length y1.2.2.2.2.2.2.2.1)) then (some (Sum.inl (x.1, (x.2.1, ((Go.IntKind.wrap Go.IntKind.i64 (x.2.2.1 + (1 : Int))), (y1.2.1, (y1.2.2.1, (y1.2.2.2.1, (y1.2.2.2.2.1, (y1.2.2.2.2.2.1, (y1.2.2.2.2.2.2.1, (y1.2.2.2.2.2.2.2.1, Unit.unit))))))))))))
   else none)))
   else none)
   else none)
   else none)
   else (if ((List.length x.2.2.2.2.2.2.2.2.2.1) = (List.length x.2.2.2.2.2.2.2.2.2.1)) then (some (Sum.inr (Sum.inl (x.2.2.2.1, (x.2.2.2.2.1, (x.2.2.2.2.2.1, (x.2.2.2.2.2.2.1, (x.2.2.2.2.2.2.2.1, (x.2.2.2.2.2.2.2.2.1, (x.2.2.2.2.2.2.2.2.2.1, Unit.unit))))))))))
   else none))
theorem b19_1_eq (x : g19_1.D) : b19_1 x = evF P (T28.orc _) Go.Proofs.Try.f19.ntmps fx19 (Code.at [true, true, true, true, true, true, false, true, false, false] c19) (planAt 64 []) g19_1 x (injK fx19 ((.normal, g19_1) :: o19_1) some) := by kernel_rfl
noncomputable def l19_1 : g19_1.D → Option (outD o19_1) := loopN g19_1 o19_1 b19_1 18446744073709551616
theorem at19_1 : Code.at [true, true, true, true, true, true, false, true, false] c19 = .loop (Code.at [true, true, true, true, true, true, false, true, false, false] c19) := by kernel_rfl
theorem s19_1_ok : SubOk P Go.Proofs.Try.f19.ntmps fx19 (Code.at [true, true, true, true, true, true, false, true, false] c19) ⟨g19_1, o19_1, l19_1⟩ := by
  rw [at19_1]
  exact loop_ok (sub_ok (g := g19_1) (outs := ((.normal, g19_1) :: o19_1)) (f := b19_1) (Table.ok T28_ok _) hmix (planAt_ok (P := P) (n := Go.Proofs.Try.f19.ntmps) (fx := fx19) (c := (Code.at [true, true, true, true, true, true, false, true, false, false] c19)) (d := 64) (l := []) trivial) b19_1_eq) rfl _
noncomputable def f19 (x : gi19.D) : Option go19.D :=
  (Option.bind (Go.Ev.Inflate.f26 (x.2.2.1, (x.2.2.2.1, (x.2.2.2.2.1, (x.2.2.2.2.2.1, Unit.unit))))) (fun y1 => (if ((List.length x.2.2.2.2.2.2.1) = (List.length x.2.2.2.2.2.2.1)) then (Option.bind (Go.Ev.Inflate.f18 ((List.take (2 : Nat) (List.drop (0 : Nat) (List.set (List.set (List.replicate (2 : Nat) (0 : Int)) (0 : Nat) (16 : Int)) (1 : Nat) (16 : Int)))), (x.1, (x.2.1, (y1.2.1, (y1.2.2.1, (y1.2.2.2.1, (y1.2.2.2.2.1, (x.2.2.2.2.2.2.1, Unit.unit))))))))) (fun y2 => (if ((y2.2.1 != (0 : Int)) = true) then (if ((List.length y2.2.2.2.2.2.2.2.2.1) = (List.length y2.2.2.2.2.2.2.2.2.1)) then (some (y2.2.1, (y2.2.2.1, (y2.2.2.2.1, (y2.2.2.2.2.1, (y2.2.2.2.2.2.1, (y2.2.2.2.2.2.2.1, (y2.2.2.2.2.2.2.2.1, (y2.2.2.2.2.2.2.2.2.1, Unit.unit)))))))))
   else none)
   else (if ((0 : Int) < (((List.length y2.1) : Nat) : Int)) then (if ((1 : Int) < (((List.length y2.1) : Nat) : Int)) then (if (((Go.IntKind.wrap Go.IntKind.i64 (((BitVec.toNat ((BitVec.ofInt (64 : Nat) (List.getD y2.1 (0 : Nat) (0 : Int))) ^^^ (BitVec.ofInt (64 : Nat) (List.getD y2.1 (1 : Nat) (0 : Int))))) : Nat) : Int)) != (65535 : Int)) = true) then (if ((List.length y2.2.2.2.2.2.2.2.2.1) = (List.length y2.2.2.2.2.2.2.2.2.1)) then (some ((4 : Int), (y2.2.2.1, (y2.2.2.2.1, (y2.2.2.2.2.1, (y2.2.2.2.2.2.1, (y2.2.2.2.2.2.2.1, (y2.2.2.2.2.2.2.2.1, (y2.2.2.2.2.2.2.2.2.1, Unit.unit)))))))))
   else none)
   else (if ((0 : Int) < (((List.length y2.1) : Nat) : Int)) then (Option.bind (Go.Ev.Inflate.f27 ((List.getD y2.1 (0 : Nat) (0 : Int)), (y2.2.2.2.2.1, (y2.2.2.2.2.2.1, (y2.2.2.2.2.2.2.1, (y2.2.2.2.2.2.2.2.1, Unit.unit)))))) (fun y3 => (if ((y3.1 != (0 : Int)) = true) then (if ((List.length y2.2.2.2.2.2.2.2.2.1) = (List.length y2.2.2.2.2.2.2.2.2.1)) then (some (y3.1, (y2.2.2.1, (y2.2.2.2.1, (y3.2.1, (y3.2.2.1, (y3.2.2.2.1, (y3.2.2.2.2.1, (y2.2.2.2.2.2.2.2.2.1, Unit.unit)))))))))
   else none)
   else (if ((decide ((Go.IntKind.wrap Go.IntKind.i64 (y2.2.2.1 + (((List.length y3.2.2.2.2.2.1) : Nat) : Int))) > y2.2.2.2.1)) = true) then (if ((List.length y2.2.2.2.2.2.2.2.2.1) = (List.length y2.2.2.2.2.2.2.2.2.1)) then (some ((2 : Int), (y2.2.2.1, (y2.2.2.2.1, (y3.2.1, (y3.2.2.1, (y3.2.2.2.1, (y3.2.2.2.2.1, (y2.2.2.2.2.2.2.2.2.1, Unit.unit)))))))))
   else none)
   else (if ((List.length y2.2.2.2.2.2.2.2.2.1) = (List.length y2.2.2.2.2.2.2.2.2.1)) then (Option.bind (Go.Ev.Inflate.l19_1 ((List.take (List.length y3.2.2.2.2.2.1) (List.drop (0 : Nat) y3.2.2.2.2.2.1)), ((((List.length y3.2.2.2.2.2.1) : Nat) : Int), ((0 : Int), (y2.2.2.1, (y2.2.2.2.1, (y3.2.1, (y3.2.2.1, (y3.2.2.2.1, (y3.2.2.2.2.1, (y2.2.2.2.2.2.2.2.2.1, Unit.unit))))))))))) (Sum.elim (fun y4 => (if ((List.length y4.2.2.2.2.2.2.1) = (List.length y4.2.2.2.2.2.2.1)) then (some ((0 : Int), (y4.1, (y4.2.1, (y4.2.2.1, (y4.2.2.2.1, (y4.2.2.2.2.1, (y4.2.2.2.2.2.1, (y4.2.2.2.2.2.2.1, Unit.unit)))))))))
   else none)) Empty.elim))
   else none)))))
   else none))
   else none)
   else none))))
   else none)))
theorem f19_eq (x : gi19.D) : f19 x = evF P (T28.orc _) Go.Proofs.Try.f19.ntmps fx19 c19 (planAt 64 [([true, true, true, true, true, true, false, true, false], ⟨g19_1, o19_1, l19_1⟩)]) gi19 x (fnK fx19 [go19]) := by kernel_rfl
theorem pf19 : AllSub P Go.Proofs.Try.f19.ntmps fx19 c19 [([true, true, true, true, true, true, false, true, false], ⟨g19_1, o19_1, l19_1⟩)] := And.intro s19_1_ok (trivial)
theorem qf19 : PlanOk P Go.Proofs.Try.f19.ntmps fx19 (planAt 64 [([true, true, true, true, true, true, false, true, false], ⟨g19_1, o19_1, l19_1⟩)]) c19 := planAt_ok pf19
theorem f19_ok : EntOk P 19 ⟨gi19, [go19], f19⟩ :=
  ent_ok (fn := Go.Proofs.Try.f19) (gi := gi19) (gos := [go19]) (f := f19) (c := c19) (fx := fx19) ⟨Go.Proofs.Try.func19, by kernel_rfl, rfl, by decide +kernel, rfl, rfl⟩ (by kernel_rfl) (Table.ok T28_ok _) hmix (qf19) f19_eq
noncomputable def T19 : Table := T28.add 19 [⟨gi19, [go19], f19⟩] []
theorem T19_ok : TableOk P T19 := Table.plus T28_ok (es := [⟨gi19, [go19], f19⟩]) ⟨f19_ok, trivial⟩ []

/-! ## 43: math/bits.Mul64 -/
noncomputable def c43 : Code := Func.code Go.Proofs.Try.f43
abbrev gi43 : Sg := ⟨[0, 1], [.lf (.int .u64), .lf (.int .u64)], []⟩
abbrev go43 : Sg := ⟨[4, 5], [.lf (.int .u64), .lf (.int .u64)], []⟩
def fx43 : List Bool := []
noncomputable def f43 (x : gi43.D) : Option go43.D :=
  (some ((Go.IntKind.wrap Go.IntKind.u64 ((Go.IntKind.wrap Go.IntKind.u64 ((Go.IntKind.wrap Go.IntKind.u64 ((Int.fdiv x.1 (4294967296 : Int)) * (Int.fdiv x.2.1 (4294967296 : Int)))) + (Int.fdiv (Go.IntKind.wrap Go.IntKind.u64 ((Go.IntKind.wrap Go.IntKind.u64 ((Int.fdiv x.1 (4294967296 : Int)) * (Go.IntKind.wrap Go.IntKind.u64 (((BitVec.toNat ((BitVec.ofInt (64 : Nat) x.2.1) &&& (BitVec.ofInt (64 : Nat) (4294967295 : Int)))) : Nat) : Int)))) + (Int.fdiv (Go.IntKind.wrap Go.IntKind.u64 ((Go.IntKind.wrap Go.IntKind.u64 (((BitVec.toNat ((BitVec.ofInt (64 : Nat) x.1) &&& (BitVec.ofInt (64 : Nat) (4294967295 : Int)))) : Nat) : Int)) * (Go.IntKind.wrap Go.IntKind.u64 (((BitVec.toNat ((BitVec.ofInt (64 : Nat) x.2.1) &&& (BitVec.ofInt (64 : Nat) (4294967295 : Int)))) : Nat) : Int)))) (4294967296 : Int)))) (4294967296 : Int)))) + (Int.fdiv (Go.IntKind.wrap Go.IntKind.u64 ((Go.IntKind.wrap Go.IntKind.u64 (((BitVec.toNat ((BitVec.ofInt (64 : Nat) (Go.IntKind.wrap Go.IntKind.u64 ((Go.IntKind.wrap Go.IntKind.u64 ((Int.fdiv x.1 (4294967296 : Int)) * (Go.IntKind.wrap Go.IntKind.u64 (((BitVec.toNat ((BitVec.ofInt (64 : Nat) x.2.1) &&& (BitVec.ofInt (64 : Nat) (4294967295 : Int)))) : Nat) : Int)))) + (Int.fdiv (Go.IntKind.wrap Go.IntKind.u64 ((Go.IntKind.wrap Go.IntKind.u64 (((BitVec.toNat ((BitVec.ofInt (64 : Nat) x.1) &&& (BitVec.ofInt (64 : Nat) (4294967295 : Int)))) : Nat) : Int)) * (Go.IntKind.wrap Go.IntKind.u64 (((BitVec.toNat ((BitVec.ofInt (64 : Nat) x.2.1) &&& (BitVec.ofInt (64 : Nat) (4294967295 : Int)))) : Nat) : Int)))) (4294967296 : Int))))) &&& (BitVec.ofInt (64 : Nat) (4294967295 : Int)))) : Nat) : Int)) + (Go.IntKind.wrap Go.IntKind.u64 ((Go.IntKind.wrap Go.IntKind.u64 (((BitVec.toNat ((BitVec.ofInt (64 : Nat) x.1) &&& (BitVec.ofInt (64 : Nat) (4294967295 : Int)))) : Nat) : Int)) * (Int.fdiv x.2.1 (4294967296 : Int)))))) (4294967296 : Int)))), ((Go.IntKind.wrap Go.IntKind.u64 (x.1 * x.2.1)), Unit.unit)))
theorem f43_eq (x : gi43.D) : f43 x = evF P (T19.orc _) Go.Proofs.Try.f43.ntmps fx43 c43 (planAt 64 []) gi43 x (fnK fx43 [go43]) := by kernel_rfl
theorem f43_ok : EntOk P 43 ⟨gi43, [go43], f43⟩ :=
  ent_ok (fn := Go.Proofs.Try.f43) (gi := gi43) (gos := [go43]) (f := f43) (c := c43) (fx := fx43) ⟨Go.Proofs.Try.func43, by kernel_rfl, rfl, by decide +kernel, rfl, rfl⟩ (by kernel_rfl) (Table.ok T19_ok _) hmix (planAt_ok (P := P) (n := Go.Proofs.Try.f43.ntmps) (fx := fx43) (c := c43) (d := 64) (l := []) trivial) f43_eq
noncomputable def T43 : Table := T19.add 43 [⟨gi43, [go43], f43⟩] []
theorem T43_ok : TableOk P T43 := Table.plus T19_ok (es := [⟨gi43, [go43], f43⟩]) ⟨f43_ok, trivial⟩ []

/-! ## 36: math/bits.Mul -/
noncomputable def c36 : Code := Func.code Go.Proofs.Try.f36
abbrev gi36 : Sg := ⟨[0, 1], [.lf (.int .u64), .lf (.int .u64)], []⟩
abbrev go36 : Sg := ⟨[4, 5], [.lf (.int .u64), .lf (.int .u64)], []⟩
def fx36 : List Bool := []
noncomputable def f36 (x : gi36.D) : Option go36.D :=
  (Option.bind (Go.Ev.Inflate.f43 (x.1, (x.2.1, Unit.unit))) (fun y1 => (some (y1.1, (y1.2.1, Unit.unit)))))
theorem f36_eq (x : gi36.D) : f36 x = evF P (T43.orc _) Go.Proofs.Try.f36.ntmps fx36 c36 (planAt 64 []) gi36 x (fnK fx36 [go36]) := by kernel_rfl
theorem f36_ok : EntOk P 36 ⟨gi36, [go36], f36⟩ :=
  ent_ok (fn := Go.Proofs.Try.f36) (gi := gi36) (gos := [go36]) (f := f36) (c := c36) (fx := fx36) ⟨Go.Proofs.Try.func36, by kernel_rfl, rfl, by decide +kernel, rfl, rfl⟩ (by kernel_rfl) (Table.ok T43_ok _) hmix (planAt_ok (P := P) (n := Go.Proofs.Try.f36.ntmps) (fx := fx36) (c := c36) (d := 64) (l := []) trivial) f36_eq
noncomputable def T36 : Table := T43.add 36 [⟨gi36, [go36], f36⟩] []
theorem T36_ok : TableOk P T36 := Table.plus T43_ok (es := [⟨gi36, [go36], f36⟩]) ⟨f36_ok, trivial⟩ []

/-! ## 31: slices.Repeat[[]int,int] -/
noncomputable def c31 : Code := Func.code Go.Proofs.Try.f31
abbrev gi31 : Sg := ⟨[0, 1], [.lf (.sl (.int .i64)), .lf (.int .i64)], []⟩
abbrev go31 : Sg := ⟨[4], [.lf (.gr (.int .i64) 0)], [some (.arr true (.int .i64))]⟩
def fx31 : List Bool := []
abbrev g31_1 : Sg := ⟨[7, 8], [.lf (.gr (.int .i64) 0), .lf (.int .i64)], [some (.arr true (.int .i64))]⟩
abbrev o31_1 : Outs := [(.exit 0, ⟨[7], [.lf (.gr (.int .i64) 0)], [some (.arr true (.int .i64))]⟩)]
noncomputable def b31_1 (x : g31_1.D) : Option (outD ((.normal, g31_1) :: o31_1)) :=
  (if ((decide (x.1 < (((List.length x.2.1) : Nat) : Int))) = true) then (if ((0 : Int) ≤ x.1) then (if (x.1 ≤ (((List.length x.2.1) : Nat) : Int)) then (if ((0 : Int) ≤ x.1) then (if (x.1 ≤ (((List.length x.2.1) : Nat) : Int)) then (if ((Min.min (List.length (List.take ((Int.toNat x.1) - (0 : Nat)) (List.drop (0 : Nat) x.2.1))) ((List.length x.2.1) - (Int.toNat x.1))) = (0 : Nat)) then (if ((List.length x.2.1) = (List.length x.2.1)) then (some (Sum.inl ((Go.IntKind.wrap Go.IntKind.i64 (x.1 + (0 : Int))), (x.2.1, Unit.unit))))
   else none)
   else (if ((List.length x.2.1) = (List.length ((List.take ((0 : Nat) + (Int.toNat x.1)) x.2.1) ++ ((List.take (Min.min (List.length (List.take ((Int.toNat x.1) - (0 : Nat)) (List.drop (0 : Nat) x.2.1))) ((List.length x.2.1) - (Int.toNat x.1))) (List.take ((Int.toNat x.1) - (0 : Nat)) (List.drop (0 : Nat) x.2.1))) ++ (List.drop (((0 : Nat) + (Int.toNat x.1)) + (Min.min (List.length (List.take ((Int.toNat x.1) - (0 : Nat)) (List.drop (0 : Nat) x.2.1))) ((List.length x.2.1) - (Int.toNat x.1)))) x.2.1))))) then (some (Sum.inl ((Go.IntKind.wrap Go.IntKind.i64 (x.1 + (((Min.min (List.length (List.take ((Int.toNat x.1) - (0 : Nat)) (List.drop (0 : Nat) x.2.1))) ((List.length x.2.1) - (Int.toNat x.1))) : Nat) : Int))), (((List.take ((0 : Nat) + (Int.toNat x.1)) x.2.1) ++ ((List.take (Min.min (List.length (List.take ((Int.toNat x.1) - (0 : Nat)) (List.drop (0 : Nat) x.2.1))) ((List.length x.2.1) - (Int.toNat x.1))) (List.take ((Int.toNat x.1) - (0 : Nat)) (List.drop (0 : Nat) x.2.1))) ++ (List.drop (((0 : Nat) + (Int.toNat x.1)) + (Min.min (List.length (List.take ((Int.toNat x.1) - (0 : Nat)) (List.drop (0 : Nat) x.2.1))) ((List.length x.2.1) - (Int.toNat x.1)))) x.2.1))), Unit.unit))))
   else none))
   else none)
   else none)
   else none)
   else none)
   else (if ((List.length x.2.1) = (List.length x.2.1)) then (some (Sum.inr (Sum.inl (x.2.1, Unit.unit))))
   else none))
theorem b31_1_eq (x : g31_1.D) : b31_1 x = evF P (T36.orc _) Go.Proofs.Try.f31.ntmps fx31 (Code.at [true, true, true, true, true, true, false, false, false] c31) (planAt 64 []) g31_1 x (injK fx31 ((.normal, g31_1) :: o31_1) some) := by kernel_rfl
noncomputable def l31_1 : g31_1.D → Option (outD o31_1) := loopN g31_1 o31_1 b31_1 18446744073709551616
theorem at31_1 : Code.at [true, true, true, true, true, true, false, false] c31 = .loop (Code.at [true, true, true, true, true, true, false, false, false] c31) := by kernel_rfl
theorem s31_1_ok : SubOk P Go.Proofs.Try.f31.ntmps fx31 (Code.at [true, true, true, true, true, true, false, false] c31) ⟨g31_1, o31_1, l31_1⟩ := by
  rw [at31_1]
  exact loop_ok (sub_ok (g := g31_1) (outs := ((.normal, g31_1) :: o31_1)) (f := b31_1) (Table.ok T36_ok _) hmix (planAt_ok (P := P) (n := Go.Proofs.Try.f31.ntmps) (fx := fx31) (c := (Code.at [true, true, true, true, true, true, false, false, false] c31)) (d := 64) (l := []) trivial) b31_1_eq) rfl _
noncomputable def f31 (x : gi31.D) : Option go31.D :=
  (if ((decide (x.2.1 < (0 : Int))) = true) then none
   else (Option.bind (Go.Ev.Inflate.f36 ((Go.IntKind.wrap Go.IntKind.u64 (((List.length x.1) : Nat) : Int)), ((Go.IntKind.wrap Go.IntKind.u64 x.2.1), Unit.unit))) (fun y1 => (if ((decide (y1.1 > (0 : Int))) = true) then none
   else (if ((decide (y1.2.1 > (9223372036854775807 : Int))) = true) then none
   else (if ((0 : Int) ≤ (Go.IntKind.wrap Go.IntKind.i64 y1.2.1)) then (if ((Go.IntKind.wrap Go.IntKind.i64 y1.2.1) ≤ (Go.IntKind.wrap Go.IntKind.i64 y1.2.1)) then (if ((Go.IntKind.wrap Go.IntKind.i64 y1.2.1) ≤ (35184372088832 : Int)) then (if ((Min.min (List.length x.1) (Int.toNat (Go.IntKind.wrap Go.IntKind.i64 y1.2.1))) = (0 : Nat)) then (if ((Int.toNat (Go.IntKind.wrap Go.IntKind.i64 y1.2.1)) = (List.length (List.replicate (Int.toNat (Go.IntKind.wrap Go.IntKind.i64 y1.2.1)) (0 : Int)))) then (Option.bind (Go.Ev.Inflate.l31_1 ((0 : Int), ((List.replicate (Int.toNat (Go.IntKind.wrap Go.IntKind.i64 y1.2.1)) (0 : Int)), Unit.unit))) (Sum.elim (fun y2 => (if ((List.length y2.1) = (List.length y2.1)) then (some (y2.1, Unit.unit))
   else none)) Empty.elim))
   else none)
   else (if ((Int.toNat (Go.IntKind.wrap Go.IntKind.i64 y1.2.1)) = (List.length ((List.take (0 : Nat) (List.replicate (Int.toNat (Go.IntKind.wrap Go.IntKind.i64 y1.2.1)) (0 : Int))) ++ ((List.take (Min.min (List.length x.1) (Int.toNat (Go.IntKind.wrap Go.IntKind.i64 y1.2.1))) x.1) ++ (List.drop ((0 : Nat) + (Min.min (List.length x.1) (Int.toNat (Go.IntKind.wrap Go.IntKind.i64 y1.2.1)))) (List.replicate (Int.toNat (Go.IntKind.wrap Go.IntKind.i64 y1.2.1)) (0 : Int))))))) then (Option.bind (Go.Ev.Inflate.l31_1 ((((Min.min (List.length x.1) (Int.toNat (Go.IntKind.wrap Go.IntKind.i64 y1.2.1))) : Nat) : Int), (((List.take (0 : Nat) (List.replicate (Int.toNat (Go.IntKind.wrap Go.IntKind.i64 y1.2.1)) (0 : Int))) ++ ((List.take (Min.min (List.length x.1) (Int.toNat (Go.IntKind.wrap Go.IntKind.i64 y1.2.1))) x.1) ++ (List.drop ((0 : Nat) + (Min.min (List.length x.1) (Int.toNat (Go.IntKind.wrap Go.IntKind.i64 y1.2.1)))) (List.replicate (Int.toNat (Go.IntKind.wrap Go.IntKind.i64 y1.2.1)) (0 : Int))))), Unit.unit))) (Sum.elim (fun y2 => (if ((List.length y2.1) = (List.length y2.1)) then (some (y2.1, Unit.unit))
   else none)) Empty.elim))
   else none))
   else none)
   else none)
   else none))))))
theorem f31_eq (x : gi31.D) : f31 x = evF P (T36.orc _) Go.Proofs.Try.f31.ntmps fx31 c31 (planAt 64 [([true, true, true, true, true, true, false, false], ⟨g31_1, o31_1, l31_1⟩)]) gi31 x (fnK fx31 [go31]) := by kernel_rfl
theorem pf31 : AllSub P Go.Proofs.Try.f31.ntmps fx31 c31 [([true, true, true, true, true, true, false, false], ⟨g31_1, o31_1, l31_1⟩)] := And.intro s31_1_ok (trivial)
theorem qf31 : PlanOk P Go.Proofs.Try.f31.ntmps fx31 (planAt 64 [([true, true, true, true, true, true, false, false], ⟨g31_1, o31_1, l31_1⟩)]) c31 := planAt_ok pf31
theorem f31_ok : EntOk P 31 ⟨gi31, [go31], f31⟩ :=
  ent_ok (fn := Go.Proofs.Try.f31) (gi := gi31) (gos := [go31]) (f := f31) (c := c31) (fx := fx31) ⟨Go.Proofs.Try.func31, by kernel_rfl, rfl, by decide +kernel, rfl, rfl⟩ (by kernel_rfl) (Table.ok T36_ok _) hmix (qf31) f31_eq
noncomputable def T31 : Table := T36.add 31 [⟨gi31, [go31], f31⟩] []
theorem T31_ok : TableOk P T31 := Table.plus T36_ok (es := [⟨gi31, [go31], f31⟩]) ⟨f31_ok, trivial⟩ []

/-! ## 30: erasure/huff.Fixed -/
noncomputable def c30 : Code := Func.code Go.Proofs.Try.f30
abbrev gi30 : Sg := ⟨[], [], []⟩
abbrev go30 : Sg := ⟨[0], [.lf (.gr (.int .i64) 0)], [some (.arr true (.int .i64))]⟩
def fx30 : List Bool := []
abbrev g30_1 : Sg := ⟨[1, 2], [.lf (.gr (.int .i64) 0), .lf (.int .i64)], [some (.arr true (.int .i64))]⟩
abbrev o30_1 : Outs := [(.exit 0, ⟨[1], [.lf (.gr (.int .i64) 0)], [some (.arr true (.int .i64))]⟩)]
noncomputable def b30_1 (x : g30_1.D) : Option (outD ((.normal, g30_1) :: o30_1)) :=
  (if ((decide (x.1 < (280 : Int))) = true) then (if ((0 : Int) ≤ x.1) then (if (x.1 < (((List.length x.2.1) : Nat) : Int)) then (if ((decide (x.1 > (255 : Int))) = true) then (if ((0 : Int) ≤ x.1) then (if (x.1 < (((List.length x.2.1) : Nat) : Int)) then (if ((List.length x.2.1) = (List.length (List.set (List.set x.2.1 ((0 : Nat) + (Int.toNat x.1)) (9 : Int)) ((0 : Nat) + (Int.toNat x.1)) (7 : Int)))) then (some (Sum.inl ((Go.IntKind.wrap Go.IntKind.i64 (x.1 + (1 : Int))), ((List.set (List.set x.2.1 ((0 : Nat) + (Int.toNat x.1)) (9 : Int)) ((0 : Nat) + (Int.toNat x.1)) (7 : Int)), Unit.unit))))
   else none)
   else none)
   else none)
   else (if ((List.length x.2.1) = (List.length (List.set x.2.1 ((0 : Nat) + (Int.toNat x.1)) (9 : Int)))) then (some (Sum.inl ((Go.IntKind.wrap Go.IntKind.i64 (x.1 + (1 : Int))), ((List.set x.2.1 ((0 : Nat) + (Int.toNat x.1)) (9 : Int)), Unit.unit))))
   else none))
   else none)
   else none)
   else (if ((List.length x.2.1) = (List.length x.2.1)) then (some (Sum.inr (Sum.inl (x.2.1, Unit.unit))))
   else none))
theorem b30_1_eq (x : g30_1.D) : b30_1 x = evF P (T31.orc _) Go.Proofs.Try.f30.ntmps fx30 (Code.at [true, true, false, true, false, false] c30) (planAt 64 []) g30_1 x (injK fx30 ((.normal, g30_1) :: o30_1) some) := by kernel_rfl
noncomputable def l30_1 : g30_1.D → Option (outD o30_1) := loopN g30_1 o30_1 b30_1 18446744073709551616
theorem at30_1 : Code.at [true, true, false, true, false] c30 = .loop (Code.at [true, true, false, true, false, false] c30) := by kernel_rfl
theorem s30_1_ok : SubOk P Go.Proofs.Try.f30.ntmps fx30 (Code.at [true, true, false, true, false] c30) ⟨g30_1, o30_1, l30_1⟩ := by
  rw [at30_1]
  exact loop_ok (sub_ok (g := g30_1) (outs := ((.normal, g30_1) :: o30_1)) (f := b30_1) (Table.ok T31_ok _) hmix (planAt_ok (P := P) (n := Go.Proofs.Try.f30.ntmps) (fx := fx30) (c := (Code.at [true, true, false, true, false, false] c30)) (d := 64) (l := []) trivial) b30_1_eq) rfl _
noncomputable def f30 (_ : gi30.D) : Option go30.D :=
  (Option.bind (Go.Ev.Inflate.f31 ((List.take (1 : Nat) (List.drop (0 : Nat) (List.set (List.replicate (1 : Nat) (0 : Int)) (0 : Nat) (8 : Int)))), ((288 : Int), Unit.unit))) (fun y1 => (if ((List.length y1.1) = (List.length y1.1)) then (Option.bind (Go.Ev.Inflate.l30_1 ((144 : Int), (y1.1, Unit.unit))) (Sum.elim (fun y2 => (if ((List.length y2.1) = (List.length y2.1)) then (some (y2.1, Unit.unit))
   else none)) Empty.elim))
   else none)))
theorem f30_eq (x : gi30.D) : f30 x = evF P (T31.orc _) Go.Proofs.Try.f30.ntmps fx30 c30 (planAt 64 [([true, true, false, true, false], ⟨g30_1, o30_1, l30_1⟩)]) gi30 x (fnK fx30 [go30]) := by kernel_rfl
theorem pf30 : AllSub P Go.Proofs.Try.f30.ntmps fx30 c30 [([true, true, false, true, false], ⟨g30_1, o30_1, l30_1⟩)] := And.intro s30_1_ok (trivial)
theorem qf30 : PlanOk P Go.Proofs.Try.f30.ntmps fx30 (planAt 64 [([true, true, false, true, false], ⟨g30_1, o30_1, l30_1⟩)]) c30 := planAt_ok pf30
theorem f30_ok : EntOk P 30 ⟨gi30, [go30], f30⟩ :=
  ent_ok (fn := Go.Proofs.Try.f30) (gi := gi30) (gos := [go30]) (f := f30) (c := c30) (fx := fx30) ⟨Go.Proofs.Try.func30, by kernel_rfl, rfl, by decide +kernel, rfl, rfl⟩ (by kernel_rfl) (Table.ok T31_ok _) hmix (qf30) f30_eq
noncomputable def T30 : Table := T31.add 30 [⟨gi30, [go30], f30⟩] []
theorem T30_ok : TableOk P T30 := Table.plus T31_ok (es := [⟨gi30, [go30], f30⟩]) ⟨f30_ok, trivial⟩ []

/-! ## 41: erasure/huff.count -/
noncomputable def c41 : Code := Func.code Go.Proofs.Try.f41
abbrev gi41 : Sg := ⟨[0], [.lf (.sl (.int .i64))], []⟩
abbrev go41 : Sg := ⟨[0, 3], [.agg [.many (.int .i64) 16], .lf (.int .i64)], []⟩
def fx41 : List Bool := []
abbrev g41_1 : Sg := ⟨[2, 4, 5, 12, 13, 14], [.lf (.ptr 0 0), .lf (.ptr 1 0), .lf (.int .i64), .lf (.sl (.int .i64)), .lf (.int .i64), .lf (.int .i64)], [some (.box true [.many (.int .i64) 16]), some (.box true [.many (.int .i64) 16])]⟩
abbrev o41_1 : Outs := [(.exit 0, ⟨[2, 4, 5], [.lf (.ptr 0 0), .lf (.ptr 1 0), .lf (.int .i64)], [some (.box true [.many (.int .i64) 16]), some (.box true [.many (.int .i64) 16])]⟩), (.ret, ⟨[2, 3], [.lf (.ptr 0 0), .lf (.int .i64)], [some (.box true [.many (.int .i64) 16])]⟩)]
noncomputable def b41_1 (x : g41_1.D) : Option (outD ((.normal, g41_1) :: o41_1)) :=
  (if ((decide (x.2.2.2.1 < x.2.2.1)) = true) then (if ((0 : Int) ≤ x.2.2.2.1) then (if (x.2.2.2.1 < (((List.length x.2.1) : Nat) : Int)) then (if ((decide ((List.getD x.2.1 (Int.toNat x.2.2.2.1) (0 : Int)) < (0 : Int))) = true) then (some (Sum.inr (Sum.inr (Sum.inl ((1 : Int), (x.2.2.2.2.2.1, Unit.unit))))))
   else (if ((decide ((List.getD x.2.1 (Int.toNat x.2.2.2.1) (0 : Int)) > (15 : Int))) = true) then (some (Sum.inr (Sum.inr (Sum.inl ((1 : Int), (x.2.2.2.2.2.1, Unit.unit))))))
   else (if ((decide ((List.getD x.2.1 (Int.toNat x.2.2.2.1) (0 : Int)) > (0 : Int))) = true) then (if ((0 : Int) ≤ (List.getD x.2.1 (Int.toNat x.2.2.2.1) (0 : Int))) then (if ((List.getD x.2.1 (Int.toNat x.2.2.2.1) (0 : Int)) < (16 : Int)) then (if ((0 : Int) ≤ (List.getD x.2.1 (Int.toNat x.2.2.2.1) (0 : Int))) then (if ((List.getD x.2.1 (Int.toNat x.2.2.2.1) (0 : Int)) < (16 : Int)) then (if ((List.getD x.2.1 (Int.toNat x.2.2.2.1) (0 : Int)) < (0 : Int)) then none
   else (some (Sum.inl ((Go.IntKind.wrap Go.IntKind.i64 (x.1 + (Int.fdiv (32768 : Int) ((2 : Int) ^ (Min.min (Int.toNat (List.getD x.2.1 (Int.toNat x.2.2.2.1) (0 : Int))) (64 : Nat)))))), (x.2.1, (x.2.2.1, ((Go.IntKind.wrap Go.IntKind.i64 (x.2.2.2.1 + (1 : Int))), (x.2.2.2.2.1, ((List.set x.2.2.2.2.2.1 (Int.toNat (List.getD x.2.1 (Int.toNat x.2.2.2.1) (0 : Int))) (Go.IntKind.wrap Go.IntKind.i64 ((List.getD x.2.2.2.2.2.1 (Int.toNat (List.getD x.2.1 (Int.toNat x.2.2.2.1) (0 : Int))) (0 : Int)) + (1 : Int)))), Unit.unit)))))))))
   else none)
   else none)
   else none)
   else none)
   else (some (Sum.inl (x.1, (x.2.1, (x.2.2.1, ((Go.IntKind.wrap Go.IntKind.i64 (x.2.2.2.1 + (1 : Int))), (x.2.2.2.2.1, (x.2.2.2.2.2.1, Unit.unit)))))))))))
   else none)
   else none)
   else (some (Sum.inr (Sum.inl (x.1, (x.2.2.2.2.1, (x.2.2.2.2.2.1, Unit.unit)))))))
theorem b41_1_eq (x : g41_1.D) : b41_1 x = evF P (T30.orc _) Go.Proofs.Try.f41.ntmps fx41 (Code.at [true, true, true, true, false, true, false, false] c41) (planAt 64 []) g41_1 x (injK fx41 ((.normal, g41_1) :: o41_1) some) := by kernel_rfl
noncomputable def l41_1 : g41_1.D → Option (outD o41_1) := loopN g41_1 o41_1 b41_1 18446744073709551616
theorem at41_1 : Code.at [true, true, true, true, false, true, false] c41 = .loop (Code.at [true, true, true, true, false, true, false, false] c41) := by kernel_rfl
theorem s41_1_ok : SubOk P Go.Proofs.Try.f41.ntmps fx41 (Code.at [true, true, true, true, false, true, false] c41) ⟨g41_1, o41_1, l41_1⟩ := by
  rw [at41_1]
  exact loop_ok (sub_ok (g := g41_1) (outs := ((.normal, g41_1) :: o41_1)) (f := b41_1) (Table.ok T30_ok _) hmix (planAt_ok (P := P) (n := Go.Proofs.Try.f41.ntmps) (fx := fx41) (c := (Code.at [true, true, true, true, false, true, false, false] c41)) (d := 64) (l := []) trivial) b41_1_eq) rfl _
noncomputable def f41 (x : gi41.D) : Option go41.D :=
  (if ((decide ((((List.length x.1) : Nat) : Int) > (320 : Int))) = true) then (some ((List.replicate (16 : Nat) (0 : Int)), ((1 : Int), Unit.unit)))
   else (Option.bind (Go.Ev.Inflate.l41_1 ((0 : Int), (x.1, ((((List.length x.1) : Nat) : Int), ((0 : Int), ((List.replicate (16 : Nat) (0 : Int)), ((List.replicate (16 : Nat) (0 : Int)), Unit.unit))))))) (Sum.elim (fun y1 => (if ((decide (y1.1 > (32768 : Int))) = true) then (some (y1.2.2.1, ((4 : Int), Unit.unit)))
   else (some (y1.2.2.1, ((0 : Int), Unit.unit))))) (Sum.elim (fun y1 => (some (y1.2.1, (y1.1, Unit.unit)))) Empty.elim))))
theorem f41_eq (x : gi41.D) : f41 x = evF P (T30.orc _) Go.Proofs.Try.f41.ntmps fx41 c41 (planAt 64 [([true, true, true, true, false, true, false], ⟨g41_1, o41_1, l41_1⟩)]) gi41 x (fnKR P Go.Proofs.Try.f41 fx41 [go41]) := by kernel_rfl
theorem pf41 : AllSub P Go.Proofs.Try.f41.ntmps fx41 c41 [([true, true, true, true, false, true, false], ⟨g41_1, o41_1, l41_1⟩)] := And.intro s41_1_ok (trivial)
theorem qf41 : PlanOk P Go.Proofs.Try.f41.ntmps fx41 (planAt 64 [([true, true, true, true, false, true, false], ⟨g41_1, o41_1, l41_1⟩)]) c41 := planAt_ok pf41
theorem f41_ok : EntOk P 41 ⟨gi41, [go41], f41⟩ :=
  ent_okR (fn := Go.Proofs.Try.f41) (gi := gi41) (gos := [go41]) (f := f41) (c := c41) (fx := fx41) ⟨Go.Proofs.Try.func41, by kernel_rfl, rfl, by decide +kernel, rfl, rfl⟩ (Table.ok T30_ok _) hmix (qf41) f41_eq
noncomputable def T41 : Table := T30.add 41 [⟨gi41, [go41], f41⟩] []
theorem T41_ok : TableOk P T41 := Table.plus T30_ok (es := [⟨gi41, [go41], f41⟩]) ⟨f41_ok, trivial⟩ []

/-! ## 34: erasure/huff.Codes -/
noncomputable def c34 : Code := Func.code Go.Proofs.Try.f34
abbrev gi34 : Sg := ⟨[0], [.lf (.sl (.int .i64))], []⟩
abbrev go34 : Sg := ⟨[2, 3], [.lf (.gr (.int .i64) 0), .lf (.int .i64)], [some (.arr true (.int .i64))]⟩
def fx34 : List Bool := []
abbrev g34_2 : Sg := ⟨[6, 8, 37, 38, 39], [.lf (.ptr 0 0), .lf (.gr (.int .i64) 1), .lf (.sl (.int .i64)), .lf (.int .i64), .lf (.int .i64)], [some (.box true [.many (.int .i64) 16]), some (.arr true (.int .i64))]⟩
abbrev o34_2 : Outs := [(.exit 2, ⟨[8], [.lf (.gr (.int .i64) 0)], [some (.arr true (.int .i64))]⟩)]
noncomputable def b34_2 (x : g34_2.D) : Option (outD ((.normal, g34_2) :: o34_2)) :=
  (if ((decide (x.2.2.1 < x.2.1)) = true) then (if ((0 : Int) ≤ x.2.2.1) then (if (x.2.2.1 < (((List.length x.1) : Nat) : Int)) then (if ((decide ((List.getD x.1 (Int.toNat x.2.2.1) (0 : Int)) > (0 : Int))) = true) then (if ((0 : Int) ≤ (List.getD x.1 (Int.toNat x.2.2.1) (0 : Int))) then (if ((List.getD x.1 (Int.toNat x.2.2.1) (0 : Int)) < (16 : Int)) then (if ((0 : Int) ≤ x.2.2.1) then (if (x.2.2.1 < (((List.length x.2.2.2.2.1) : Nat) : Int)) then (if ((0 : Int) ≤ (List.getD x.1 (Int.toNat x.2.2.1) (0 : Int))) then (if ((List.getD x.1 (Int.toNat x.2.2.1) (0 : Int)) < (16 : Int)) then (if ((0 : Int) ≤ (List.getD x.1 (Int.toNat x.2.2.1) (0 : Int))) then (if ((List.getD x.1 (Int.toNat x.2.2.1) (0 : Int)) < (16 : Int)) then (if ((List.length x.2.2.2.2.1) = (List.length (List.set x.2.2.2.2.1 ((0 : Nat) + (Int.toNat x.2.2.1)) (List.getD x.2.2.2.1 (Int.toNat (List.getD x.1 (Int.toNat x.2.2.1) (0 : Int))) (0 : Int))))) then (some (Sum.inl (x.1, (x.2.1, ((Go.IntKind.wrap Go.IntKind.i64 (x.2.2.1 + (1 : Int))), ((List.set x.2.2.2.1 (Int.toNat (List.getD x.1 (Int.toNat x.2.2.1) (0 : Int))) (Go.IntKind.wrap Go.IntKind.i64 ((List.getD x.2.2.2.1 (Int.toNat (List.getD x.1 (Int.toNat x.2.2.1) (0 : Int))) (0 : Int)) + (1 : Int)))), ((List.set x.2.2.2.2.1 ((0 : Nat) + (Int.toNat x.2.2.1)) (List.getD x.2.2.2.1 (Int.toNat (List.getD x.1 (Int.toNat x.2.2.1) (0 : Int))) (0 : Int))), Unit.unit)))))))
   else none)
   else none)
   else none)
   else none)
   else none)
   else none)
   else none)
   else none)
   else none)
   else (if ((List.length x.2.2.2.2.1) = (List.length x.2.2.2.2.1)) then (some (Sum.inl (x.1, (x.2.1, ((Go.IntKind.wrap Go.IntKind.i64 (x.2.2.1 + (1 : Int))), (x.2.2.2.1, (x.2.2.2.2.1, Unit.unit)))))))
   else none))
   else none)
   else none)
   else (if ((List.length x.2.2.2.2.1) = (List.length x.2.2.2.2.1)) then (some (Sum.inr (Sum.inl (x.2.2.2.2.1, Unit.unit))))
   else none))
theorem b34_2_eq (x : g34_2.D) : b34_2 x = evF P (T41.orc _) Go.Proofs.Try.f34.ntmps fx34 (Code.at [true, true, true, true, true, true, false, true, false, false] c34) (planAt 64 []) g34_2 x (injK fx34 ((.normal, g34_2) :: o34_2) some) := by kernel_rfl
noncomputable def l34_2 : g34_2.D → Option (outD o34_2) := loopN g34_2 o34_2 b34_2 18446744073709551616
theorem at34_2 : Code.at [true, true, true, true, true, true, false, true, false] c34 = .loop (Code.at [true, true, true, true, true, true, false, true, false, false] c34) := by kernel_rfl
theorem s34_2_ok : SubOk P Go.Proofs.Try.f34.ntmps fx34 (Code.at [true, true, true, true, true, true, false, true, false] c34) ⟨g34_2, o34_2, l34_2⟩ := by
  rw [at34_2]
  exact loop_ok (sub_ok (g := g34_2) (outs := ((.normal, g34_2) :: o34_2)) (f := b34_2) (Table.ok T41_ok _) hmix (planAt_ok (P := P) (n := Go.Proofs.Try.f34.ntmps) (fx := fx34) (c := (Code.at [true, true, true, true, true, true, false, true, false, false] c34)) (d := 64) (l := []) trivial) b34_2_eq) rfl _
abbrev g34_1 : Sg := ⟨[0, 4, 6, 7], [.lf (.sl (.int .i64)), .lf (.ptr 0 0), .lf (.ptr 1 0), .lf (.int .i64)], [some (.box true [.many (.int .i64) 16]), some (.box true [.many (.int .i64) 16])]⟩
abbrev o34_1 : Outs := [(.exit 0, ⟨[0, 6], [.lf (.sl (.int .i64)), .lf (.ptr 0 0)], [some (.box true [.many (.int .i64) 16])]⟩)]
noncomputable def b34_1 (x : g34_1.D) : Option (outD ((.normal, g34_1) :: o34_1)) :=
  (if ((decide (x.2.1 < (15 : Int))) = true) then (if ((0 : Int) ≤ x.2.1) then (if (x.2.1 < (16 : Int)) then (if ((0 : Int) ≤ x.2.1) then (if (x.2.1 < (16 : Int)) then (if ((0 : Int) ≤ (Go.IntKind.wrap Go.IntKind.i64 (x.2.1 + (1 : Int)))) then (if ((Go.IntKind.wrap Go.IntKind.i64 (x.2.1 + (1 : Int))) < (16 : Int)) then (some (Sum.inl (x.1, ((Go.IntKind.wrap Go.IntKind.i64 (x.2.1 + (1 : Int))), (x.2.2.1, ((List.set x.2.2.2.1 (Int.toNat (Go.IntKind.wrap Go.IntKind.i64 (x.2.1 + (1 : Int)))) (Go.IntKind.wrap Go.IntKind.i64 ((Go.IntKind.wrap Go.IntKind.i64 ((List.getD x.2.2.2.1 (Int.toNat x.2.1) (0 : Int)) + (List.getD x.2.2.1 (Int.toNat x.2.1) (0 : Int)))) * (2 : Int)))), Unit.unit))))))
   else none)
   else none)
   else none)
   else none)
   else none)
   else none)
   else (some (Sum.inr (Sum.inl (x.1, (x.2.2.2.1, Unit.unit))))))
theorem b34_1_eq (x : g34_1.D) : b34_1 x = evF P (T41.orc _) Go.Proofs.Try.f34.ntmps fx34 (Code.at [true, true, true, true, false, true, false, false] c34) (planAt 64 []) g34_1 x (injK fx34 ((.normal, g34_1) :: o34_1) some) := by kernel_rfl
noncomputable def l34_1 : g34_1.D → Option (outD o34_1) := loopN g34_1 o34_1 b34_1 18446744073709551616
theorem at34_1 : Code.at [true, true, true, true, false, true, false] c34 = .loop (Code.at [true, true, true, true, false, true, false, false] c34) := by kernel_rfl
theorem s34_1_ok : SubOk P Go.Proofs.Try.f34.ntmps fx34 (Code.at [true, true, true, true, false, true, false] c34) ⟨g34_1, o34_1, l34_1⟩ := by
  rw [at34_1]
  exact loop_ok (sub_ok (g := g34_1) (outs := ((.normal, g34_1) :: o34_1)) (f := b34_1) (Table.ok T41_ok _) hmix (planAt_ok (P := P) (n := Go.Proofs.Try.f34.ntmps) (fx := fx34) (c := (Code.at [true, true, true, true, false, true, false, false] c34)) (d := 64) (l := []) trivial) b34_1_eq) rfl _
noncomputable def f34 (x : gi34.D) : Option go34.D :=
  (Option.bind (Go.Ev.Inflate.f41 (x.1, Unit.unit)) (fun y1 => (if ((y1.2.1 != (0 : Int)) = true) then (some (y1.2.1, ([], Unit.unit)))
   else (Option.bind (Go.Ev.Inflate.l34_1 (x.1, ((1 : Int), (y1.1, ((List.replicate (16 : Nat) (0 : Int)), Unit.unit))))) (Sum.elim (fun y2 => (if ((((List.length y2.1) : Nat) : Int) ≤ (((List.length y2.1) : Nat) : Int)) then (if ((((List.length y2.1) : Nat) : Int) ≤ (35184372088832 : Int)) then (if ((Int.toNat (((List.length y2.1) : Nat) : Int)) = (List.length (List.replicate (Int.toNat (((List.length y2.1) : Nat) : Int)) (0 : Int)))) then (Option.bind (Go.Ev.Inflate.l34_2 (y2.1, ((((List.length y2.1) : Nat) : Int), ((0 : Int), (y2.2.1, ((List.replicate (Int.toNat (((List.length y2.1) : Nat) : Int)) (0 : Int)), Unit.unit)))))) (Sum.elim (fun y3 => (if ((List.length y3.1) = (List.length y3.1)) then (some ((0 : Int), (y3.1, Unit.unit)))
   else none)) Empty.elim))
   else none)
   else none)
   else none)) Empty.elim)))))
theorem f34_eq (x : gi34.D) : f34 x = evF P (T41.orc _) Go.Proofs.Try.f34.ntmps fx34 c34 (planAt 64 [([true, true, true, true, false, true, false], ⟨g34_1, o34_1, l34_1⟩), ([true, true, true, true, true, true, false, true, false], ⟨g34_2, o34_2, l34_2⟩)]) gi34 x (fnK fx34 [go34]) := by kernel_rfl
theorem pf34 : AllSub P Go.Proofs.Try.f34.ntmps fx34 c34 [([true, true, true, true, false, true, false], ⟨g34_1, o34_1, l34_1⟩), ([true, true, true, true, true, true, false, true, false], ⟨g34_2, o34_2, l34_2⟩)] := And.intro s34_1_ok (And.intro s34_2_ok (trivial))
theorem qf34 : PlanOk P Go.Proofs.Try.f34.ntmps fx34 (planAt 64 [([true, true, true, true, false, true, false], ⟨g34_1, o34_1, l34_1⟩), ([true, true, true, true, true, true, false, true, false], ⟨g34_2, o34_2, l34_2⟩)]) c34 := planAt_ok pf34
theorem f34_ok : EntOk P 34 ⟨gi34, [go34], f34⟩ :=
  ent_ok (fn := Go.Proofs.Try.f34) (gi := gi34) (gos := [go34]) (f := f34) (c := c34) (fx := fx34) ⟨Go.Proofs.Try.func34, by kernel_rfl, rfl, by decide +kernel, rfl, rfl⟩ (by kernel_rfl) (Table.ok T41_ok _) hmix (qf34) f34_eq
noncomputable def T34 : Table := T41.add 34 [⟨gi34, [go34], f34⟩] []
theorem T34_ok : TableOk P T34 := Table.plus T41_ok (es := [⟨gi34, [go34], f34⟩]) ⟨f34_ok, trivial⟩ []

/-! ## 35: slices.Clone[[]int,int] -/
noncomputable def c35 : Code := Func.code Go.Proofs.Try.f35
abbrev gi35 : Sg := ⟨[0], [.lf (.sl (.int .i64))], []⟩
abbrev go35 : Sg := ⟨[2], [.lf (.gr (.int .i64) 0)], [some (.arr true (.int .i64))]⟩
def fx35 : List Bool := []
noncomputable def f35 (x : gi35.D) : Option go35.D :=
  (if ((List.length x.1) = (0 : Nat)) then (Go.Ev.amb (Go.Ev.Orc.eq (Go.Ev.Table.orcE Go.Ev.Inflate.T34 (Go.Ev.Sg.D Go.Ev.Inflate.go35) (Go.Ev.Sg.eq Go.Ev.Inflate.go35) (Go.Ev.Sg.eq_eq Go.Ev.Inflate.go35))) (some ([], Unit.unit)) (if (((0 : Nat) + (List.length x.1)) ≤ (17592186044416 : Nat)) then (if ((List.length ((List.take (0 : Nat) (List.drop (0 : Nat) (List.replicate (0 : Nat) (0 : Int)))) ++ x.1)) = (List.length ((List.take (0 : Nat) (List.drop (0 : Nat) (List.replicate (0 : Nat) (0 : Int)))) ++ x.1))) then (some (((List.take (0 : Nat) (List.drop (0 : Nat) (List.replicate (0 : Nat) (0 : Int)))) ++ x.1), Unit.unit))
   else none)
   else none))
   else (if (((0 : Nat) + (List.length x.1)) ≤ (17592186044416 : Nat)) then (if ((List.length ((List.take (0 : Nat) (List.drop (0 : Nat) (List.replicate (0 : Nat) (0 : Int)))) ++ x.1)) = (List.length ((List.take (0 : Nat) (List.drop (0 : Nat) (List.replicate (0 : Nat) (0 : Int)))) ++ x.1))) then (some (((List.take (0 : Nat) (List.drop (0 : Nat) (List.replicate (0 : Nat) (0 : Int)))) ++ x.1), Unit.unit))
   else none)
   else none))
theorem f35_eq (x : gi35.D) : f35 x = evF P (T34.orcE go35.D go35.eq go35.eq_eq) Go.Proofs.Try.f35.ntmps fx35 c35 (planAt 64 []) gi35 x (fnK fx35 [go35]) := by kernel_rfl
theorem f35_ok : EntOk P 35 ⟨gi35, [go35], f35⟩ :=
  ent_ok (fn := Go.Proofs.Try.f35) (gi := gi35) (gos := [go35]) (f := f35) (c := c35) (fx := fx35) ⟨Go.Proofs.Try.func35, by kernel_rfl, rfl, by decide +kernel, rfl, rfl⟩ (by kernel_rfl) (Table.okE T34_ok _ _ _) hmix (planAt_ok (P := P) (n := Go.Proofs.Try.f35.ntmps) (fx := fx35) (c := c35) (d := 64) (l := []) trivial) f35_eq
noncomputable def T35 : Table := T34.add 35 [⟨gi35, [go35], f35⟩] []
theorem T35_ok : TableOk P T35 := Table.plus T34_ok (es := [⟨gi35, [go35], f35⟩]) ⟨f35_ok, trivial⟩ []

/-! ## 29: erasure/huff.Make -/
noncomputable def c29 : Code := Func.code Go.Proofs.Try.f29
abbrev gi29 : Sg := ⟨[0], [.lf (.sl (.int .i64))], []⟩
abbrev go29 : List Sg := [⟨[2, 3], [.lf .nilp, .lf (.int .i64)], []⟩, ⟨[2, 3], [.lf (.ptr 0 0), .lf (.int .i64)], [some (.box true [.many (.int .i64) 16, .lf (.sl (.int .i64)), .lf (.sl (.int .i64)), .lf (.gr (.int .i64) 1)]), some (.arr true (.int .i64))]⟩]
def fx29 : List Bool := []
abbrev g29_2 : Sg := ⟨[0, 6, 7, 8, 24, 27, 28, 29], [.lf (.sl (.int .i64)), .lf (.ptr 0 0), .lf (.int .i64), .lf (.int .i64), .lf (.int .i64), .lf (.sl (.int .i64)), .lf (.int .i64), .lf (.int .i64)], [some (.box true [.many (.int .i64) 16, .lf (.sl (.int .i64)), .lf (.sl (.int .i64)), .lf (.gr (.int .i64) 1)]), some (.arr true (.int .i64))]⟩
abbrev o29_2 : Outs := [(.exit 2, ⟨[0, 6, 7, 24], [.lf (.sl (.int .i64)), .lf (.ptr 0 0), .lf (.int .i64), .lf (.int .i64)], [some (.box true [.many (.int .i64) 16, .lf (.sl (.int .i64)), .lf (.sl (.int .i64)), .lf (.gr (.int .i64) 1)]), some (.arr true (.int .i64))]⟩)]
noncomputable def b29_2 (x : g29_2.D) : Option (outD ((.normal, g29_2) :: o29_2)) :=
  (if ((decide (x.2.2.2.2.2.2.1 < x.2.2.2.2.2.1)) = true) then (if ((0 : Int) ≤ x.2.2.2.2.2.2.1) then (if (x.2.2.2.2.2.2.1 < (((List.length x.2.2.2.2.1) : Nat) : Int)) then (if (((List.getD x.2.2.2.2.1 (Int.toNat x.2.2.2.2.2.2.1) (0 : Int)) == (Go.IntKind.wrap Go.IntKind.i64 (x.2.2.1 + (1 : Int)))) = true) then (if (((List.length (List.take (List.length x.2.2.2.2.2.2.2.2.2.2.1) (List.drop (0 : Nat) x.2.2.2.2.2.2.2.2.2.2.1))) + (List.length (List.take (1 : Nat) (List.drop (0 : Nat) (List.set (List.replicate (1 : Nat) (0 : Int)) (0 : Nat) x.2.2.2.2.2.2.1))))) ≤ (17592186044416 : Nat)) then (if ((0 : Int) ≤ (List.getD x.2.2.2.2.1 (Int.toNat x.2.2.2.2.2.2.1) (0 : Int))) then (if ((List.getD x.2.2.2.2.1 (Int.toNat x.2.2.2.2.2.2.1) (0 : Int)) < (16 : Int)) then (if ((0 : Int) ≤ (List.getD x.2.2.2.2.1 (Int.toNat x.2.2.2.2.2.2.1) (0 : Int))) then (if ((List.getD x.2.2.2.2.1 (Int.toNat x.2.2.2.2.2.2.1) (0 : Int)) < (16 : Int)) then (if ((List.getD x.2.2.2.2.1 (Int.toNat x.2.2.2.2.2.2.1) (0 : Int)) < (0 : Int)) then none
   else (if ((List.length ((List.take (List.length x.2.2.2.2.2.2.2.2.2.2.1) (List.drop (0 : Nat) x.2.2.2.2.2.2.2.2.2.2.1)) ++ (List.take (1 : Nat) (List.drop (0 : Nat) (List.set (List.replicate (1 : Nat) (0 : Int)) (0 : Nat) x.2.2.2.2.2.2.1))))) = (List.length ((List.take (List.length x.2.2.2.2.2.2.2.2.2.2.1) (List.drop (0 : Nat) x.2.2.2.2.2.2.2.2.2.2.1)) ++ (List.take (1 : Nat) (List.drop (0 : Nat) (List.set (List.replicate (1 : Nat) (0 : Int)) (0 : Nat) x.2.2.2.2.2.2.1)))))) then (some (Sum.inl (x.1, ((Go.IntKind.wrap Go.IntKind.i64 (x.2.1 + (Int.fdiv (32768 : Int) ((2 : Int) ^ (Min.min (Int.toNat (List.getD x.2.2.2.2.1 (Int.toNat x.2.2.2.2.2.2.1) (0 : Int))) (64 : Nat)))))), (x.2.2.1, (x.2.2.2.1, (x.2.2.2.2.1, (x.2.2.2.2.2.1, ((Go.IntKind.wrap Go.IntKind.i64 (x.2.2.2.2.2.2.1 + (1 : Int))), ((List.set x.2.2.2.2.2.2.2.1 (Int.toNat (List.getD x.2.2.2.2.1 (Int.toNat x.2.2.2.2.2.2.1) (0 : Int))) (Go.IntKind.wrap Go.IntKind.i64 ((List.getD x.2.2.2.2.2.2.2.1 (Int.toNat (List.getD x.2.2.2.2.1 (Int.toNat x.2.2.2.2.2.2.1) (0 : Int))) (0 : Int)) + (1 : Int)))), (x.2.2.2.2.2.2.2.2.1, (x.2.2.2.2.2.2.2.2.2.1, (((List.take (List.length x.2.2.2.2.2.2.2.2.2.2.1) (List.drop (0 : Nat) x.2.2.2.2.2.2.2.2.2.2.1)) ++ (List.take (1 : Nat) (List.drop (0 : Nat) (List.set (List.replicate (1 : Nat) (0 : Int)) (0 : Nat) x.2.2.2.2.2.2.1)))), Unit.unit)))))))))))))
   else none))
   else none)
   else none)
   else none)
   else none)
   else none)
   else (if ((List.length x.2.2.2.2.2.2.2.2.2.2.1) = (List.length x.2.2.2.2.2.2.2.2.2.2.1)) then (some (Sum.inl (x.1, (x.2.1, (x.2.2.1, (x.2.2.2.1, (x.2.2.2.2.1, (x.2.2.2.2.2.1, ((Go.IntKind.wrap Go.IntKind.i64 (x.2.2.2.2.2.2.1 + (1 : Int))), (x.2.2.2.2.2.2.2.1, (x.2.2.2.2.2.2.2.2.1, (x.2.2.2.2.2.2.2.2.2.1, (x.2.2.2.2.2.2.2.2.2.2.1, Unit.unit)))))))))))))
   else none))
   else none)
   else none)
   else (if ((List.length x.2.2.2.2.2.2.2.2.2.2.1) = (List.length x.2.2.2.2.2.2.2.2.2.2.1)) then (some (Sum.inr (Sum.inl (x.1, (x.2.1, (x.2.2.2.1, (x.2.2.2.2.2.2.2.1, (x.2.2.2.2.2.2.2.2.1, (x.2.2.2.2.2.2.2.2.2.1, (x.2.2.2.2.2.2.2.2.2.2.1, Unit.unit))))))))))
   else none))
theorem b29_2_eq (x : g29_2.D) : b29_2 x = evF P (T35.orc _) Go.Proofs.Try.f29.ntmps fx29 (Code.at [true, true, true, true, true, false, true, false, false, true, true, false, false, true, true, false, false] c29) (planAt 64 []) g29_2 x (injK fx29 ((.normal, g29_2) :: o29_2) some) := by kernel_rfl
noncomputable def l29_2 : g29_2.D → Option (outD o29_2) := loopN g29_2 o29_2 b29_2 18446744073709551616
theorem at29_2 : Code.at [true, true, true, true, true, false, true, false, false, true, true, false, false, true, true, false] c29 = .loop (Code.at [true, true, true, true, true, false, true, false, false, true, true, false, false, true, true, false, false] c29) := by kernel_rfl
theorem s29_2_ok : SubOk P Go.Proofs.Try.f29.ntmps fx29 (Code.at [true, true, true, true, true, false, true, false, false, true, true, false, false, true, true, false] c29) ⟨g29_2, o29_2, l29_2⟩ := by
  rw [at29_2]
  exact loop_ok (sub_ok (g := g29_2) (outs := ((.normal, g29_2) :: o29_2)) (f := b29_2) (Table.ok T35_ok _) hmix (planAt_ok (P := P) (n := Go.Proofs.Try.f29.ntmps) (fx := fx29) (c := (Code.at [true, true, true, true, true, false, true, false, false, true, true, false, false, true, true, false, false] c29)) (d := 64) (l := []) trivial) b29_2_eq) rfl _
abbrev g29_1 : Sg := ⟨[0, 6, 7, 24], [.lf (.sl (.int .i64)), .lf (.ptr 0 0), .lf (.int .i64), .lf (.int .i64)], [some (.box true [.many (.int .i64) 16, .lf (.sl (.int .i64)), .lf (.sl (.int .i64)), .lf (.gr (.int .i64) 1)]), some (.arr true (.int .i64))]⟩
abbrev o29_1 : Outs := [(.exit 0, ⟨[6, 7], [.lf (.ptr 0 0), .lf (.int .i64)], [some (.box true [.many (.int .i64) 16, .lf (.sl (.int .i64)), .lf (.sl (.int .i64)), .lf (.gr (.int .i64) 1)]), some (.arr true (.int .i64))]⟩)]
noncomputable def b29_1 (x : g29_1.D) : Option (outD ((.normal, g29_1) :: o29_1)) :=
  (if ((decide (x.2.2.1 < (15 : Int))) = true) then (if ((List.length x.2.2.2.2.2.2.1) = (List.length x.2.2.2.2.2.2.1)) then (Option.bind (Go.Ev.Inflate.l29_2 (x.1, (x.2.1, (x.2.2.1, (x.2.2.1, (x.1, ((((List.length x.1) : Nat) : Int), ((0 : Int), (x.2.2.2.1, (x.2.2.2.2.1, (x.2.2.2.2.2.1, (x.2.2.2.2.2.2.1, Unit.unit)))))))))))) (Sum.elim (fun y1 => (if ((List.length y1.2.2.2.2.2.2.1) = (List.length y1.2.2.2.2.2.2.1)) then (some (Sum.inl (y1.1, (y1.2.1, ((Go.IntKind.wrap Go.IntKind.i64 (y1.2.2.1 + (1 : Int))), (y1.2.2.2.1, (y1.2.2.2.2.1, (y1.2.2.2.2.2.1, (y1.2.2.2.2.2.2.1, Unit.unit)))))))))
   else none)) Empty.elim))
   else none)
   else (if ((List.length x.2.2.2.2.2.2.1) = (List.length x.2.2.2.2.2.2.1)) then (some (Sum.inr (Sum.inl (x.2.1, (x.2.2.2.1, (x.2.2.2.2.1, (x.2.2.2.2.2.1, (x.2.2.2.2.2.2.1, Unit.unit))))))))
   else none))
theorem b29_1_eq (x : g29_1.D) : b29_1 x = evF P (T35.orc _) Go.Proofs.Try.f29.ntmps fx29 (Code.at [true, true, true, true, true, false, true, false, false] c29) (planAt 64 [([true, true, false, false, true, true, false], ⟨g29_2, o29_2, l29_2⟩)]) g29_1 x (injK fx29 ((.normal, g29_1) :: o29_1) some) := by kernel_rfl
noncomputable def l29_1 : g29_1.D → Option (outD o29_1) := loopN g29_1 o29_1 b29_1 18446744073709551616
theorem p29_1 : AllSub P Go.Proofs.Try.f29.ntmps fx29 (Code.at [true, true, true, true, true, false, true, false, false] c29) [([true, true, false, false, true, true, false], ⟨g29_2, o29_2, l29_2⟩)] := And.intro s29_2_ok (trivial)
theorem q29_1 : PlanOk P Go.Proofs.Try.f29.ntmps fx29 (planAt 64 [([true, true, false, false, true, true, false], ⟨g29_2, o29_2, l29_2⟩)]) (Code.at [true, true, true, true, true, false, true, false, false] c29) := planAt_ok p29_1
theorem at29_1 : Code.at [true, true, true, true, true, false, true, false] c29 = .loop (Code.at [true, true, true, true, true, false, true, false, false] c29) := by kernel_rfl
theorem s29_1_ok : SubOk P Go.Proofs.Try.f29.ntmps fx29 (Code.at [true, true, true, true, true, false, true, false] c29) ⟨g29_1, o29_1, l29_1⟩ := by
  rw [at29_1]
  exact loop_ok (sub_ok (g := g29_1) (outs := ((.normal, g29_1) :: o29_1)) (f := b29_1) (Table.ok T35_ok _) hmix (q29_1) b29_1_eq) rfl _
noncomputable def f29 (x : gi29.D) : Option (alt go29) :=
  (Option.bind (Go.Ev.Inflate.f34 (x.1, Unit.unit)) (fun y1 => (if ((y1.1 != (0 : Int)) = true) then (some (Sum.inl (y1.1, Unit.unit)))
   else (Option.bind (Go.Ev.Inflate.f35 (x.1, Unit.unit)) (fun y2 => (Option.bind (Go.Ev.Inflate.l29_1 (x.1, ((0 : Int), ((0 : Int), ((List.replicate (16 : Nat) (0 : Int)), ((List.take (List.length y2.1) (List.drop (0 : Nat) y2.1)), ((List.take (List.length y1.2.1) (List.drop (0 : Nat) y1.2.1)), ([], Unit.unit)))))))) (Sum.elim (fun y3 => (if ((decide (y3.1 < (32768 : Int))) = true) then (if ((decide ((((List.length y3.2.2.2.2.1) : Nat) : Int) > (0 : Int))) = true) then (if ((decide ((((List.length y3.2.2.2.2.1) : Nat) : Int) > (1 : Int))) = true) then (some (Sum.inl ((4 : Int), Unit.unit)))
   else (if (((List.getD y3.2.1 (1 : Nat) (0 : Int)) == (0 : Int)) = true) then (some (Sum.inl ((4 : Int), Unit.unit)))
   else (if ((List.length y3.2.2.2.2.1) = (List.length y3.2.2.2.2.1)) then (some (Sum.inr ((0 : Int), (y3.2.1, (y3.2.2.1, (y3.2.2.2.1, (y3.2.2.2.2.1, Unit.unit)))))))
   else none)))
   else (if ((List.length y3.2.2.2.2.1) = (List.length y3.2.2.2.2.1)) then (some (Sum.inr ((0 : Int), (y3.2.1, (y3.2.2.1, (y3.2.2.2.1, (y3.2.2.2.2.1, Unit.unit)))))))
   else none))
   else (if ((List.length y3.2.2.2.2.1) = (List.length y3.2.2.2.2.1)) then (some (Sum.inr ((0 : Int), (y3.2.1, (y3.2.2.1, (y3.2.2.2.1, (y3.2.2.2.2.1, Unit.unit)))))))
   else none))) Empty.elim)))))))
theorem f29_eq (x : gi29.D) : f29 x = evF P (T35.orc _) Go.Proofs.Try.f29.ntmps fx29 c29 (planAt 64 [([true, true, true, true, true, false, true, false], ⟨g29_1, o29_1, l29_1⟩)]) gi29 x (fnK fx29 go29) := by kernel_rfl
theorem pf29 : AllSub P Go.Proofs.Try.f29.ntmps fx29 c29 [([true, true, true, true, true, false, true, false], ⟨g29_1, o29_1, l29_1⟩)] := And.intro s29_1_ok (trivial)
theorem qf29 : PlanOk P Go.Proofs.Try.f29.ntmps fx29 (planAt 64 [([true, true, true, true, true, false, true, false], ⟨g29_1, o29_1, l29_1⟩)]) c29 := planAt_ok pf29
theorem f29_ok : EntOk P 29 ⟨gi29, go29, f29⟩ :=
  ent_ok (fn := Go.Proofs.Try.f29) (gi := gi29) (gos := go29) (f := f29) (c := c29) (fx := fx29) ⟨Go.Proofs.Try.func29, by kernel_rfl, rfl, by decide +kernel, rfl, rfl⟩ (by kernel_rfl) (Table.ok T35_ok _) hmix (qf29) f29_eq
noncomputable def T29 : Table := T35.add 29 [⟨gi29, go29, f29⟩] []
theorem T29_ok : TableOk P T29 := Table.plus T35_ok (es := [⟨gi29, go29, f29⟩]) ⟨f29_ok, trivial⟩ []

/-! ## 37: (*erasure/huff.Table).Read -/
noncomputable def c37 : Code := Func.code Go.Proofs.Try.f37
abbrev gi37 : Sg := ⟨[0, 1], [.lf .nilp, .lf (.ptr 0 0)], [some (.box true [.lf (.sl (.int .u8)), .lf (.int .i64), .lf (.int .i64), .lf (.int .i64)])]⟩
abbrev go37 : Sg := ⟨[4, 5], [.lf (.int .i64), .lf (.int .i64)], [some (.box true [.lf (.sl (.int .u8)), .lf (.int .i64), .lf (.int .i64), .lf (.int .i64)])]⟩
def fx37 : List Bool := [true]
noncomputable def f37 (x : gi37.D) : Option go37.D :=
  (some ((0 : Int), ((3 : Int), (x.1, (x.2.1, (x.2.2.1, (x.2.2.2.1, Unit.unit)))))))
theorem f37_eq (x : gi37.D) : f37 x = evF P (T29.orc _) Go.Proofs.Try.f37.ntmps fx37 c37 (planAt 64 []) gi37 x (fnK fx37 [go37]) := by kernel_rfl
theorem f37_ok : EntOk P 37 ⟨gi37, [go37], f37⟩ :=
  ent_ok (fn := Go.Proofs.Try.f37) (gi := gi37) (gos := [go37]) (f := f37) (c := c37) (fx := fx37) ⟨Go.Proofs.Try.func37, by kernel_rfl, rfl, by decide +kernel, rfl, rfl⟩ (by kernel_rfl) (Table.ok T29_ok _) hmix (planAt_ok (P := P) (n := Go.Proofs.Try.f37.ntmps) (fx := fx37) (c := c37) (d := 64) (l := []) trivial) f37_eq
abbrev gi37_b : Sg := ⟨[0, 1], [.lf (.ptr 0 0), .lf (.ptr 2 0)], [some (.box true [.many (.int .i64) 16, .lf (.sl (.int .i64)), .lf (.sl (.int .i64)), .lf (.gr (.int .i64) 1)]), some (.arr true (.int .i64)), some (.box true [.lf (.sl (.int .u8)), .lf (.int .i64), .lf (.int .i64), .lf (.int .i64)])]⟩
abbrev go37_b : Sg := ⟨[4, 5], [.lf (.int .i64), .lf (.int .i64)], [some (.box true [.many (.int .i64) 16, .lf (.sl (.int .i64)), .lf (.sl (.int .i64)), .lf (.gr (.int .i64) 1)]), some (.arr true (.int .i64)), some (.box true [.lf (.sl (.int .u8)), .lf (.int .i64), .lf (.int .i64), .lf (.int .i64)])]⟩
def fx37_b : List Bool := [true, true, true]
abbrev g37_b_2 : Sg := ⟨[0, 1, 6, 7, 8, 9, 12], [.lf (.ptr 0 0), .lf (.ptr 2 0), .lf (.int .i64), .lf (.int .i64), .lf (.int .i64), .lf (.int .i64), .lf (.int .i64)], [some (.box true [.many (.int .i64) 16, .lf (.sl (.int .i64)), .lf (.sl (.int .i64)), .lf (.gr (.int .i64) 1)]), some (.arr true (.int .i64)), some (.box true [.lf (.sl (.int .u8)), .lf (.int .i64), .lf (.int .i64), .lf (.int .i64)])]⟩
abbrev o37_b_2 : Outs := [(.normal, ⟨[0, 1, 6, 7, 8, 9, 12, 51], [.lf (.ptr 0 0), .lf (.ptr 2 0), .lf (.int .i64), .lf (.int .i64), .lf (.int .i64), .lf (.int .i64), .lf (.int .i64), .lf .bool], [some (.box true [.many (.int .i64) 16, .lf (.sl (.int .i64)), .lf (.sl (.int .i64)), .lf (.gr (.int .i64) 1)]), some (.arr true (.int .i64)), some (.box true [.lf (.sl (.int .u8)), .lf (.int .i64), .lf (.int .i64), .lf (.int .i64)])]⟩)]
noncomputable def b37_b_2 (x : g37_b_2.D) : Option (outD o37_b_2) :=
  (if ((decide (x.2.2.2.2.1 ≥ (0 : Int))) = true) then (if ((0 : Int) ≤ x.2.2.2.1) then (if (x.2.2.2.1 < (16 : Int)) then (if ((List.length x.2.2.2.2.2.2.2.2.1) = (List.length x.2.2.2.2.2.2.2.2.1)) then (some (Sum.inl (x.1, (x.2.1, (x.2.2.1, (x.2.2.2.1, (x.2.2.2.2.1, ((decide (x.2.2.2.2.1 < (List.getD x.2.2.2.2.2.1 (Int.toNat x.2.2.2.1) (0 : Int)))), (x.2.2.2.2.2.1, (x.2.2.2.2.2.2.1, (x.2.2.2.2.2.2.2.1, (x.2.2.2.2.2.2.2.2.1, (x.2.2.2.2.2.2.2.2.2.1, (x.2.2.2.2.2.2.2.2.2.2.1, (x.2.2.2.2.2.2.2.2.2.2.2.1, (x.2.2.2.2.2.2.2.2.2.2.2.2.1, Unit.unit))))))))))))))))
   else none)
   else none)
   else none)
   else (if ((List.length x.2.2.2.2.2.2.2.2.1) = (List.length x.2.2.2.2.2.2.2.2.1)) then (some (Sum.inl (x.1, (x.2.1, (x.2.2.1, (x.2.2.2.1, (x.2.2.2.2.1, (false, (x.2.2.2.2.2.1, (x.2.2.2.2.2.2.1, (x.2.2.2.2.2.2.2.1, (x.2.2.2.2.2.2.2.2.1, (x.2.2.2.2.2.2.2.2.2.1, (x.2.2.2.2.2.2.2.2.2.2.1, (x.2.2.2.2.2.2.2.2.2.2.2.1, (x.2.2.2.2.2.2.2.2.2.2.2.2.1, Unit.unit))))))))))))))))
   else none))
theorem b37_b_2_eq (x : g37_b_2.D) : b37_b_2 x = evF P (T29.orc _) Go.Proofs.Try.f37.ntmps fx37_b (Code.at [true, true, true, false, true, false, false, true, false, false, true, true, true, false, true, false] c37) (planAt 64 []) g37_b_2 x (injK fx37_b o37_b_2 some) := by kernel_rfl
theorem s37_b_2_ok : SubOk P Go.Proofs.Try.f37.ntmps fx37_b (Code.at [true, true, true, false, true, false, false, true, false, false, true, true, true, false, true, false] c37) ⟨g37_b_2, o37_b_2, b37_b_2⟩ :=
  sub_ok (g := g37_b_2) (outs := o37_b_2) (f := b37_b_2) (Table.ok T29_ok _) hmix (planAt_ok (P := P) (n := Go.Proofs.Try.f37.ntmps) (fx := fx37_b) (c := (Code.at [true, true, true, false, true, false, false, true, false, false, true, true, true, false, true, false] c37)) (d := 64) (l := []) trivial) b37_b_2_eq
abbrev g37_b_1 : Sg := ⟨[0, 1, 6, 7, 8, 9], [.lf (.ptr 0 0), .lf (.ptr 2 0), .lf (.int .i64), .lf (.int .i64), .lf (.int .i64), .lf (.int .i64)], [some (.box true [.many (.int .i64) 16, .lf (.sl (.int .i64)), .lf (.sl (.int .i64)), .lf (.gr (.int .i64) 1)]), some (.arr true (.int .i64)), some (.box true [.lf (.sl (.int .u8)), .lf (.int .i64), .lf (.int .i64), .lf (.int .i64)])]⟩
abbrev o37_b_1 : Outs := [(.exit 0, ⟨[], [], [some (.box true [.many (.int .i64) 16, .lf (.sl (.int .i64)), .lf (.sl (.int .i64)), .lf (.gr (.int .i64) 1)]), some (.arr true (.int .i64)), some (.box true [.lf (.sl (.int .u8)), .lf (.int .i64), .lf (.int .i64), .lf (.int .i64)])]⟩), (.ret, ⟨[4, 5], [.lf (.int .i64), .lf (.int .i64)], [some (.box true [.many (.int .i64) 16, .lf (.sl (.int .i64)), .lf (.sl (.int .i64)), .lf (.gr (.int .i64) 1)]), some (.arr true (.int .i64)), some (.box true [.lf (.sl (.int .u8)), .lf (.int .i64), .lf (.int .i64), .lf (.int .i64)])]⟩)]
noncomputable def b37_b_1 (x : g37_b_1.D) : Option (outD ((.normal, g37_b_1) :: o37_b_1)) :=
  (if ((decide (x.2.2.2.1 ≤ (15 : Int))) = true) then (Option.bind (Go.Ev.Inflate.f25 ((1 : Int), (x.2.2.2.2.2.2.2.2.1, (x.2.2.2.2.2.2.2.2.2.1, (x.2.2.2.2.2.2.2.2.2.2.1, (x.2.2.2.2.2.2.2.2.2.2.2.1, Unit.unit)))))) (fun y1 => (if ((y1.2.1 != (0 : Int)) = true) then (if ((List.length x.2.2.2.2.2.2.2.1) = (List.length x.2.2.2.2.2.2.2.1)) then (some (Sum.inr (Sum.inr (Sum.inl ((0 : Int), (y1.2.1, (x.2.2.2.2.1, (x.2.2.2.2.2.1, (x.2.2.2.2.2.2.1, (x.2.2.2.2.2.2.2.1, (y1.2.2.1, (y1.2.2.2.1, (y1.2.2.2.2.1, (y1.2.2.2.2.2.1, Unit.unit))))))))))))))
   else none)
   else (if ((List.length x.2.2.2.2.2.2.2.1) = (List.length x.2.2.2.2.2.2.2.1)) then (Option.bind (Go.Ev.Inflate.b37_b_2 ((Go.IntKind.wrap Go.IntKind.i64 (((BitVec.toNat ((BitVec.ofInt (64 : Nat) (Go.IntKind.wrap Go.IntKind.i64 (x.1 * (2 : Int)))) ||| (BitVec.ofInt (64 : Nat) y1.1))) : Nat) : Int)), ((Go.IntKind.wrap Go.IntKind.i64 (x.2.1 * (2 : Int))), (x.2.2.1, (x.2.2.2.1, ((Go.IntKind.wrap Go.IntKind.i64 ((Go.IntKind.wrap Go.IntKind.i64 (((BitVec.toNat ((BitVec.ofInt (64 : Nat) (Go.IntKind.wrap Go.IntKind.i64 (x.1 * (2 : Int)))) ||| (BitVec.ofInt (64 : Nat) y1.1))) : Nat) : Int)) - (Go.IntKind.wrap Go.IntKind.i64 (x.2.1 * (2 : Int))))), (x.2.2.2.2.1, (x.2.2.2.2.2.1, (x.2.2.2.2.2.2.1, (x.2.2.2.2.2.2.2.1, (y1.2.2.1, (y1.2.2.2.1, (y1.2.2.2.2.1, (y1.2.2.2.2.2.1, Unit.unit)))))))))))))) (Sum.elim (fun y2 => (if (y2.2.2.2.2.2.1 = true) then (if ((0 : Int) ≤ (Go.IntKind.wrap Go.IntKind.i64 (y2.2.2.1 + y2.2.2.2.2.1))) then (if ((Go.IntKind.wrap Go.IntKind.i64 (y2.2.2.1 + y2.2.2.2.2.1)) < (((List.length y2.2.2.2.2.2.2.2.2.2.1) : Nat) : Int)) then (if ((List.length y2.2.2.2.2.2.2.2.2.2.1) = (List.length y2.2.2.2.2.2.2.2.2.2.1)) then (some (Sum.inr (Sum.inr (Sum.inl ((List.getD y2.2.2.2.2.2.2.2.2.2.1 ((0 : Nat) + (Int.toNat (Go.IntKind.wrap Go.IntKind.i64 (y2.2.2.1 + y2.2.2.2.2.1)))) (0 : Int)), ((0 : Int), (y2.2.2.2.2.2.2.1, (y2.2.2.2.2.2.2.2.1, (y2.2.2.2.2.2.2.2.2.1, (y2.2.2.2.2.2.2.2.2.2.1, (y2.2.2.2.2.2.2.2.2.2.2.1, (y2.2.2.2.2.2.2.2.2.2.2.2.1, (y2.2.2.2.2.2.2.2.2.2.2.2.2.1, (y2.2.2.2.2.2.2.2.2.2.2.2.2.2.1, Unit.unit))))))))))))))
   else none)
   else none)
   else none)
   else (if ((0 : Int) ≤ y2.2.2.2.1) then (if (y2.2.2.2.1 < (16 : Int)) then (if ((0 : Int) ≤ y2.2.2.2.1) then (if (y2.2.2.2.1 < (16 : Int)) then (if ((List.length y2.2.2.2.2.2.2.2.2.2.1) = (List.length y2.2.2.2.2.2.2.2.2.2.1)) then (some (Sum.inl (y2.1, ((Go.IntKind.wrap Go.IntKind.i64 (y2.2.1 + (List.getD y2.2.2.2.2.2.2.1 (Int.toNat y2.2.2.2.1) (0 : Int)))), ((Go.IntKind.wrap Go.IntKind.i64 (y2.2.2.1 + (List.getD y2.2.2.2.2.2.2.1 (Int.toNat y2.2.2.2.1) (0 : Int)))), ((Go.IntKind.wrap Go.IntKind.i64 (y2.2.2.2.1 + (1 : Int))), (y2.2.2.2.2.2.2.1, (y2.2.2.2.2.2.2.2.1, (y2.2.2.2.2.2.2.2.2.1, (y2.2.2.2.2.2.2.2.2.2.1, (y2.2.2.2.2.2.2.2.2.2.2.1, (y2.2.2.2.2.2.2.2.2.2.2.2.1, (y2.2.2.2.2.2.2.2.2.2.2.2.2.1, (y2.2.2.2.2.2.2.2.2.2.2.2.2.2.1, Unit.unit))))))))))))))
   else none)
   else none)
   else none)
   else none)
   else none))) Empty.elim))
   else none))))
   else (if ((List.length x.2.2.2.2.2.2.2.1) = (List.length x.2.2.2.2.2.2.2.1)) then (some (Sum.inr (Sum.inl (x.2.2.2.2.1, (x.2.2.2.2.2.1, (x.2.2.2.2.2.2.1, (x.2.2.2.2.2.2.2.1, (x.2.2.2.2.2.2.2.2.1, (x.2.2.2.2.2.2.2.2.2.1, (x.2.2.2.2.2.2.2.2.2.2.1, (x.2.2.2.2.2.2.2.2.2.2.2.1, Unit.unit)))))))))))
   else none))
theorem b37_b_1_eq (x : g37_b_1.D) : b37_b_1 x = evF P (T29.orc _) Go.Proofs.Try.f37.ntmps fx37_b (Code.at [true, true, true, false, true, false, false] c37) (planAt 64 [([true, false, false, true, true, true, false, true, false], ⟨g37_b_2, o37_b_2, b37_b_2⟩)]) g37_b_1 x (injK fx37_b ((.normal, g37_b_1) :: o37_b_1) some) := by kernel_rfl
noncomputable def l37_b_1 : g37_b_1.D → Option (outD o37_b_1) := loopN g37_b_1 o37_b_1 b37_b_1 18446744073709551616
theorem p37_b_1 : AllSub P Go.Proofs.Try.f37.ntmps fx37_b (Code.at [true, true, true, false, true, false, false] c37) [([true, false, false, true, true, true, false, true, false], ⟨g37_b_2, o37_b_2, b37_b_2⟩)] := And.intro s37_b_2_ok (trivial)
theorem q37_b_1 : PlanOk P Go.Proofs.Try.f37.ntmps fx37_b (planAt 64 [([true, false, false, true, true, true, false, true, false], ⟨g37_b_2, o37_b_2, b37_b_2⟩)]) (Code.at [true, true, true, false, true, false, false] c37) := planAt_ok p37_b_1
theorem at37_b_1 : Code.at [true, true, true, false, true, false] c37 = .loop (Code.at [true, true, true, false, true, false, false] c37) := by kernel_rfl
theorem s37_b_1_ok : SubOk P Go.Proofs.Try.f37.ntmps fx37_b (Code.at [true, true, true, false, true, false] c37) ⟨g37_b_1, o37_b_1, l37_b_1⟩ := by
  rw [at37_b_1]
  exact loop_ok (sub_ok (g := g37_b_1) (outs := ((.normal, g37_b_1) :: o37_b_1)) (f := b37_b_1) (Table.ok T29_ok _) hmix (q37_b_1) b37_b_1_eq) rfl _
noncomputable def f37_b (x : gi37_b.D) : Option go37_b.D :=
  (if ((List.length x.2.2.2.1) = (List.length x.2.2.2.1)) then (Option.bind (Go.Ev.Inflate.l37_b_1 ((0 : Int), ((0 : Int), ((0 : Int), ((1 : Int), (x.1, (x.2.1, (x.2.2.1, (x.2.2.2.1, (x.2.2.2.2.1, (x.2.2.2.2.2.1, (x.2.2.2.2.2.2.1, (x.2.2.2.2.2.2.2.1, Unit.unit))))))))))))) (Sum.elim (fun y1 => (if ((List.length y1.2.2.2.1) = (List.length y1.2.2.2.1)) then (some ((0 : Int), ((4 : Int), (y1.1, (y1.2.1, (y1.2.2.1, (y1.2.2.2.1, (y1.2.2.2.2.1, (y1.2.2.2.2.2.1, (y1.2.2.2.2.2.2.1, (y1.2.2.2.2.2.2.2.1, Unit.unit)))))))))))
   else none)) (Sum.elim (fun y1 => (if ((List.length y1.2.2.2.2.2.1) = (List.length y1.2.2.2.2.2.1)) then (some (y1.1, (y1.2.1, (y1.2.2.1, (y1.2.2.2.1, (y1.2.2.2.2.1, (y1.2.2.2.2.2.1, (y1.2.2.2.2.2.2.1, (y1.2.2.2.2.2.2.2.1, (y1.2.2.2.2.2.2.2.2.1, (y1.2.2.2.2.2.2.2.2.2.1, Unit.unit)))))))))))
   else none)) Empty.elim)))
   else none)
theorem f37_b_eq (x : gi37_b.D) : f37_b x = evF P (T29.orc _) Go.Proofs.Try.f37.ntmps fx37_b c37 (planAt 64 [([true, true, true, false, true, false], ⟨g37_b_1, o37_b_1, l37_b_1⟩)]) gi37_b x (fnK fx37_b [go37_b]) := by kernel_rfl
theorem pf37_b : AllSub P Go.Proofs.Try.f37.ntmps fx37_b c37 [([true, true, true, false, true, false], ⟨g37_b_1, o37_b_1, l37_b_1⟩)] := And.intro s37_b_1_ok (trivial)
theorem qf37_b : PlanOk P Go.Proofs.Try.f37.ntmps fx37_b (planAt 64 [([true, true, true, false, true, false], ⟨g37_b_1, o37_b_1, l37_b_1⟩)]) c37 := planAt_ok pf37_b
theorem f37_b_ok : EntOk P 37 ⟨gi37_b, [go37_b], f37_b⟩ :=
  ent_ok (fn := Go.Proofs.Try.f37) (gi := gi37_b) (gos := [go37_b]) (f := f37_b) (c := c37) (fx := fx37_b) ⟨Go.Proofs.Try.func37, by kernel_rfl, rfl, by decide +kernel, rfl, rfl⟩ (by kernel_rfl) (Table.ok T29_ok _) hmix (qf37_b) f37_b_eq
noncomputable def T37 : Table := T29.add 37 [⟨gi37, [go37], f37⟩, ⟨gi37_b, [go37_b], f37_b⟩] []
theorem T37_ok : TableOk P T37 := Table.plus T29_ok (es := [⟨gi37, [go37], f37⟩, ⟨gi37_b, [go37_b], f37_b⟩]) ⟨f37_ok, f37_b_ok, trivial⟩ []

/-! ## 38: erasure/inflate.length -/
noncomputable def c38 : Code := Func.code Go.Proofs.Try.f38
abbrev gi38 : Sg := ⟨[0], [.lf (.int .i64)], []⟩
abbrev go38 : Sg := ⟨[2, 3], [.lf (.int .i64), .lf (.int .i64)], []⟩
def fx38 : List Bool := []
noncomputable def f38 (x : gi38.D) : Option go38.D :=
  (if ((x.1 == (285 : Int)) = true) then (some ((258 : Int), ((0 : Int), Unit.unit)))
   else (if ((decide ((Go.IntKind.wrap Go.IntKind.i64 ((Go.IntKind.wrap Go.IntKind.i64 (x.1 - (256 : Int))) - (1 : Int))) < (8 : Int))) = true) then (some ((Go.IntKind.wrap Go.IntKind.i64 ((3 : Int) + (Go.IntKind.wrap Go.IntKind.i64 ((Go.IntKind.wrap Go.IntKind.i64 (x.1 - (256 : Int))) - (1 : Int))))), ((0 : Int), Unit.unit)))
   else (if ((Go.IntKind.wrap Go.IntKind.i64 ((Int.fdiv (Go.IntKind.wrap Go.IntKind.i64 ((Go.IntKind.wrap Go.IntKind.i64 (x.1 - (256 : Int))) - (1 : Int))) (4 : Int)) - (1 : Int))) < (0 : Int)) then none
   else (some ((Go.IntKind.wrap Go.IntKind.i64 ((3 : Int) + (Go.IntKind.wrap Go.IntKind.i64 ((Go.IntKind.wrap Go.IntKind.i64 ((4 : Int) + (Go.IntKind.wrap Go.IntKind.i64 (((BitVec.toNat ((BitVec.ofInt (64 : Nat) (Go.IntKind.wrap Go.IntKind.i64 ((Go.IntKind.wrap Go.IntKind.i64 (x.1 - (256 : Int))) - (1 : Int)))) &&& (BitVec.ofInt (64 : Nat) (3 : Int)))) : Nat) : Int)))) * ((2 : Int) ^ (Min.min (Int.toNat (Go.IntKind.wrap Go.IntKind.i64 ((Int.fdiv (Go.IntKind.wrap Go.IntKind.i64 ((Go.IntKind.wrap Go.IntKind.i64 (x.1 - (256 : Int))) - (1 : Int))) (4 : Int)) - (1 : Int)))) (64 : Nat))))))), ((Go.IntKind.wrap Go.IntKind.i64 ((Int.fdiv (Go.IntKind.wrap Go.IntKind.i64 ((Go.IntKind.wrap Go.IntKind.i64 (x.1 - (256 : Int))) - (1 : Int))) (4 : Int)) - (1 : Int))), Unit.unit))))))
theorem f38_eq (x : gi38.D) : f38 x = evF P (T37.orc _) Go.Proofs.Try.f38.ntmps fx38 c38 (planAt 64 []) gi38 x (fnK fx38 [go38]) := by kernel_rfl
theorem f38_ok : EntOk P 38 ⟨gi38, [go38], f38⟩ :=
  ent_ok (fn := Go.Proofs.Try.f38) (gi := gi38) (gos := [go38]) (f := f38) (c := c38) (fx := fx38) ⟨Go.Proofs.Try.func38, by kernel_rfl, rfl, by decide +kernel, rfl, rfl⟩ (by kernel_rfl) (Table.ok T37_ok _) hmix (planAt_ok (P := P) (n := Go.Proofs.Try.f38.ntmps) (fx := fx38) (c := c38) (d := 64) (l := []) trivial) f38_eq
noncomputable def T38 : Table := T37.add 38 [⟨gi38, [go38], f38⟩] []
theorem T38_ok : TableOk P T38 := Table.plus T37_ok (es := [⟨gi38, [go38], f38⟩]) ⟨f38_ok, trivial⟩ []

/-! ## 39: erasure/inflate.back -/
noncomputable def c39 : Code := Func.code Go.Proofs.Try.f39
abbrev gi39 : Sg := ⟨[0], [.lf (.int .i64)], []⟩
abbrev go39 : Sg := ⟨[2, 3], [.lf (.int .i64), .lf (.int .i64)], []⟩
def fx39 : List Bool := []
noncomputable def f39 (x : gi39.D) : Option go39.D :=
  (if ((decide (x.1 < (4 : Int))) = true) then (some ((Go.IntKind.wrap Go.IntKind.i64 ((1 : Int) + x.1)), ((0 : Int), Unit.unit)))
   else (if ((Go.IntKind.wrap Go.IntKind.i64 ((Int.fdiv x.1 (2 : Int)) - (1 : Int))) < (0 : Int)) then none
   else (some ((Go.IntKind.wrap Go.IntKind.i64 ((1 : Int) + (Go.IntKind.wrap Go.IntKind.i64 ((Go.IntKind.wrap Go.IntKind.i64 ((2 : Int) + (Go.IntKind.wrap Go.IntKind.i64 (((BitVec.toNat ((BitVec.ofInt (64 : Nat) x.1) &&& (BitVec.ofInt (64 : Nat) (1 : Int)))) : Nat) : Int)))) * ((2 : Int) ^ (Min.min (Int.toNat (Go.IntKind.wrap Go.IntKind.i64 ((Int.fdiv x.1 (2 : Int)) - (1 : Int)))) (64 : Nat))))))), ((Go.IntKind.wrap Go.IntKind.i64 ((Int.fdiv x.1 (2 : Int)) - (1 : Int))), Unit.unit)))))
theorem f39_eq (x : gi39.D) : f39 x = evF P (T38.orc _) Go.Proofs.Try.f39.ntmps fx39 c39 (planAt 64 []) gi39 x (fnK fx39 [go39]) := by kernel_rfl
theorem f39_ok : EntOk P 39 ⟨gi39, [go39], f39⟩ :=
  ent_ok (fn := Go.Proofs.Try.f39) (gi := gi39) (gos := [go39]) (f := f39) (c := c39) (fx := fx39) ⟨Go.Proofs.Try.func39, by kernel_rfl, rfl, by decide +kernel, rfl, rfl⟩ (by kernel_rfl) (Table.ok T38_ok _) hmix (planAt_ok (P := P) (n := Go.Proofs.Try.f39.ntmps) (fx := fx39) (c := c39) (d := 64) (l := []) trivial) f39_eq
noncomputable def T39 : Table := T38.add 39 [⟨gi39, [go39], f39⟩] []
theorem T39_ok : TableOk P T39 := Table.plus T38_ok (es := [⟨gi39, [go39], f39⟩]) ⟨f39_ok, trivial⟩ []

/-! ## 32: (*erasure/inflate.work).words -/
noncomputable def c32 : Code := Func.code Go.Proofs.Try.f32
abbrev gi32 : Sg := ⟨[0, 1, 2], [.lf (.ptr 0 0), .lf .nilp, .lf .nilp], [some (.box true [.lf (.ptr 1 0), .lf (.gr (.pair (.int .i64) (.pair (.int .i64) (.int .i64))) 2), .lf (.int .i64), .lf (.int .i64)]), some (.box true [.lf (.sl (.int .u8)), .lf (.int .i64), .lf (.int .i64), .lf (.int .i64)]), some (.arr true (.pair (.int .i64) (.pair (.int .i64) (.int .i64))))]⟩
abbrev go32 : Sg := ⟨[6], [.lf (.int .i64)], [some (.box true [.lf (.ptr 1 0), .lf (.gr (.pair (.int .i64) (.pair (.int .i64) (.int .i64))) 3), .lf (.int .i64), .lf (.int .i64)]), some (.box true [.lf (.sl (.int .u8)), .lf (.int .i64), .lf (.int .i64), .lf (.int .i64)]), none, some (.arr true (.pair (.int .i64) (.pair (.int .i64) (.int .i64))))]⟩
def fx32 : List Bool := [true, true, false]
abbrev g32_1 : Sg := ⟨[0, 1, 2], [.lf (.ptr 0 0), .lf .nilp, .lf .nilp], [some (.box true [.lf (.ptr 1 0), .lf (.gr (.pair (.int .i64) (.pair (.int .i64) (.int .i64))) 3), .lf (.int .i64), .lf (.int .i64)]), some (.box true [.lf (.sl (.int .u8)), .lf (.int .i64), .lf (.int .i64), .lf (.int .i64)]), none, some (.arr true (.pair (.int .i64) (.pair (.int .i64) (.int .i64))))]⟩
abbrev o32_1 : Outs := [(.ret, ⟨[6], [.lf (.int .i64)], [some (.box true [.lf (.ptr 1 0), .lf (.gr (.pair (.int .i64) (.pair (.int .i64) (.int .i64))) 3), .lf (.int .i64), .lf (.int .i64)]), some (.box true [.lf (.sl (.int .u8)), .lf (.int .i64), .lf (.int .i64), .lf (.int .i64)]), none, some (.arr true (.pair (.int .i64) (.pair (.int .i64) (.int .i64))))]⟩)]
noncomputable def b32_1 (x : g32_1.D) : Option (outD ((.normal, g32_1) :: o32_1)) :=
  (Option.bind (Go.Ev.Inflate.f37 (x.2.2.1, (x.2.2.2.1, (x.2.2.2.2.1, (x.2.2.2.2.2.1, Unit.unit))))) (fun y1 => (if ((y1.2.1 != (0 : Int)) = true) then (if ((List.length x.2.2.2.2.2.2.1) = (List.length x.2.2.2.2.2.2.1)) then (some (Sum.inr (Sum.inl (y1.2.1, (x.1, (x.2.1, (y1.2.2.1, (y1.2.2.2.1, (y1.2.2.2.2.1, (y1.2.2.2.2.2.1, (x.2.2.2.2.2.2.1, Unit.unit)))))))))))
   else none)
   else (if ((y1.1 == (256 : Int)) = true) then (if ((List.length x.2.2.2.2.2.2.1) = (List.length x.2.2.2.2.2.2.1)) then (some (Sum.inr (Sum.inl ((0 : Int), (x.1, (x.2.1, (y1.2.2.1, (y1.2.2.2.1, (y1.2.2.2.2.1, (y1.2.2.2.2.2.1, (x.2.2.2.2.2.2.1, Unit.unit)))))))))))
   else none)
   else (if ((decide (y1.1 > (285 : Int))) = true) then (if ((List.length x.2.2.2.2.2.2.1) = (List.length x.2.2.2.2.2.2.1)) then (some (Sum.inr (Sum.inl ((4 : Int), (x.1, (x.2.1, (y1.2.2.1, (y1.2.2.2.1, (y1.2.2.2.2.1, (y1.2.2.2.2.2.1, (x.2.2.2.2.2.2.1, Unit.unit)))))))))))
   else none)
   else (if ((decide (y1.1 < (256 : Int))) = true) then (if ((List.length x.2.2.2.2.2.2.1) = (List.length x.2.2.2.2.2.2.1)) then (Option.bind (Go.Ev.Inflate.f28 (y1.1, ((0 : Int), ((0 : Int), (x.1, (x.2.1, (y1.2.2.1, (y1.2.2.2.1, (y1.2.2.2.2.1, (y1.2.2.2.2.2.1, (x.2.2.2.2.2.2.1, Unit.unit))))))))))) (fun y2 => (if ((y2.1 != (0 : Int)) = true) then (if ((List.length y2.2.2.2.2.2.2.2.1) = (List.length y2.2.2.2.2.2.2.2.1)) then (some (Sum.inr (Sum.inl (y2.1, (y2.2.1, (y2.2.2.1, (y2.2.2.2.1, (y2.2.2.2.2.1, (y2.2.2.2.2.2.1, (y2.2.2.2.2.2.2.1, (y2.2.2.2.2.2.2.2.1, Unit.unit)))))))))))
   else none)
   else (if ((List.length y2.2.2.2.2.2.2.2.1) = (List.length y2.2.2.2.2.2.2.2.1)) then (some (Sum.inl (y2.2.1, (y2.2.2.1, (y2.2.2.2.1, (y2.2.2.2.2.1, (y2.2.2.2.2.2.1, (y2.2.2.2.2.2.2.1, (y2.2.2.2.2.2.2.2.1, Unit.unit)))))))))
   else none))))
   else none)
   else (Option.bind (Go.Ev.Inflate.f38 (y1.1, Unit.unit)) (fun y2 => (Option.bind (Go.Ev.Inflate.f25 (y2.2.1, (y1.2.2.1, (y1.2.2.2.1, (y1.2.2.2.2.1, (y1.2.2.2.2.2.1, Unit.unit)))))) (fun y3 => (if ((y3.2.1 != (0 : Int)) = true) then (if ((List.length x.2.2.2.2.2.2.1) = (List.length x.2.2.2.2.2.2.1)) then (some (Sum.inr (Sum.inl (y3.2.1, (x.1, (x.2.1, (y3.2.2.1, (y3.2.2.2.1, (y3.2.2.2.2.1, (y3.2.2.2.2.2.1, (x.2.2.2.2.2.2.1, Unit.unit)))))))))))
   else none)
   else (Option.bind (Go.Ev.Inflate.f37 (y3.2.2.1, (y3.2.2.2.1, (y3.2.2.2.2.1, (y3.2.2.2.2.2.1, Unit.unit))))) (fun y4 => (if ((y4.2.1 != (0 : Int)) = true) then (if ((List.length x.2.2.2.2.2.2.1) = (List.length x.2.2.2.2.2.2.1)) then (some (Sum.inr (Sum.inl (y4.2.1, (x.1, (x.2.1, (y4.2.2.1, (y4.2.2.2.1, (y4.2.2.2.2.1, (y4.2.2.2.2.2.1, (x.2.2.2.2.2.2.1, Unit.unit)))))))))))
   else none)
   else (if ((decide (y4.1 ≥ (30 : Int))) = true) then (if ((List.length x.2.2.2.2.2.2.1) = (List.length x.2.2.2.2.2.2.1)) then (some (Sum.inr (Sum.inl ((4 : Int), (x.1, (x.2.1, (y4.2.2.1, (y4.2.2.2.1, (y4.2.2.2.2.1, (y4.2.2.2.2.2.1, (x.2.2.2.2.2.2.1, Unit.unit)))))))))))
   else none)
   else (Option.bind (Go.Ev.Inflate.f39 (y4.1, Unit.unit)) (fun y5 => (Option.bind (Go.Ev.Inflate.f25 (y5.2.1, (y4.2.2.1, (y4.2.2.2.1, (y4.2.2.2.2.1, (y4.2.2.2.2.2.1, Unit.unit)))))) (fun y6 => (if ((y6.2.1 != (0 : Int)) = true) then (if ((List.length x.2.2.2.2.2.2.1) = (List.length x.2.2.2.2.2.2.1)) then (some (Sum.inr (Sum.inl (y6.2.1, (x.1, (x.2.1, (y6.2.2.1, (y6.2.2.2.1, (y6.2.2.2.2.1, (y6.2.2.2.2.2.1, (x.2.2.2.2.2.2.1, Unit.unit)))))))))))
   else none)
   else (if ((List.length x.2.2.2.2.2.2.1) = (List.length x.2.2.2.2.2.2.1)) then (Option.bind (Go.Ev.Inflate.f28 ((0 : Int), ((Go.IntKind.wrap Go.IntKind.i64 (y2.1 + y3.1)), ((Go.IntKind.wrap Go.IntKind.i64 (y5.1 + y6.1)), (x.1, (x.2.1, (y6.2.2.1, (y6.2.2.2.1, (y6.2.2.2.2.1, (y6.2.2.2.2.2.1, (x.2.2.2.2.2.2.1, Unit.unit))))))))))) (fun y7 => (if ((y7.1 != (0 : Int)) = true) then (if ((List.length y7.2.2.2.2.2.2.2.1) = (List.length y7.2.2.2.2.2.2.2.1)) then (some (Sum.inr (Sum.inl (y7.1, (y7.2.1, (y7.2.2.1, (y7.2.2.2.1, (y7.2.2.2.2.1, (y7.2.2.2.2.2.1, (y7.2.2.2.2.2.2.1, (y7.2.2.2.2.2.2.2.1, Unit.unit)))))))))))
   else none)
   else (if ((List.length y7.2.2.2.2.2.2.2.1) = (List.length y7.2.2.2.2.2.2.2.1)) then (some (Sum.inl (y7.2.1, (y7.2.2.1, (y7.2.2.2.1, (y7.2.2.2.2.1, (y7.2.2.2.2.2.1, (y7.2.2.2.2.2.2.1, (y7.2.2.2.2.2.2.2.1, Unit.unit)))))))))
   else none))))
   else none)))))))))))))))))))))
theorem b32_1_eq (x : g32_1.D) : b32_1 x = evF P (T39.orc _) Go.Proofs.Try.f32.ntmps fx32 (Code.at [true, false, false] c32) (planAt 64 []) g32_1 x (injK fx32 ((.normal, g32_1) :: o32_1) some) := by kernel_rfl
noncomputable def l32_1 : g32_1.D → Option (outD o32_1) := loopN g32_1 o32_1 b32_1 18446744073709551616
theorem at32_1 : Code.at [true, false] c32 = .loop (Code.at [true, false, false] c32) := by kernel_rfl
theorem s32_1_ok : SubOk P Go.Proofs.Try.f32.ntmps fx32 (Code.at [true, false] c32) ⟨g32_1, o32_1, l32_1⟩ := by
  rw [at32_1]
  exact loop_ok (sub_ok (g := g32_1) (outs := ((.normal, g32_1) :: o32_1)) (f := b32_1) (Table.ok T39_ok _) hmix (planAt_ok (P := P) (n := Go.Proofs.Try.f32.ntmps) (fx := fx32) (c := (Code.at [true, false, false] c32)) (d := 64) (l := []) trivial) b32_1_eq) rfl _
noncomputable def f32 (x : gi32.D) : Option go32.D :=
  (if ((List.length x.2.2.2.2.2.2.1) = (List.length x.2.2.2.2.2.2.1)) then (Option.bind (Go.Ev.Inflate.l32_1 (x.1, (x.2.1, (x.2.2.1, (x.2.2.2.1, (x.2.2.2.2.1, (x.2.2.2.2.2.1, (x.2.2.2.2.2.2.1, Unit.unit)))))))) (Sum.elim (fun y1 => (if ((List.length y1.2.2.2.2.2.2.2.1) = (List.length y1.2.2.2.2.2.2.2.1)) then (some (y1.1, (y1.2.1, (y1.2.2.1, (y1.2.2.2.1, (y1.2.2.2.2.1, (y1.2.2.2.2.2.1, (y1.2.2.2.2.2.2.1, (y1.2.2.2.2.2.2.2.1, Unit.unit)))))))))
   else none)) Empty.elim))
   else none)
theorem f32_eq (x : gi32.D) : f32 x = evF P (T39.orc _) Go.Proofs.Try.f32.ntmps fx32 c32 (planAt 64 [([true, false], ⟨g32_1, o32_1, l32_1⟩)]) gi32 x (fnK fx32 [go32]) := by kernel_rfl
theorem pf32 : AllSub P Go.Proofs.Try.f32.ntmps fx32 c32 [([true, false], ⟨g32_1, o32_1, l32_1⟩)] := And.intro s32_1_ok (trivial)
theorem qf32 : PlanOk P Go.Proofs.Try.f32.ntmps fx32 (planAt 64 [([true, false], ⟨g32_1, o32_1, l32_1⟩)]) c32 := planAt_ok pf32
theorem f32_ok : EntOk P 32 ⟨gi32, [go32], f32⟩ :=
  ent_ok (fn := Go.Proofs.Try.f32) (gi := gi32) (gos := [go32]) (f := f32) (c := c32) (fx := fx32) ⟨Go.Proofs.Try.func32, by kernel_rfl, rfl, by decide +kernel, rfl, rfl⟩ (by kernel_rfl) (Table.ok T39_ok _) hmix (qf32) f32_eq
abbrev gi32_b : Sg := ⟨[0, 1, 2], [.lf (.ptr 0 0), .lf .nilp, .lf (.ptr 3 0)], [some (.box true [.lf (.ptr 1 0), .lf (.gr (.pair (.int .i64) (.pair (.int .i64) (.int .i64))) 2), .lf (.int .i64), .lf (.int .i64)]), some (.box true [.lf (.sl (.int .u8)), .lf (.int .i64), .lf (.int .i64), .lf (.int .i64)]), some (.arr true (.pair (.int .i64) (.pair (.int .i64) (.int .i64)))), some (.box true [.many (.int .i64) 16, .lf (.sl (.int .i64)), .lf (.sl (.int .i64)), .lf (.gr (.int .i64) 4)]), some (.arr true (.int .i64))]⟩
abbrev go32_b : Sg := ⟨[6], [.lf (.int .i64)], [some (.box true [.lf (.ptr 1 0), .lf (.gr (.pair (.int .i64) (.pair (.int .i64) (.int .i64))) 5), .lf (.int .i64), .lf (.int .i64)]), some (.box true [.lf (.sl (.int .u8)), .lf (.int .i64), .lf (.int .i64), .lf (.int .i64)]), none, some (.box true [.many (.int .i64) 16, .lf (.sl (.int .i64)), .lf (.sl (.int .i64)), .lf (.gr (.int .i64) 4)]), some (.arr true (.int .i64)), some (.arr true (.pair (.int .i64) (.pair (.int .i64) (.int .i64))))]⟩
def fx32_b : List Bool := [true, true, false, true, true]
abbrev g32_b_1 : Sg := ⟨[0, 1, 2], [.lf (.ptr 0 0), .lf .nilp, .lf (.ptr 3 0)], [some (.box true [.lf (.ptr 1 0), .lf (.gr (.pair (.int .i64) (.pair (.int .i64) (.int .i64))) 5), .lf (.int .i64), .lf (.int .i64)]), some (.box true [.lf (.sl (.int .u8)), .lf (.int .i64), .lf (.int .i64), .lf (.int .i64)]), none, some (.box true [.many (.int .i64) 16, .lf (.sl (.int .i64)), .lf (.sl (.int .i64)), .lf (.gr (.int .i64) 4)]), some (.arr true (.int .i64)), some (.arr true (.pair (.int .i64) (.pair (.int .i64) (.int .i64))))]⟩
abbrev o32_b_1 : Outs := [(.ret, ⟨[6], [.lf (.int .i64)], [some (.box true [.lf (.ptr 1 0), .lf (.gr (.pair (.int .i64) (.pair (.int .i64) (.int .i64))) 5), .lf (.int .i64), .lf (.int .i64)]), some (.box true [.lf (.sl (.int .u8)), .lf (.int .i64), .lf (.int .i64), .lf (.int .i64)]), none, some (.box true [.many (.int .i64) 16, .lf (.sl (.int .i64)), .lf (.sl (.int .i64)), .lf (.gr (.int .i64) 4)]), some (.arr true (.int .i64)), some (.arr true (.pair (.int .i64) (.pair (.int .i64) (.int .i64))))]⟩)]
noncomputable def b32_b_1 (x : g32_b_1.D) : Option (outD ((.normal, g32_b_1) :: o32_b_1)) :=
  (Option.bind (Go.Ev.Inflate.f37 (x.2.2.1, (x.2.2.2.1, (x.2.2.2.2.1, (x.2.2.2.2.2.1, Unit.unit))))) (fun y1 => (if ((y1.2.1 != (0 : Int)) = true) then (if ((List.length x.2.2.2.2.2.2.2.2.2.2.1) = (List.length x.2.2.2.2.2.2.2.2.2.2.1)) then (if ((List.length x.2.2.2.2.2.2.2.2.2.1) = (List.length x.2.2.2.2.2.2.2.2.2.1)) then (some (Sum.inr (Sum.inl (y1.2.1, (x.1, (x.2.1, (y1.2.2.1, (y1.2.2.2.1, (y1.2.2.2.2.1, (y1.2.2.2.2.2.1, (x.2.2.2.2.2.2.1, (x.2.2.2.2.2.2.2.1, (x.2.2.2.2.2.2.2.2.1, (x.2.2.2.2.2.2.2.2.2.1, (x.2.2.2.2.2.2.2.2.2.2.1, Unit.unit)))))))))))))))
   else none)
   else none)
   else (if ((y1.1 == (256 : Int)) = true) then (if ((List.length x.2.2.2.2.2.2.2.2.2.2.1) = (List.length x.2.2.2.2.2.2.2.2.2.2.1)) then (if ((List.length x.2.2.2.2.2.2.2.2.2.1) = (List.length x.2.2.2.2.2.2.2.2.2.1)) then (some (Sum.inr (Sum.inl ((0 : Int), (x.1, (x.2.1, (y1.2.2.1, (y1.2.2.2.1, (y1.2.2.2.2.1, (y1.2.2.2.2.2.1, (x.2.2.2.2.2.2.1, (x.2.2.2.2.2.2.2.1, (x.2.2.2.2.2.2.2.2.1, (x.2.2.2.2.2.2.2.2.2.1, (x.2.2.2.2.2.2.2.2.2.2.1, Unit.unit)))))))))))))))
   else none)
   else none)
   else (if ((decide (y1.1 > (285 : Int))) = true) then (if ((List.length x.2.2.2.2.2.2.2.2.2.2.1) = (List.length x.2.2.2.2.2.2.2.2.2.2.1)) then (if ((List.length x.2.2.2.2.2.2.2.2.2.1) = (List.length x.2.2.2.2.2.2.2.2.2.1)) then (some (Sum.inr (Sum.inl ((4 : Int), (x.1, (x.2.1, (y1.2.2.1, (y1.2.2.2.1, (y1.2.2.2.2.1, (y1.2.2.2.2.2.1, (x.2.2.2.2.2.2.1, (x.2.2.2.2.2.2.2.1, (x.2.2.2.2.2.2.2.2.1, (x.2.2.2.2.2.2.2.2.2.1, (x.2.2.2.2.2.2.2.2.2.2.1, Unit.unit)))))))))))))))
   else none)
   else none)
   else (if ((decide (y1.1 < (256 : Int))) = true) then (if ((List.length x.2.2.2.2.2.2.2.2.2.2.1) = (List.length x.2.2.2.2.2.2.2.2.2.2.1)) then (Option.bind (Go.Ev.Inflate.f28 (y1.1, ((0 : Int), ((0 : Int), (x.1, (x.2.1, (y1.2.2.1, (y1.2.2.2.1, (y1.2.2.2.2.1, (y1.2.2.2.2.2.1, (x.2.2.2.2.2.2.2.2.2.2.1, Unit.unit))))))))))) (fun y2 => (if ((y2.1 != (0 : Int)) = true) then (if ((List.length y2.2.2.2.2.2.2.2.1) = (List.length y2.2.2.2.2.2.2.2.1)) then (if ((List.length x.2.2.2.2.2.2.2.2.2.1) = (List.length x.2.2.2.2.2.2.2.2.2.1)) then (some (Sum.inr (Sum.inl (y2.1, (y2.2.1, (y2.2.2.1, (y2.2.2.2.1, (y2.2.2.2.2.1, (y2.2.2.2.2.2.1, (y2.2.2.2.2.2.2.1, (x.2.2.2.2.2.2.1, (x.2.2.2.2.2.2.2.1, (x.2.2.2.2.2.2.2.2.1, (x.2.2.2.2.2.2.2.2.2.1, (y2.2.2.2.2.2.2.2.1, Unit.unit)))))))))))))))
   else none)
   else none)
   else (if ((List.length y2.2.2.2.2.2.2.2.1) = (List.length y2.2.2.2.2.2.2.2.1)) then (if ((List.length x.2.2.2.2.2.2.2.2.2.1) = (List.length x.2.2.2.2.2.2.2.2.2.1)) then (some (Sum.inl (y2.2.1, (y2.2.2.1, (y2.2.2.2.1, (y2.2.2.2.2.1, (y2.2.2.2.2.2.1, (y2.2.2.2.2.2.2.1, (x.2.2.2.2.2.2.1, (x.2.2.2.2.2.2.2.1, (x.2.2.2.2.2.2.2.2.1, (x.2.2.2.2.2.2.2.2.2.1, (y2.2.2.2.2.2.2.2.1, Unit.unit)))))))))))))
   else none)
   else none))))
   else none)
   else (Option.bind (Go.Ev.Inflate.f38 (y1.1, Unit.unit)) (fun y2 => (Option.bind (Go.Ev.Inflate.f25 (y2.2.1, (y1.2.2.1, (y1.2.2.2.1, (y1.2.2.2.2.1, (y1.2.2.2.2.2.1, Unit.unit)))))) (fun y3 => (if ((y3.2.1 != (0 : Int)) = true) then (if ((List.length x.2.2.2.2.2.2.2.2.2.2.1) = (List.length x.2.2.2.2.2.2.2.2.2.2.1)) then (if ((List.length x.2.2.2.2.2.2.2.2.2.1) = (List.length x.2.2.2.2.2.2.2.2.2.1)) then (some (Sum.inr (Sum.inl (y3.2.1, (x.1, (x.2.1, (y3.2.2.1, (y3.2.2.2.1, (y3.2.2.2.2.1, (y3.2.2.2.2.2.1, (x.2.2.2.2.2.2.1, (x.2.2.2.2.2.2.2.1, (x.2.2.2.2.2.2.2.2.1, (x.2.2.2.2.2.2.2.2.2.1, (x.2.2.2.2.2.2.2.2.2.2.1, Unit.unit)))))))))))))))
   else none)
   else none)
   else (if ((List.length x.2.2.2.2.2.2.2.2.2.1) = (List.length x.2.2.2.2.2.2.2.2.2.1)) then (Option.bind (Go.Ev.Inflate.f37_b (x.2.2.2.2.2.2.1, (x.2.2.2.2.2.2.2.1, (x.2.2.2.2.2.2.2.2.1, (x.2.2.2.2.2.2.2.2.2.1, (y3.2.2.1, (y3.2.2.2.1, (y3.2.2.2.2.1, (y3.2.2.2.2.2.1, Unit.unit))))))))) (fun y4 => (if ((y4.2.1 != (0 : Int)) = true) then (if ((List.length x.2.2.2.2.2.2.2.2.2.2.1) = (List.length x.2.2.2.2.2.2.2.2.2.2.1)) then (if ((List.length y4.2.2.2.2.2.1) = (List.length y4.2.2.2.2.2.1)) then (some (Sum.inr (Sum.inl (y4.2.1, (x.1, (x.2.1, (y4.2.2.2.2.2.2.1, (y4.2.2.2.2.2.2.2.1, (y4.2.2.2.2.2.2.2.2.1, (y4.2.2.2.2.2.2.2.2.2.1, (y4.2.2.1, (y4.2.2.2.1, (y4.2.2.2.2.1, (y4.2.2.2.2.2.1, (x.2.2.2.2.2.2.2.2.2.2.1, Unit.unit)))))))))))))))
   else none)
   else none)
   else (if ((decide (y4.1 ≥ (30 : Int))) = true) then (if ((List.length x.2.2.2.2.2.2.2.2.2.2.1) = (List.length x.2.2.2.2.2.2.2.2.2.2.1)) then (if ((List.length y4.2.2.2.2.2.1) = (List.length y4.2.2.2.2.2.1)) then (some (Sum.inr (Sum.inl ((4 : Int), (x.1, (x.2.1, (y4.2.2.2.2.2.2.1, (y4.2.2.2.2.2.2.2.1, (y4.2.2.2.2.2.2.2.2.1, (y4.2.2.2.2.2.2.2.2.2.1, (y4.2.2.1, (y4.2.2.2.1, (y4.2.2.2.2.1, (y4.2.2.2.2.2.1, (x.2.2.2.2.2.2.2.2.2.2.1, Unit.unit)))))))))))))))
   else none)
   else none)
   else (Option.bind (Go.Ev.Inflate.f39 (y4.1, Unit.unit)) (fun y5 => (Option.bind (Go.Ev.Inflate.f25 (y5.2.1, (y4.2.2.2.2.2.2.1, (y4.2.2.2.2.2.2.2.1, (y4.2.2.2.2.2.2.2.2.1, (y4.2.2.2.2.2.2.2.2.2.1, Unit.unit)))))) (fun y6 => (if ((y6.2.1 != (0 : Int)) = true) then (if ((List.length x.2.2.2.2.2.2.2.2.2.2.1) = (List.length x.2.2.2.2.2.2.2.2.2.2.1)) then (if ((List.length y4.2.2.2.2.2.1) = (List.length y4.2.2.2.2.2.1)) then (some (Sum.inr (Sum.inl (y6.2.1, (x.1, (x.2.1, (y6.2.2.1, (y6.2.2.2.1, (y6.2.2.2.2.1, (y6.2.2.2.2.2.1, (y4.2.2.1, (y4.2.2.2.1, (y4.2.2.2.2.1, (y4.2.2.2.2.2.1, (x.2.2.2.2.2.2.2.2.2.2.1, Unit.unit)))))))))))))))
   else none)
   else none)
   else (if ((List.length x.2.2.2.2.2.2.2.2.2.2.1) = (List.length x.2.2.2.2.2.2.2.2.2.2.1)) then (Option.bind (Go.Ev.Inflate.f28 ((0 : Int), ((Go.IntKind.wrap Go.IntKind.i64 (y2.1 + y3.1)), ((Go.IntKind.wrap Go.IntKind.i64 (y5.1 + y6.1)), (x.1, (x.2.1, (y6.2.2.1, (y6.2.2.2.1, (y6.2.2.2.2.1, (y6.2.2.2.2.2.1, (x.2.2.2.2.2.2.2.2.2.2.1, Unit.unit))))))))))) (fun y7 => (if ((y7.1 != (0 : Int)) = true) then (if ((List.length y7.2.2.2.2.2.2.2.1) = (List.length y7.2.2.2.2.2.2.2.1)) then (if ((List.length y4.2.2.2.2.2.1) = (List.length y4.2.2.2.2.2.1)) then (some (Sum.inr (Sum.inl (y7.1, (y7.2.1, (y7.2.2.1, (y7.2.2.2.1, (y7.2.2.2.2.1, (y7.2.2.2.2.2.1, (y7.2.2.2.2.2.2.1, (y4.2.2.1, (y4.2.2.2.1, (y4.2.2.2.2.1, (y4.2.2.2.2.2.1, (y7.2.2.2.2.2.2.2.1, Unit.unit)))))))))))))))
   else none)
   else none)
   else (if ((List.length y7.2.2.2.2.2.2.2.1) = (List.length y7.2.2.2.2.2.2.2.1)) then (if ((List.length y4.2.2.2.2.2.1) = (List.length y4.2.2.2.2.2.1)) then (some (Sum.inl (y7.2.1, (y7.2.2.1, (y7.2.2.2.1, (y7.2.2.2.2.1, (y7.2.2.2.2.2.1, (y7.2.2.2.2.2.2.1, (y4.2.2.1, (y4.2.2.2.1, (y4.2.2.2.2.1, (y4.2.2.2.2.2.1, (y7.2.2.2.2.2.2.2.1, Unit.unit)))))))))))))
   else none)
   else none))))
   else none))))))))))
   else none))))))))))))
theorem b32_b_1_eq (x : g32_b_1.D) : b32_b_1 x = evF P (T39.orc _) Go.Proofs.Try.f32.ntmps fx32_b (Code.at [true, false, false] c32) (planAt 64 []) g32_b_1 x (injK fx32_b ((.normal, g32_b_1) :: o32_b_1) some) := by kernel_rfl
noncomputable def l32_b_1 : g32_b_1.D → Option (outD o32_b_1) := loopN g32_b_1 o32_b_1 b32_b_1 18446744073709551616
theorem at32_b_1 : Code.at [true, false] c32 = .loop (Code.at [true, false, false] c32) := by kernel_rfl
theorem s32_b_1_ok : SubOk P Go.Proofs.Try.f32.ntmps fx32_b (Code.at [true, false] c32) ⟨g32_b_1, o32_b_1, l32_b_1⟩ := by
  rw [at32_b_1]
  exact loop_ok (sub_ok (g := g32_b_1) (outs := ((.normal, g32_b_1) :: o32_b_1)) (f := b32_b_1) (Table.ok T39_ok _) hmix (planAt_ok (P := P) (n := Go.Proofs.Try.f32.ntmps) (fx := fx32_b) (c := (Code.at [true, false, false] c32)) (d := 64) (l := []) trivial) b32_b_1_eq) rfl _
noncomputable def f32_b (x : gi32_b.D) : Option go32_b.D :=
  (if ((List.length x.2.2.2.2.2.2.1) = (List.length x.2.2.2.2.2.2.1)) then (if ((List.length x.2.2.2.2.2.2.2.2.2.2.1) = (List.length x.2.2.2.2.2.2.2.2.2.2.1)) then (Option.bind (Go.Ev.Inflate.l32_b_1 (x.1, (x.2.1, (x.2.2.1, (x.2.2.2.1, (x.2.2.2.2.1, (x.2.2.2.2.2.1, (x.2.2.2.2.2.2.2.1, (x.2.2.2.2.2.2.2.2.1, (x.2.2.2.2.2.2.2.2.2.1, (x.2.2.2.2.2.2.2.2.2.2.1, (x.2.2.2.2.2.2.1, Unit.unit)))))))))))) (Sum.elim (fun y1 => (if ((List.length y1.2.2.2.2.2.2.2.2.2.2.2.1) = (List.length y1.2.2.2.2.2.2.2.2.2.2.2.1)) then (if ((List.length y1.2.2.2.2.2.2.2.2.2.2.1) = (List.length y1.2.2.2.2.2.2.2.2.2.2.1)) then (some (y1.1, (y1.2.1, (y1.2.2.1, (y1.2.2.2.1, (y1.2.2.2.2.1, (y1.2.2.2.2.2.1, (y1.2.2.2.2.2.2.1, (y1.2.2.2.2.2.2.2.1, (y1.2.2.2.2.2.2.2.2.1, (y1.2.2.2.2.2.2.2.2.2.1, (y1.2.2.2.2.2.2.2.2.2.2.1, (y1.2.2.2.2.2.2.2.2.2.2.2.1, Unit.unit)))))))))))))
   else none)
   else none)) Empty.elim))
   else none)
   else none)
theorem f32_b_eq (x : gi32_b.D) : f32_b x = evF P (T39.orc _) Go.Proofs.Try.f32.ntmps fx32_b c32 (planAt 64 [([true, false], ⟨g32_b_1, o32_b_1, l32_b_1⟩)]) gi32_b x (fnK fx32_b [go32_b]) := by kernel_rfl
theorem pf32_b : AllSub P Go.Proofs.Try.f32.ntmps fx32_b c32 [([true, false], ⟨g32_b_1, o32_b_1, l32_b_1⟩)] := And.intro s32_b_1_ok (trivial)
theorem qf32_b : PlanOk P Go.Proofs.Try.f32.ntmps fx32_b (planAt 64 [([true, false], ⟨g32_b_1, o32_b_1, l32_b_1⟩)]) c32 := planAt_ok pf32_b
theorem f32_b_ok : EntOk P 32 ⟨gi32_b, [go32_b], f32_b⟩ :=
  ent_ok (fn := Go.Proofs.Try.f32) (gi := gi32_b) (gos := [go32_b]) (f := f32_b) (c := c32) (fx := fx32_b) ⟨Go.Proofs.Try.func32, by kernel_rfl, rfl, by decide +kernel, rfl, rfl⟩ (by kernel_rfl) (Table.ok T39_ok _) hmix (qf32_b) f32_b_eq
abbrev gi32_c : Sg := ⟨[0, 1, 2], [.lf (.ptr 0 0), .lf (.ptr 3 0), .lf .nilp], [some (.box true [.lf (.ptr 1 0), .lf (.gr (.pair (.int .i64) (.pair (.int .i64) (.int .i64))) 2), .lf (.int .i64), .lf (.int .i64)]), some (.box true [.lf (.sl (.int .u8)), .lf (.int .i64), .lf (.int .i64), .lf (.int .i64)]), some (.arr true (.pair (.int .i64) (.pair (.int .i64) (.int .i64)))), some (.box true [.many (.int .i64) 16, .lf (.sl (.int .i64)), .lf (.sl (.int .i64)), .lf (.gr (.int .i64) 4)]), some (.arr true (.int .i64))]⟩
abbrev go32_c : Sg := ⟨[6], [.lf (.int .i64)], [some (.box true [.lf (.ptr 1 0), .lf (.gr (.pair (.int .i64) (.pair (.int .i64) (.int .i64))) 5), .lf (.int .i64), .lf (.int .i64)]), some (.box true [.lf (.sl (.int .u8)), .lf (.int .i64), .lf (.int .i64), .lf (.int .i64)]), none, some (.box true [.many (.int .i64) 16, .lf (.sl (.int .i64)), .lf (.sl (.int .i64)), .lf (.gr (.int .i64) 4)]), some (.arr true (.int .i64)), some (.arr true (.pair (.int .i64) (.pair (.int .i64) (.int .i64))))]⟩
def fx32_c : List Bool := [true, true, false, true, true]
abbrev g32_c_1 : Sg := ⟨[0, 1, 2], [.lf (.ptr 0 0), .lf (.ptr 3 0), .lf .nilp], [some (.box true [.lf (.ptr 1 0), .lf (.gr (.pair (.int .i64) (.pair (.int .i64) (.int .i64))) 5), .lf (.int .i64), .lf (.int .i64)]), some (.box true [.lf (.sl (.int .u8)), .lf (.int .i64), .lf (.int .i64), .lf (.int .i64)]), none, some (.box true [.many (.int .i64) 16, .lf (.sl (.int .i64)), .lf (.sl (.int .i64)), .lf (.gr (.int .i64) 4)]), some (.arr true (.int .i64)), some (.arr true (.pair (.int .i64) (.pair (.int .i64) (.int .i64))))]⟩
abbrev o32_c_1 : Outs := [(.ret, ⟨[6], [.lf (.int .i64)], [some (.box true [.lf (.ptr 1 0), .lf (.gr (.pair (.int .i64) (.pair (.int .i64) (.int .i64))) 5), .lf (.int .i64), .lf (.int .i64)]), some (.box true [.lf (.sl (.int .u8)), .lf (.int .i64), .lf (.int .i64), .lf (.int .i64)]), none, some (.box true [.many (.int .i64) 16, .lf (.sl (.int .i64)), .lf (.sl (.int .i64)), .lf (.gr (.int .i64) 4)]), some (.arr true (.int .i64)), some (.arr true (.pair (.int .i64) (.pair (.int .i64) (.int .i64))))]⟩)]
noncomputable def b32_c_1 (x : g32_c_1.D) : Option (outD ((.normal, g32_c_1) :: o32_c_1)) :=
  (if ((List.length x.2.2.2.2.2.2.2.2.2.1) = (List.length x.2.2.2.2.2.2.2.2.2.1)) then (Option.bind (Go.Ev.Inflate.f37_b (x.2.2.2.2.2.2.1, (x.2.2.2.2.2.2.2.1, (x.2.2.2.2.2.2.2.2.1, (x.2.2.2.2.2.2.2.2.2.1, (x.2.2.1, (x.2.2.2.1, (x.2.2.2.2.1, (x.2.2.2.2.2.1, Unit.unit))))))))) (fun y1 => (if ((y1.2.1 != (0 : Int)) = true) then (if ((List.length x.2.2.2.2.2.2.2.2.2.2.1) = (List.length x.2.2.2.2.2.2.2.2.2.2.1)) then (if ((List.length y1.2.2.2.2.2.1) = (List.length y1.2.2.2.2.2.1)) then (some (Sum.inr (Sum.inl (y1.2.1, (x.1, (x.2.1, (y1.2.2.2.2.2.2.1, (y1.2.2.2.2.2.2.2.1, (y1.2.2.2.2.2.2.2.2.1, (y1.2.2.2.2.2.2.2.2.2.1, (y1.2.2.1, (y1.2.2.2.1, (y1.2.2.2.2.1, (y1.2.2.2.2.2.1, (x.2.2.2.2.2.2.2.2.2.2.1, Unit.unit)))))))))))))))
   else none)
   else none)
   else (if ((y1.1 == (256 : Int)) = true) then (if ((List.length x.2.2.2.2.2.2.2.2.2.2.1) = (List.length x.2.2.2.2.2.2.2.2.2.2.1)) then (if ((List.length y1.2.2.2.2.2.1) = (List.length y1.2.2.2.2.2.1)) then (some (Sum.inr (Sum.inl ((0 : Int), (x.1, (x.2.1, (y1.2.2.2.2.2.2.1, (y1.2.2.2.2.2.2.2.1, (y1.2.2.2.2.2.2.2.2.1, (y1.2.2.2.2.2.2.2.2.2.1, (y1.2.2.1, (y1.2.2.2.1, (y1.2.2.2.2.1, (y1.2.2.2.2.2.1, (x.2.2.2.2.2.2.2.2.2.2.1, Unit.unit)))))))))))))))
   else none)
   else none)
   else (if ((decide (y1.1 > (285 : Int))) = true) then (if ((List.length x.2.2.2.2.2.2.2.2.2.2.1) = (List.length x.2.2.2.2.2.2.2.2.2.2.1)) then (if ((List.length y1.2.2.2.2.2.1) = (List.length y1.2.2.2.2.2.1)) then (some (Sum.inr (Sum.inl ((4 : Int), (x.1, (x.2.1, (y1.2.2.2.2.2.2.1, (y1.2.2.2.2.2.2.2.1, (y1.2.2.2.2.2.2.2.2.1, (y1.2.2.2.2.2.2.2.2.2.1, (y1.2.2.1, (y1.2.2.2.1, (y1.2.2.2.2.1, (y1.2.2.2.2.2.1, (x.2.2.2.2.2.2.2.2.2.2.1, Unit.unit)))))))))))))))
   else none)
   else none)
   else (if ((decide (y1.1 < (256 : Int))) = true) then (if ((List.length x.2.2.2.2.2.2.2.2.2.2.1) = (List.length x.2.2.2.2.2.2.2.2.2.2.1)) then (Option.bind (Go.Ev.Inflate.f28 (y1.1, ((0 : Int), ((0 : Int), (x.1, (x.2.1, (y1.2.2.2.2.2.2.1, (y1.2.2.2.2.2.2.2.1, (y1.2.2.2.2.2.2.2.2.1, (y1.2.2.2.2.2.2.2.2.2.1, (x.2.2.2.2.2.2.2.2.2.2.1, Unit.unit))))))))))) (fun y2 => (if ((y2.1 != (0 : Int)) = true) then (if ((List.length y2.2.2.2.2.2.2.2.1) = (List.length y2.2.2.2.2.2.2.2.1)) then (if ((List.length y1.2.2.2.2.2.1) = (List.length y1.2.2.2.2.2.1)) then (some (Sum.inr (Sum.inl (y2.1, (y2.2.1, (y2.2.2.1, (y2.2.2.2.1, (y2.2.2.2.2.1, (y2.2.2.2.2.2.1, (y2.2.2.2.2.2.2.1, (y1.2.2.1, (y1.2.2.2.1, (y1.2.2.2.2.1, (y1.2.2.2.2.2.1, (y2.2.2.2.2.2.2.2.1, Unit.unit)))))))))))))))
   else none)
   else none)
   else (if ((List.length y2.2.2.2.2.2.2.2.1) = (List.length y2.2.2.2.2.2.2.2.1)) then (if ((List.length y1.2.2.2.2.2.1) = (List.length y1.2.2.2.2.2.1)) then (some (Sum.inl (y2.2.1, (y2.2.2.1, (y2.2.2.2.1, (y2.2.2.2.2.1, (y2.2.2.2.2.2.1, (y2.2.2.2.2.2.2.1, (y1.2.2.1, (y1.2.2.2.1, (y1.2.2.2.2.1, (y1.2.2.2.2.2.1, (y2.2.2.2.2.2.2.2.1, Unit.unit)))))))))))))
   else none)
   else none))))
   else none)
   else (Option.bind (Go.Ev.Inflate.f38 (y1.1, Unit.unit)) (fun y2 => (Option.bind (Go.Ev.Inflate.f25 (y2.2.1, (y1.2.2.2.2.2.2.1, (y1.2.2.2.2.2.2.2.1, (y1.2.2.2.2.2.2.2.2.1, (y1.2.2.2.2.2.2.2.2.2.1, Unit.unit)))))) (fun y3 => (if ((y3.2.1 != (0 : Int)) = true) then (if ((List.length x.2.2.2.2.2.2.2.2.2.2.1) = (List.length x.2.2.2.2.2.2.2.2.2.2.1)) then (if ((List.length y1.2.2.2.2.2.1) = (List.length y1.2.2.2.2.2.1)) then (some (Sum.inr (Sum.inl (y3.2.1, (x.1, (x.2.1, (y3.2.2.1, (y3.2.2.2.1, (y3.2.2.2.2.1, (y3.2.2.2.2.2.1, (y1.2.2.1, (y1.2.2.2.1, (y1.2.2.2.2.1, (y1.2.2.2.2.2.1, (x.2.2.2.2.2.2.2.2.2.2.1, Unit.unit)))))))))))))))
   else none)
   else none)
   else (Option.bind (Go.Ev.Inflate.f37 (y3.2.2.1, (y3.2.2.2.1, (y3.2.2.2.2.1, (y3.2.2.2.2.2.1, Unit.unit))))) (fun y4 => (if ((y4.2.1 != (0 : Int)) = true) then (if ((List.length x.2.2.2.2.2.2.2.2.2.2.1) = (List.length x.2.2.2.2.2.2.2.2.2.2.1)) then (if ((List.length y1.2.2.2.2.2.1) = (List.length y1.2.2.2.2.2.1)) then (some (Sum.inr (Sum.inl (y4.2.1, (x.1, (x.2.1, (y4.2.2.1, (y4.2.2.2.1, (y4.2.2.2.2.1, (y4.2.2.2.2.2.1, (y1.2.2.1, (y1.2.2.2.1, (y1.2.2.2.2.1, (y1.2.2.2.2.2.1, (x.2.2.2.2.2.2.2.2.2.2.1, Unit.unit)))))))))))))))
   else none)
   else none)
   else (if ((decide (y4.1 ≥ (30 : Int))) = true) then (if ((List.length x.2.2.2.2.2.2.2.2.2.2.1) = (List.length x.2.2.2.2.2.2.2.2.2.2.1)) then (if ((List.length y1.2.2.2.2.2.1) = (List.length y1.2.2.2.2.2.1)) then (some (Sum.inr (Sum.inl ((4 : Int), (x.1, (x.2.1, (y4.2.2.1, (y4.2.2.2.1, (y4.2.2.2.2.1, (y4.2.2.2.2.2.1, (y1.2.2.1, (y1.2.2.2.1, (y1.2.2.2.2.1, (y1.2.2.2.2.2.1, (x.2.2.2.2.2.2.2.2.2.2.1, Unit.unit)))))))))))))))
   else none)
   else none)
   else (Option.bind (Go.Ev.Inflate.f39 (y4.1, Unit.unit)) (fun y5 => (Option.bind (Go.Ev.Inflate.f25 (y5.2.1, (y4.2.2.1, (y4.2.2.2.1, (y4.2.2.2.2.1, (y4.2.2.2.2.2.1, Unit.unit)))))) (fun y6 => (if ((y6.2.1 != (0 : Int)) = true) then (if ((List.length x.2.2.2.2.2.2.2.2.2.2.1) = (List.length x.2.2.2.2.2.2.2.2.2.2.1)) then (if ((List.length y1.2.2.2.2.2.1) = (List.length y1.2.2.2.2.2.1)) then (some (Sum.inr (Sum.inl (y6.2.1, (x.1, (x.2.1, (y6.2.2.1, (y6.2.2.2.1, (y6.2.2.2.2.1, (y6.2.2.2.2.2.1, (y1.2.2.1, (y1.2.2.2.1, (y1.2.2.2.2.1, (y1.2.2.2.2.2.1, (x.2.2.2.2.2.2.2.2.2.2.1, Unit.unit)))))))))))))))
   else none)
   else none)
   else (if ((List.length x.2.2.2.2.2.2.2.2.2.2.1) = (List.length x.2.2.2.2.2.2.2.2.2.2.1)) then (Option.bind (Go.Ev.Inflate.f28 ((0 : Int), ((Go.IntKind.wrap Go.IntKind.i64 (y2.1 + y3.1)), ((Go.IntKind.wrap Go.IntKind.i64 (y5.1 + y6.1)), (x.1, (x.2.1, (y6.2.2.1, (y6.2.2.2.1, (y6.2.2.2.2.1, (y6.2.2.2.2.2.1, (x.2.2.2.2.2.2.2.2.2.2.1, Unit.unit))))))))))) (fun y7 => (if ((y7.1 != (0 : Int)) = true) then (if ((List.length y7.2.2.2.2.2.2.2.1) = (List.length y7.2.2.2.2.2.2.2.1)) then (if ((List.length y1.2.2.2.2.2.1) = (List.length y1.2.2.2.2.2.1)) then (some (Sum.inr (Sum.inl (y7.1, (y7.2.1, (y7.2.2.1, (y7.2.2.2.1, (y7.2.2.2.2.1, (y7.2.2.2.2.2.1, (y7.2.2.2.2.2.2.1, (y1.2.2.1, (y1.2.2.2.1, (y1.2.2.2.2.1, (y1.2.2.2.2.2.1, (y7.2.2.2.2.2.2.2.1, Unit.unit)))))))))))))))
   else none)
   else none)
   else (if ((List.length y7.2.2.2.2.2.2.2.1) = (List.length y7.2.2.2.2.2.2.2.1)) then (if ((List.length y1.2.2.2.2.2.1) = (List.length y1.2.2.2.2.2.1)) then (some (Sum.inl (y7.2.1, (y7.2.2.1, (y7.2.2.2.1, (y7.2.2.2.2.1, (y7.2.2.2.2.2.1, (y7.2.2.2.2.2.2.1, (y1.2.2.1, (y1.2.2.2.1, (y1.2.2.2.2.1, (y1.2.2.2.2.2.1, (y7.2.2.2.2.2.2.2.1, Unit.unit)))))))))))))
   else none)
   else none))))
   else none)))))))))))))))))))))
   else none)
theorem b32_c_1_eq (x : g32_c_1.D) : b32_c_1 x = evF P (T39.orc _) Go.Proofs.Try.f32.ntmps fx32_c (Code.at [true, false, false] c32) (planAt 64 []) g32_c_1 x (injK fx32_c ((.normal, g32_c_1) :: o32_c_1) some) := by kernel_rfl
noncomputable def l32_c_1 : g32_c_1.D → Option (outD o32_c_1) := loopN g32_c_1 o32_c_1 b32_c_1 18446744073709551616
theorem at32_c_1 : Code.at [true, false] c32 = .loop (Code.at [true, false, false] c32) := by kernel_rfl
theorem s32_c_1_ok : SubOk P Go.Proofs.Try.f32.ntmps fx32_c (Code.at [true, false] c32) ⟨g32_c_1, o32_c_1, l32_c_1⟩ := by
  rw [at32_c_1]
  exact loop_ok (sub_ok (g := g32_c_1) (outs := ((.normal, g32_c_1) :: o32_c_1)) (f := b32_c_1) (Table.ok T39_ok _) hmix (planAt_ok (P := P) (n := Go.Proofs.Try.f32.ntmps) (fx := fx32_c) (c := (Code.at [true, false, false] c32)) (d := 64) (l := []) trivial) b32_c_1_eq) rfl _
noncomputable def f32_c (x : gi32_c.D) : Option go32_c.D :=
  (if ((List.length x.2.2.2.2.2.2.1) = (List.length x.2.2.2.2.2.2.1)) then (if ((List.length x.2.2.2.2.2.2.2.2.2.2.1) = (List.length x.2.2.2.2.2.2.2.2.2.2.1)) then (Option.bind (Go.Ev.Inflate.l32_c_1 (x.1, (x.2.1, (x.2.2.1, (x.2.2.2.1, (x.2.2.2.2.1, (x.2.2.2.2.2.1, (x.2.2.2.2.2.2.2.1, (x.2.2.2.2.2.2.2.2.1, (x.2.2.2.2.2.2.2.2.2.1, (x.2.2.2.2.2.2.2.2.2.2.1, (x.2.2.2.2.2.2.1, Unit.unit)))))))))))) (Sum.elim (fun y1 => (if ((List.length y1.2.2.2.2.2.2.2.2.2.2.2.1) = (List.length y1.2.2.2.2.2.2.2.2.2.2.2.1)) then (if ((List.length y1.2.2.2.2.2.2.2.2.2.2.1) = (List.length y1.2.2.2.2.2.2.2.2.2.2.1)) then (some (y1.1, (y1.2.1, (y1.2.2.1, (y1.2.2.2.1, (y1.2.2.2.2.1, (y1.2.2.2.2.2.1, (y1.2.2.2.2.2.2.1, (y1.2.2.2.2.2.2.2.1, (y1.2.2.2.2.2.2.2.2.1, (y1.2.2.2.2.2.2.2.2.2.1, (y1.2.2.2.2.2.2.2.2.2.2.1, (y1.2.2.2.2.2.2.2.2.2.2.2.1, Unit.unit)))))))))))))
   else none)
   else none)) Empty.elim))
   else none)
   else none)
theorem f32_c_eq (x : gi32_c.D) : f32_c x = evF P (T39.orc _) Go.Proofs.Try.f32.ntmps fx32_c c32 (planAt 64 [([true, false], ⟨g32_c_1, o32_c_1, l32_c_1⟩)]) gi32_c x (fnK fx32_c [go32_c]) := by kernel_rfl
theorem pf32_c : AllSub P Go.Proofs.Try.f32.ntmps fx32_c c32 [([true, false], ⟨g32_c_1, o32_c_1, l32_c_1⟩)] := And.intro s32_c_1_ok (trivial)
theorem qf32_c : PlanOk P Go.Proofs.Try.f32.ntmps fx32_c (planAt 64 [([true, false], ⟨g32_c_1, o32_c_1, l32_c_1⟩)]) c32 := planAt_ok pf32_c
theorem f32_c_ok : EntOk P 32 ⟨gi32_c, [go32_c], f32_c⟩ :=
  ent_ok (fn := Go.Proofs.Try.f32) (gi := gi32_c) (gos := [go32_c]) (f := f32_c) (c := c32) (fx := fx32_c) ⟨Go.Proofs.Try.func32, by kernel_rfl, rfl, by decide +kernel, rfl, rfl⟩ (by kernel_rfl) (Table.ok T39_ok _) hmix (qf32_c) f32_c_eq
abbrev gi32_d : Sg := ⟨[0, 1, 2], [.lf (.ptr 0 0), .lf (.ptr 3 0), .lf (.ptr 5 0)], [some (.box true [.lf (.ptr 1 0), .lf (.gr (.pair (.int .i64) (.pair (.int .i64) (.int .i64))) 2), .lf (.int .i64), .lf (.int .i64)]), some (.box true [.lf (.sl (.int .u8)), .lf (.int .i64), .lf (.int .i64), .lf (.int .i64)]), some (.arr true (.pair (.int .i64) (.pair (.int .i64) (.int .i64)))), some (.box true [.many (.int .i64) 16, .lf (.sl (.int .i64)), .lf (.sl (.int .i64)), .lf (.gr (.int .i64) 4)]), some (.arr true (.int .i64)), some (.box true [.many (.int .i64) 16, .lf (.sl (.int .i64)), .lf (.sl (.int .i64)), .lf (.gr (.int .i64) 6)]), some (.arr true (.int .i64))]⟩
abbrev go32_d : Sg := ⟨[6], [.lf (.int .i64)], [some (.box true [.lf (.ptr 1 0), .lf (.gr (.pair (.int .i64) (.pair (.int .i64) (.int .i64))) 7), .lf (.int .i64), .lf (.int .i64)]), some (.box true [.lf (.sl (.int .u8)), .lf (.int .i64), .lf (.int .i64), .lf (.int .i64)]), none, some (.box true [.many (.int .i64) 16, .lf (.sl (.int .i64)), .lf (.sl (.int .i64)), .lf (.gr (.int .i64) 4)]), some (.arr true (.int .i64)), some (.box true [.many (.int .i64) 16, .lf (.sl (.int .i64)), .lf (.sl (.int .i64)), .lf (.gr (.int .i64) 6)]), some (.arr true (.int .i64)), some (.arr true (.pair (.int .i64) (.pair (.int .i64) (.int .i64))))]⟩
def fx32_d : List Bool := [true, true, false, true, true, true, true]
abbrev g32_d_1 : Sg := ⟨[0, 1, 2], [.lf (.ptr 0 0), .lf (.ptr 3 0), .lf (.ptr 5 0)], [some (.box true [.lf (.ptr 1 0), .lf (.gr (.pair (.int .i64) (.pair (.int .i64) (.int .i64))) 7), .lf (.int .i64), .lf (.int .i64)]), some (.box true [.lf (.sl (.int .u8)), .lf (.int .i64), .lf (.int .i64), .lf (.int .i64)]), none, some (.box true [.many (.int .i64) 16, .lf (.sl (.int .i64)), .lf (.sl (.int .i64)), .lf (.gr (.int .i64) 4)]), some (.arr true (.int .i64)), some (.box true [.many (.int .i64) 16, .lf (.sl (.int .i64)), .lf (.sl (.int .i64)), .lf (.gr (.int .i64) 6)]), some (.arr true (.int .i64)), some (.arr true (.pair (.int .i64) (.pair (.int .i64) (.int .i64))))]⟩
abbrev o32_d_1 : Outs := [(.ret, ⟨[6], [.lf (.int .i64)], [some (.box true [.lf (.ptr 1 0), .lf (.gr (.pair (.int .i64) (.pair (.int .i64) (.int .i64))) 7), .lf (.int .i64), .lf (.int .i64)]), some (.box true [.lf (.sl (.int .u8)), .lf (.int .i64), .lf (.int .i64), .lf (.int .i64)]), none, some (.box true [.many (.int .i64) 16, .lf (.sl (.int .i64)), .lf (.sl (.int .i64)), .lf (.gr (.int .i64) 4)]), some (.arr true (.int .i64)), some (.box true [.many (.int .i64) 16, .lf (.sl (.int .i64)), .lf (.sl (.int .i64)), .lf (.gr (.int .i64) 6)]), some (.arr true (.int .i64)), some (.arr true (.pair (.int .i64) (.pair (.int .i64) (.int .i64))))]⟩)]
noncomputable def b32_d_1 (x : g32_d_1.D) : Option (outD ((.normal, g32_d_1) :: o32_d_1)) :=
  (if ((List.length x.2.2.2.2.2.2.2.2.2.1) = (List.length x.2.2.2.2.2.2.2.2.2.1)) then (Option.bind (Go.Ev.Inflate.f37_b (x.2.2.2.2.2.2.1, (x.2.2.2.2.2.2.2.1, (x.2.2.2.2.2.2.2.2.1, (x.2.2.2.2.2.2.2.2.2.1, (x.2.2.1, (x.2.2.2.1, (x.2.2.2.2.1, (x.2.2.2.2.2.1, Unit.unit))))))))) (fun y1 => (if ((y1.2.1 != (0 : Int)) = true) then (if ((List.length x.2.2.2.2.2.2.2.2.2.2.2.2.2.2.1) = (List.length x.2.2.2.2.2.2.2.2.2.2.2.2.2.2.1)) then (if ((List.length y1.2.2.2.2.2.1) = (List.length y1.2.2.2.2.2.1)) then (if ((List.length x.2.2.2.2.2.2.2.2.2.2.2.2.2.1) = (List.length x.2.2.2.2.2.2.2.2.2.2.2.2.2.1)) then (some (Sum.inr (Sum.inl (y1.2.1, (x.1, (x.2.1, (y1.2.2.2.2.2.2.1, (y1.2.2.2.2.2.2.2.1, (y1.2.2.2.2.2.2.2.2.1, (y1.2.2.2.2.2.2.2.2.2.1, (y1.2.2.1, (y1.2.2.2.1, (y1.2.2.2.2.1, (y1.2.2.2.2.2.1, (x.2.2.2.2.2.2.2.2.2.2.1, (x.2.2.2.2.2.2.2.2.2.2.2.1, (x.2.2.2.2.2.2.2.2.2.2.2.2.1, (x.2.2.2.2.2.2.2.2.2.2.2.2.2.1, (x.2.2.2.2.2.2.2.2.2.2.2.2.2.2.1, Unit.unit)))))))))))))))))))
   else none)
   else none)
   else none)
   else (if ((y1.1 == (256 : Int)) = true) then (if ((List.length x.2.2.2.2.2.2.2.2.2.2.2.2.2.2.1) = (List.length x.2.2.2.2.2.2.2.2.2.2.2.2.2.2.1)) then (if ((List.length y1.2.2.2.2.2.1) = (List.length y1.2.2.2.2.2.1)) then (if ((List.length x.2.2.2.2.2.2.2.2.2.2.2.2.2.1) = (List.length x.2.2.2.2.2.2.2.2.2.2.2.2.2.1)) then (some (Sum.inr (Sum.inl ((0 : Int), (x.1, (x.2.1, (y1.2.2.2.2.2.2.1, (y1.2.2.2.2.2.2.2.1, (y1.2.2.2.2.2.2.2.2.1, (y1.2.2.2.2.2.2.2.2.2.1, (y1.2.2.1, (y1.2.2.2.1, (y1.2.2.2.2.1, (y1.2.2.2.2.2.1, (x.2.2.2.2.2.2.2.2.2.2.1, (x.2.2.2.2.2.2.2.2.2.2.2.1, (x.2.2.2.2.2.2.2.2.2.2.2.2.1, (x.2.2.2.2.2.2.2.2.2.2.2.2.2.1, (x.2.2.2.2.2.2.2.2.2.2.2.2.2.2.1, Unit.unit)))))))))))))))))))
   else none)
   else none)
   else none)
   else (if ((decide (y1.1 > (285 : Int))) = true) then (if ((List.length x.2.2.2.2.2.2.2.2.2.2.2.2.2.2.1) = (List.length x.2.2.2.2.2.2.2.2.2.2.2.2.2.2.1)) then (if ((List.length y1.2.2.2.2.2.1) = (List.length y1.2.2.2.2.2.1)) then (if ((List.length x.2.2.2.2.2.2.2.2.2.2.2.2.2.1) = (List.length x.2.2.2.2.2.2.2.2.2.2.2.2.2.1)) then (some (Sum.inr (Sum.inl ((4 : Int), (x.1, (x.2.1, (y1.2.2.2.2.2.2.1, (y1.2.2.2.2.2.2.2.1, (y1.2.2.2.2.2.2.2.2.1, (y1.2.2.2.2.2.2.2.2.2.1, (y1.2.2.1, (y1.2.2.2.1, (y1.2.2.2.2.1, (y1.2.2.2.2.2.1, (x.2.2.2.2.2.2.2.2.2.2.1, (x.2.2.2.2.2.2.2.2.2.2.2.1, (x.2.2.2.2.2.2.2.2.2.2.2.2.1, (x.2.2.2.2.2.2.2.2.2.2.2.2.2.1, (x.2.2.2.2.2.2.2.2.2.2.2.2.2.2.1, Unit.unit)))))))))))))))))))
   else none)
   else none)
   else none)
   else (if ((decide (y1.1 < (256 : Int))) = true) then (if ((List.length x.2.2.2.2.2.2.2.2.2.2.2.2.2.2.1) = (List.length x.2.2.2.2.2.2.2.2.2.2.2.2.2.2.1)) then (Option.bind (Go.Ev.Inflate.f28 (y1.1, ((0 : Int), ((0 : Int), (x.1, (x.2.1, (y1.2.2.2.2.2.2.1, (y1.2.2.2.2.2.2.2.1, (y1.2.2.2.2.2.2.2.2.1, (y1.2.2.2.2.2.2.2.2.2.1, (x.2.2.2.2.2.2.2.2.2.2.2.2.2.2.1, Unit.unit))))))))))) (fun y2 => (if ((y2.1 != (0 : Int)) = true) then (if ((List.length y2.2.2.2.2.2.2.2.1) = (List.length y2.2.2.2.2.2.2.2.1)) then (if ((List.length y1.2.2.2.2.2.1) = (List.length y1.2.2.2.2.2.1)) then (if ((List.length x.2.2.2.2.2.2.2.2.2.2.2.2.2.1) = (List.length x.2.2.2.2.2.2.2.2.2.2.2.2.2.1)) then (some (Sum.inr (Sum.inl (y2.1, (y2.2.1, (y2.2.2.1, (y2.2.2.2.1, (y2.2.2.2.2.1, (y2.2.2.2.2.2.1, (y2.2.2.2.2.2.2.1, (y1.2.2.1, (y1.2.2.2.1, (y1.2.2.2.2.1, (y1.2.2.2.2.2.1, (x.2.2.2.2.2.2.2.2.2.2.1, (x.2.2.2.2.2.2.2.2.2.2.2.1, (x.2.2.2.2.2.2.2.2.2.2.2.2.1, (x.2.2.2.2.2.2.2.2.2.2.2.2.2.1, (y2.2.2.2.2.2.2.2.1, Unit.unit)))))))))))))))))))
   else none)
   else none)
   else none)
   else (if ((List.length y2.2.2.2.2.2.2.2.1) = (List.length y2.2.2.2.2.2.2.2.1)) then (if ((List.length y1.2.2.2.2.2.1) = (List.length y1.2.2.2.2.2.1)) then (if ((List.length x.2.2.2.2.2.2.2.2.2.2.2.2.2.1) = (List.length x.2.2.2.2.2.2.2.2.2.2.2.2.2.1)) then (some (Sum.inl (y2.2.1, (y2.2.2.1, (y2.2.2.2.1, (y2.2.2.2.2.1, (y2.2.2.2.2.2.1, (y2.2.2.2.2.2.2.1, (y1.2.2.1, (y1.2.2.2.1, (y1.2.2.2.2.1, (y1.2.2.2.2.2.1, (x.2.2.2.2.2.2.2.2.2.2.1, (x.2.2.2.2.2.2.2.2.2.2.2.1, (x.2.2.2.2.2.2.2.2.2.2.2.2.1, (x.2.2.2.2.2.2.2.2.2.2.2.2.2.1, (y2.2.2.2.2.2.2.2.1, Unit.unit)))))))))))))))))
   else none)
   else none)
   else none))))
   else none)
   else (Option.bind (Go.Ev.Inflate.f38 (y1.1, Unit.unit)) (fun y2 => (Option.bind (Go.Ev.Inflate.f25 (y2.2.1, (y1.2.2.2.2.2.2.1, (y1.2.2.2.2.2.2.2.1, (y1.2.2.2.2.2.2.2.2.1, (y1.2.2.2.2.2.2.2.2.2.1, Unit.unit)))))) (fun y3 => (if ((y3.2.1 != (0 : Int)) = true) then (if ((List.length x.2.2.2.2.2.2.2.2.2.2.2.2.2.2.1) = (List.length x.2.2.2.2.2.2.2.2.2.2.2.2.2.2.1)) then (if ((List.length y1.2.2.2.2.2.1) = (List.length y1.2.2.2.2.2.1)) then (if ((List.length x.2.2.2.2.2.2.2.2.2.2.2.2.2.1) = (List.length x.2.2.2.2.2.2.2.2.2.2.2.2.2.1)) then (some (Sum.inr (Sum.inl (y3.2.1, (x.1, (x.2.1, (y3.2.2.1, (y3.2.2.2.1, (y3.2.2.2.2.1, (y3.2.2.2.2.2.1, (y1.2.2.1, (y1.2.2.2.1, (y1.2.2.2.2.1, (y1.2.2.2.2.2.1, (x.2.2.2.2.2.2.2.2.2.2.1, (x.2.2.2.2.2.2.2.2.2.2.2.1, (x.2.2.2.2.2.2.2.2.2.2.2.2.1, (x.2.2.2.2.2.2.2.2.2.2.2.2.2.1, (x.2.2.2.2.2.2.2.2.2.2.2.2.2.2.1, Unit.unit)))))))))))))))))))
   else none)
   else none)
   else none)
   else (if ((List.length x.2.2.2.2.2.2.2.2.2.2.2.2.2.1) = (List.length x.2.2.2.2.2.2.2.2.2.2.2.2.2.1)) then (Option.bind (Go.Ev.Inflate.f37_b (x.2.2.2.2.2.2.2.2.2.2.1, (x.2.2.2.2.2.2.2.2.2.2.2.1, (x.2.2.2.2.2.2.2.2.2.2.2.2.1, (x.2.2.2.2.2.2.2.2.2.2.2.2.2.1, (y3.2.2.1, (y3.2.2.2.1, (y3.2.2.2.2.1, (y3.2.2.2.2.2.1, Unit.unit))))))))) (fun y4 => (if ((y4.2.1 != (0 : Int)) = true) then (if ((List.length x.2.2.2.2.2.2.2.2.2.2.2.2.2.2.1) = (List.length x.2.2.2.2.2.2.2.2.2.2.2.2.2.2.1)) then (if ((List.length y1.2.2.2.2.2.1) = (List.length y1.2.2.2.2.2.1)) then (if ((List.length y4.2.2.2.2.2.1) = (List.length y4.2.2.2.2.2.1)) then (some (Sum.inr (Sum.inl (y4.2.1, (x.1, (x.2.1, (y4.2.2.2.2.2.2.1, (y4.2.2.2.2.2.2.2.1, (y4.2.2.2.2.2.2.2.2.1, (y4.2.2.2.2.2.2.2.2.2.1, (y1.2.2.1, (y1.2.2.2.1, (y1.2.2.2.2.1, (y1.2.2.2.2.2.1, (y4.2.2.1, (y4.2.2.2.1, (y4.2.2.2.2.1, (y4.2.2.2.2.2.1, (x.2.2.2.2.2.2.2.2.2.2.2.2.2.2.1, Unit.unit)))))))))))))))))))
   else none)
   else none)
   else none)
   else (if ((decide (y4.1 ≥ (30 : Int))) = true) then (if ((List.length x.2.2.2.2.2.2.2.2.2.2.2.2.2.2.1) = (List.length x.2.2.2.2.2.2.2.2.2.2.2.2.2.2.1)) then (if ((List.length y1.2.2.2.2.2.1) = (List.length y1.2.2.2.2.2.1)) then (if ((List.length y4.2.2.2.2.2.1) = (List.length y4.2.2.2.2.2.1)) then (some (Sum.inr (Sum.inl ((4 : Int), (x.1, (x.2.1, (y4.2.2.2.2.2.2.1, (y4.2.2.2.2.2.2.2.1, (y4.2.2.2.2.2.2.2.2.1, (y4.2.2.2.2.2.2.2.2.2.1, (y1.2.2.1, (y1.2.2.2.1, (y1.2.2.2.2.1, (y1.2.2.2.2.2.1, (y4.2.2.1, (y4.2.2.2.1, (y4.2.2.2.2.1, (y4.2.2.2.2.2.1, (x.2.2.2.2.2.2.2.2.2.2.2.2.2.2.1, Unit.unit)))))))))))))))))))
   else none)
   else none)
   else none)
   else (Option.bind (Go.Ev.Inflate.f39 (y4.1, Unit.unit)) (fun y5 => (Option.bind (Go.Ev.Inflate.f25 (y5.2.1, (y4.2.2.2.2.2.2.1, (y4.2.2.2.2.2.2.2.1, (y4.2.2.2.2.2.2.2.2.1, (y4.2.2.2.2.2.2.2.2.2.1, Unit.unit)))))) (fun y6 => (if ((y6.2.1 != (0 : Int)) = true) then (if ((List.length x.2.2.2.2.2.2.2.2.2.2.2.2.2.2.1) = (List.length x.2.2.2.2.2.2.2.2.2.2.2.2.2.2.1)) then (if ((List.length y1.2.2.2.2.2.1) = (List.length y1.2.2.2.2.2.1)) then (if ((List.length y4.2.2.2.2.2.1) = (List.length y4.2.2.2.2.2.1)) then (some (Sum.inr (Sum.inl (y6.2.1, (x.1, (x.2.1, (y6.2.2.1, (y6.2.2.2.1, (y6.2.2.2.2.1, (y6.2.2.2.2.2.1, (y1.2.2.1, (y1.2.2.2.1, (y1.2.2.2.2.1, (y1.2.2.2.2.2.1, (y4.2.2.1, (y4.2.2.2.1, (y4.2.2.2.2.1, (y4.2.2.2.2.2.1, (x.2.2.2.2.2.2.2.2.2.2.2.2.2.2.1, Unit.unit)))))))))))))))))))
   else none)
   else none)
   else none)
   else (if ((List.length x.2.2.2.2.2.2.2.2.2.2.2.2.2.2.1) = (List.length x.2.2.2.2.2.2.2.2.2.2.2.2.2.2.1)) then (Option.bind (Go.Ev.Inflate.f28 ((0 : Int), ((Go.IntKind.wrap Go.IntKind.i64 (y2.1 + y3.1)), ((Go.IntKind.wrap Go.IntKind.i64 (y5.1 + y6.1)), (x.1, (x.2.1, (y6.2.2.1, (y6.2.2.2.1, (y6.2.2.2.2.1, (y6.2.2.2.2.2.1, (x.2.2.2.2.2.2.2.2.2.2.2.2.2.2.1, Unit.unit))))))))))) (fun y7 => (if ((y7.1 != (0 : Int)) = true) then (if ((List.length y7.2.2.2.2.2.2.2.1) = (List.length y7.2.2.2.2.2.2.2.1)) then (if ((List.length y1.2.2.2.2.2.1) = (List.length y1.2.2.2.2.2.1)) then (if ((List.length y4.2.2.2.2.2.1) = (List.length y4.2.2.2.2.2.1)) then (some (Sum.inr (Sum.inl (y7.1, (y7.2.1, (y7.2.2.1, (y7.2.2.2.1, (y7.2.2.2.2.1, (y7.2.2.2.2.2.1, (y7.2.2.2.2.2.2.1, (y1.2.2.1, (y1.2.2.2.1, (y1.2.2.2.2.1, (y1.2.2.2.2.2.1, (y4.2.2.1, (y4.2.2.2.1, (y4.2.2.2.2.1, (y4.2.2.2.2.2.1, (y7.2.2.2.2.2.2.2.1, Unit.unit)))))))))))))))))))
   else none)
   else none)
   else none)
   else (if ((List.length y7.2.2.2.2.2.2.2.1) = (List.length y7.2.2.2.2.2.2.2.1)) then (if ((List.length y1.2.2.2.2.2.1) = (List.length y1.2.2.2.2.2.1)) then (if ((List.length y4.2.2.2.2.2.1) = (List.length y4.2.2.2.2.2.1)) then (some (Sum.inl (y7.2.1, (y7.2.2.1, (y7.2.2.2.1, (y7.2.2.2.2.1, (y7.2.2.2.2.2.1, (y7.2.2.2.2.2.2.1, (y1.2.2.1, (y1.2.2.2.1, (y1.2.2.2.2.1, (y1.2.2.2.2.2.1, (y4.2.2.1, (y4.2.2.2.1, (y4.2.2.2.2.1, (y4.2.2.2.2.2.1, (y7.2.2.2.2.2.2.2.1, Unit.unit)))))))))))))))))
   else none)
   else none)
   else none))))
   else none))))))))))
   else none))))))))))))
   else none)
theorem b32_d_1_eq (x : g32_d_1.D) : b32_d_1 x = evF P (T39.orc _) Go.Proofs.Try.f32.ntmps fx32_d (Code.at [true, false, false] c32) (planAt 64 []) g32_d_1 x (injK fx32_d ((.normal, g32_d_1) :: o32_d_1) some) := by kernel_rfl
noncomputable def l32_d_1 : g32_d_1.D → Option (outD o32_d_1) := loopN g32_d_1 o32_d_1 b32_d_1 18446744073709551616
theorem at32_d_1 : Code.at [true, false] c32 = .loop (Code.at [true, false, false] c32) := by kernel_rfl
theorem s32_d_1_ok : SubOk P Go.Proofs.Try.f32.ntmps fx32_d (Code.at [true, false] c32) ⟨g32_d_1, o32_d_1, l32_d_1⟩ := by
  rw [at32_d_1]
  exact loop_ok (sub_ok (g := g32_d_1) (outs := ((.normal, g32_d_1) :: o32_d_1)) (f := b32_d_1) (Table.ok T39_ok _) hmix (planAt_ok (P := P) (n := Go.Proofs.Try.f32.ntmps) (fx := fx32_d) (c := (Code.at [true, false, false] c32)) (d := 64) (l := []) trivial) b32_d_1_eq) rfl _
noncomputable def f32_d (x : gi32_d.D) : Option go32_d.D :=
  (if ((List.length x.2.2.2.2.2.2.1) = (List.length x.2.2.2.2.2.2.1)) then (if ((List.length x.2.2.2.2.2.2.2.2.2.2.1) = (List.length x.2.2.2.2.2.2.2.2.2.2.1)) then (if ((List.length x.2.2.2.2.2.2.2.2.2.2.2.2.2.2.1) = (List.length x.2.2.2.2.2.2.2.2.2.2.2.2.2.2.1)) then (Option.bind (Go.Ev.Inflate.l32_d_1 (x.1, (x.2.1, (x.2.2.1, (x.2.2.2.1, (x.2.2.2.2.1, (x.2.2.2.2.2.1, (x.2.2.2.2.2.2.2.1, (x.2.2.2.2.2.2.2.2.1, (x.2.2.2.2.2.2.2.2.2.1, (x.2.2.2.2.2.2.2.2.2.2.1, (x.2.2.2.2.2.2.2.2.2.2.2.1, (x.2.2.2.2.2.2.2.2.2.2.2.2.1, (x.2.2.2.2.2.2.2.2.2.2.2.2.2.1, (x.2.2.2.2.2.2.2.2.2.2.2.2.2.2.1, (x.2.2.2.2.2.2.1, Unit.unit)))))))))))))))) (Sum.elim (fun y1 => (if ((List.length y1.2.2.2.2.2.2.2.2.2.2.2.2.2.2.2.1) = (List.length y1.2.2.2.2.2.2.2.2.2.2.2.2.2.2.2.1)) then (if ((List.length y1.2.2.2.2.2.2.2.2.2.2.1) = (List.length y1.2.2.2.2.2.2.2.2.2.2.1)) then (if ((List.length y1.2.2.2.2.2.2.2.2.2.2.2.2.2.2.1) = (List.length y1.2.2.2.2.2.2.2.2.2.2.2.2.2.2.1)) then (some (y1.1, (y1.2.1, (y1.2.2.1, (y1.2.2.2.1, (y1.2.2.2.2.1, (y1.2.2.2.2.2.1, (y1.2.2.2.2.2.2.1, (y1.2.2.2.2.2.2.2.1, (y1.2.2.2.2.2.2.2.2.1, (y1.2.2.2.2.2.2.2.2.2.1, (y1.2.2.2.2.2.2.2.2.2.2.1, (y1.2.2.2.2.2.2.2.2.2.2.2.1, (y1.2.2.2.2.2.2.2.2.2.2.2.2.1, (y1.2.2.2.2.2.2.2.2.2.2.2.2.2.1, (y1.2.2.2.2.2.2.2.2.2.2.2.2.2.2.1, (y1.2.2.2.2.2.2.2.2.2.2.2.2.2.2.2.1, Unit.unit)))))))))))))))))
   else none)
   else none)
   else none)) Empty.elim))
   else none)
   else none)
   else none)
theorem f32_d_eq (x : gi32_d.D) : f32_d x = evF P (T39.orc _) Go.Proofs.Try.f32.ntmps fx32_d c32 (planAt 64 [([true, false], ⟨g32_d_1, o32_d_1, l32_d_1⟩)]) gi32_d x (fnK fx32_d [go32_d]) := by kernel_rfl
theorem pf32_d : AllSub P Go.Proofs.Try.f32.ntmps fx32_d c32 [([true, false], ⟨g32_d_1, o32_d_1, l32_d_1⟩)] := And.intro s32_d_1_ok (trivial)
theorem qf32_d : PlanOk P Go.Proofs.Try.f32.ntmps fx32_d (planAt 64 [([true, false], ⟨g32_d_1, o32_d_1, l32_d_1⟩)]) c32 := planAt_ok pf32_d
theorem f32_d_ok : EntOk P 32 ⟨gi32_d, [go32_d], f32_d⟩ :=
  ent_ok (fn := Go.Proofs.Try.f32) (gi := gi32_d) (gos := [go32_d]) (f := f32_d) (c := c32) (fx := fx32_d) ⟨Go.Proofs.Try.func32, by kernel_rfl, rfl, by decide +kernel, rfl, rfl⟩ (by kernel_rfl) (Table.ok T39_ok _) hmix (qf32_d) f32_d_eq
noncomputable def T32 : Table := T39.add 32 [⟨gi32, [go32], f32⟩, ⟨gi32_b, [go32_b], f32_b⟩, ⟨gi32_c, [go32_c], f32_c⟩, ⟨gi32_d, [go32_d], f32_d⟩] []
theorem T32_ok : TableOk P T32 := Table.plus T39_ok (es := [⟨gi32, [go32], f32⟩, ⟨gi32_b, [go32_b], f32_b⟩, ⟨gi32_c, [go32_c], f32_c⟩, ⟨gi32_d, [go32_d], f32_d⟩]) ⟨f32_ok, f32_b_ok, f32_c_ok, f32_d_ok, trivial⟩ []

/-! ## 20: (*erasure/inflate.work).fixed -/
noncomputable def c20 : Code := Func.code Go.Proofs.Try.f20
abbrev gi20 : Sg := ⟨[0], [.lf (.ptr 0 0)], [some (.box true [.lf (.ptr 1 0), .lf (.gr (.pair (.int .i64) (.pair (.int .i64) (.int .i64))) 2), .lf (.int .i64), .lf (.int .i64)]), some (.box true [.lf (.sl (.int .u8)), .lf (.int .i64), .lf (.int .i64), .lf (.int .i64)]), some (.arr true (.pair (.int .i64) (.pair (.int .i64) (.int .i64))))]⟩
abbrev go20 : Sg := ⟨[2], [.lf (.int .i64)], [some (.box true [.lf (.ptr 1 0), .lf (.gr (.pair (.int .i64) (.pair (.int .i64) (.int .i64))) 3), .lf (.int .i64), .lf (.int .i64)]), some (.box true [.lf (.sl (.int .u8)), .lf (.int .i64), .lf (.int .i64), .lf (.int .i64)]), none, some (.arr true (.pair (.int .i64) (.pair (.int .i64) (.int .i64))))]⟩
def fx20 : List Bool := [true, true, false]
noncomputable def f20 (x : gi20.D) : Option go20.D :=
  (Option.bind (Go.Ev.Inflate.f30 Unit.unit) (fun y1 => (Option.bind (Go.Ev.Inflate.f29 ((List.take (List.length y1.1) (List.drop (0 : Nat) y1.1)), Unit.unit)) (Sum.elim (fun y2 => (if ((y2.1 != (0 : Int)) = true) then (if ((List.length x.2.2.2.2.2.2.1) = (List.length x.2.2.2.2.2.2.1)) then (some (y2.1, (x.1, (x.2.1, (x.2.2.1, (x.2.2.2.1, (x.2.2.2.2.1, (x.2.2.2.2.2.1, (x.2.2.2.2.2.2.1, Unit.unit)))))))))
   else none)
   else (Option.bind (Go.Ev.Inflate.f31 ((List.take (1 : Nat) (List.drop (0 : Nat) (List.set (List.replicate (1 : Nat) (0 : Int)) (0 : Nat) (5 : Int)))), ((32 : Int), Unit.unit))) (fun y3 => (Option.bind (Go.Ev.Inflate.f29 ((List.take (List.length y3.1) (List.drop (0 : Nat) y3.1)), Unit.unit)) (Sum.elim (fun y4 => (if ((y4.1 != (0 : Int)) = true) then (if ((List.length x.2.2.2.2.2.2.1) = (List.length x.2.2.2.2.2.2.1)) then (some (y4.1, (x.1, (x.2.1, (x.2.2.1, (x.2.2.2.1, (x.2.2.2.2.1, (x.2.2.2.2.2.1, (x.2.2.2.2.2.2.1, Unit.unit)))))))))
   else none)
   else (if ((List.length x.2.2.2.2.2.2.1) = (List.length x.2.2.2.2.2.2.1)) then (Option.bind (Go.Ev.Inflate.f32 (x.1, (x.2.1, (x.2.2.1, (x.2.2.2.1, (x.2.2.2.2.1, (x.2.2.2.2.2.1, (x.2.2.2.2.2.2.1, Unit.unit)))))))) (fun y5 => (if ((List.length y5.2.2.2.2.2.2.2.1) = (List.length y5.2.2.2.2.2.2.2.1)) then (some (y5.1, (y5.2.1, (y5.2.2.1, (y5.2.2.2.1, (y5.2.2.2.2.1, (y5.2.2.2.2.2.1, (y5.2.2.2.2.2.2.1, (y5.2.2.2.2.2.2.2.1, Unit.unit)))))))))
   else none)))
   else none))) (fun y4 => (if ((y4.1 != (0 : Int)) = true) then (if ((List.length x.2.2.2.2.2.2.1) = (List.length x.2.2.2.2.2.2.1)) then (some (y4.1, (x.1, (x.2.1, (x.2.2.1, (x.2.2.2.1, (x.2.2.2.2.1, (x.2.2.2.2.2.1, (x.2.2.2.2.2.2.1, Unit.unit)))))))))
   else none)
   else (if ((List.length x.2.2.2.2.2.2.1) = (List.length x.2.2.2.2.2.2.1)) then (if ((List.length y4.2.2.2.2.1) = (List.length y4.2.2.2.2.1)) then (Option.bind (Go.Ev.Inflate.f32_b (x.1, (x.2.1, (x.2.2.1, (x.2.2.2.1, (x.2.2.2.2.1, (x.2.2.2.2.2.1, (x.2.2.2.2.2.2.1, (y4.2.1, (y4.2.2.1, (y4.2.2.2.1, (y4.2.2.2.2.1, Unit.unit)))))))))))) (fun y5 => (if ((List.length y5.2.2.2.2.2.2.2.2.2.2.2.1) = (List.length y5.2.2.2.2.2.2.2.2.2.2.2.1)) then (some (y5.1, (y5.2.1, (y5.2.2.1, (y5.2.2.2.1, (y5.2.2.2.2.1, (y5.2.2.2.2.2.1, (y5.2.2.2.2.2.2.1, (y5.2.2.2.2.2.2.2.2.2.2.2.1, Unit.unit)))))))))
   else none)))
   else none)
   else none))))))))) (fun y2 => (if ((y2.1 != (0 : Int)) = true) then (if ((List.length x.2.2.2.2.2.2.1) = (List.length x.2.2.2.2.2.2.1)) then (some (y2.1, (x.1, (x.2.1, (x.2.2.1, (x.2.2.2.1, (x.2.2.2.2.1, (x.2.2.2.2.2.1, (x.2.2.2.2.2.2.1, Unit.unit)))))))))
   else none)
   else (Option.bind (Go.Ev.Inflate.f31 ((List.take (1 : Nat) (List.drop (0 : Nat) (List.set (List.replicate (1 : Nat) (0 : Int)) (0 : Nat) (5 : Int)))), ((32 : Int), Unit.unit))) (fun y3 => (Option.bind (Go.Ev.Inflate.f29 ((List.take (List.length y3.1) (List.drop (0 : Nat) y3.1)), Unit.unit)) (Sum.elim (fun y4 => (if ((y4.1 != (0 : Int)) = true) then (if ((List.length x.2.2.2.2.2.2.1) = (List.length x.2.2.2.2.2.2.1)) then (some (y4.1, (x.1, (x.2.1, (x.2.2.1, (x.2.2.2.1, (x.2.2.2.2.1, (x.2.2.2.2.2.1, (x.2.2.2.2.2.2.1, Unit.unit)))))))))
   else none)
   else (if ((List.length x.2.2.2.2.2.2.1) = (List.length x.2.2.2.2.2.2.1)) then (if ((List.length y2.2.2.2.2.1) = (List.length y2.2.2.2.2.1)) then (Option.bind (Go.Ev.Inflate.f32_c (x.1, (x.2.1, (x.2.2.1, (x.2.2.2.1, (x.2.2.2.2.1, (x.2.2.2.2.2.1, (x.2.2.2.2.2.2.1, (y2.2.1, (y2.2.2.1, (y2.2.2.2.1, (y2.2.2.2.2.1, Unit.unit)))))))))))) (fun y5 => (if ((List.length y5.2.2.2.2.2.2.2.2.2.2.2.1) = (List.length y5.2.2.2.2.2.2.2.2.2.2.2.1)) then (some (y5.1, (y5.2.1, (y5.2.2.1, (y5.2.2.2.1, (y5.2.2.2.2.1, (y5.2.2.2.2.2.1, (y5.2.2.2.2.2.2.1, (y5.2.2.2.2.2.2.2.2.2.2.2.1, Unit.unit)))))))))
   else none)))
   else none)
   else none))) (fun y4 => (if ((y4.1 != (0 : Int)) = true) then (if ((List.length x.2.2.2.2.2.2.1) = (List.length x.2.2.2.2.2.2.1)) then (some (y4.1, (x.1, (x.2.1, (x.2.2.1, (x.2.2.2.1, (x.2.2.2.2.1, (x.2.2.2.2.2.1, (x.2.2.2.2.2.2.1, Unit.unit)))))))))
   else none)
   else (if ((List.length x.2.2.2.2.2.2.1) = (List.length x.2.2.2.2.2.2.1)) then (if ((List.length y2.2.2.2.2.1) = (List.length y2.2.2.2.2.1)) then (if ((List.length y4.2.2.2.2.1) = (List.length y4.2.2.2.2.1)) then (Option.bind (Go.Ev.Inflate.f32_d (x.1, (x.2.1, (x.2.2.1, (x.2.2.2.1, (x.2.2.2.2.1, (x.2.2.2.2.2.1, (x.2.2.2.2.2.2.1, (y2.2.1, (y2.2.2.1, (y2.2.2.2.1, (y2.2.2.2.2.1, (y4.2.1, (y4.2.2.1, (y4.2.2.2.1, (y4.2.2.2.2.1, Unit.unit)))))))))))))))) (fun y5 => (if ((List.length y5.2.2.2.2.2.2.2.2.2.2.2.2.2.2.2.1) = (List.length y5.2.2.2.2.2.2.2.2.2.2.2.2.2.2.2.1)) then (some (y5.1, (y5.2.1, (y5.2.2.1, (y5.2.2.2.1, (y5.2.2.2.2.1, (y5.2.2.2.2.2.1, (y5.2.2.2.2.2.2.1, (y5.2.2.2.2.2.2.2.2.2.2.2.2.2.2.2.1, Unit.unit)))))))))
   else none)))
   else none)
   else none)
   else none)))))))))))))
theorem f20_eq (x : gi20.D) : f20 x = evF P (T32.orc _) Go.Proofs.Try.f20.ntmps fx20 c20 (planAt 64 []) gi20 x (fnK fx20 [go20]) := by kernel_rfl
theorem f20_ok : EntOk P 20 ⟨gi20, [go20], f20⟩ :=
  ent_ok (fn := Go.Proofs.Try.f20) (gi := gi20) (gos := [go20]) (f := f20) (c := c20) (fx := fx20) ⟨Go.Proofs.Try.func20, by kernel_rfl, rfl, by decide +kernel, rfl, rfl⟩ (by kernel_rfl) (Table.ok T32_ok _) hmix (planAt_ok (P := P) (n := Go.Proofs.Try.f20.ntmps) (fx := fx20) (c := c20) (d := 64) (l := []) trivial) f20_eq
noncomputable def T20 : Table := T32.add 20 [⟨gi20, [go20], f20⟩] []
theorem T20_ok : TableOk P T20 := Table.plus T32_ok (es := [⟨gi20, [go20], f20⟩]) ⟨f20_ok, trivial⟩ []

/-! ## 40: erasure/inflate.repeat -/
noncomputable def c40 : Code := Func.code Go.Proofs.Try.f40
abbrev gi40 : Sg := ⟨[0], [.lf (.int .i64)], []⟩
abbrev go40 : Sg := ⟨[2, 3, 4], [.lf (.int .i64), .lf (.int .i64), .lf .bool], []⟩
def fx40 : List Bool := []
noncomputable def f40 (x : gi40.D) : Option go40.D :=
  (if ((x.1 == (16 : Int)) = true) then (some ((2 : Int), ((3 : Int), (true, Unit.unit))))
   else (if ((x.1 == (17 : Int)) = true) then (some ((3 : Int), ((3 : Int), (false, Unit.unit))))
   else (some ((7 : Int), ((11 : Int), (false, Unit.unit))))))
theorem f40_eq (x : gi40.D) : f40 x = evF P (T20.orc _) Go.Proofs.Try.f40.ntmps fx40 c40 (planAt 64 []) gi40 x (fnK fx40 [go40]) := by kernel_rfl
theorem f40_ok : EntOk P 40 ⟨gi40, [go40], f40⟩ :=
  ent_ok (fn := Go.Proofs.Try.f40) (gi := gi40) (gos := [go40]) (f := f40) (c := c40) (fx := fx40) ⟨Go.Proofs.Try.func40, by kernel_rfl, rfl, by decide +kernel, rfl, rfl⟩ (by kernel_rfl) (Table.ok T20_ok _) hmix (planAt_ok (P := P) (n := Go.Proofs.Try.f40.ntmps) (fx := fx40) (c := c40) (d := 64) (l := []) trivial) f40_eq
noncomputable def T40 : Table := T20.add 40 [⟨gi40, [go40], f40⟩] []
theorem T40_ok : TableOk P T40 := Table.plus T20_ok (es := [⟨gi40, [go40], f40⟩]) ⟨f40_ok, trivial⟩ []

/-! ## 33: (*erasure/inflate.work).lengths -/
noncomputable def c33 : Code := Func.code Go.Proofs.Try.f33
abbrev gi33 : Sg := ⟨[0, 1, 2], [.lf (.ptr 0 0), .lf .nilp, .lf (.int .i64)], [some (.box true [.lf (.ptr 1 0), .lf (.gr (.pair (.int .i64) (.pair (.int .i64) (.int .i64))) 2), .lf (.int .i64), .lf (.int .i64)]), some (.box true [.lf (.sl (.int .u8)), .lf (.int .i64), .lf (.int .i64), .lf (.int .i64)]), some (.arr true (.pair (.int .i64) (.pair (.int .i64) (.int .i64))))]⟩
abbrev go33 : Sg := ⟨[6, 7], [.lf (.sl (.int .i64)), .lf (.int .i64)], [some (.box true [.lf (.ptr 1 0), .lf (.gr (.pair (.int .i64) (.pair (.int .i64) (.int .i64))) 2), .lf (.int .i64), .lf (.int .i64)]), some (.box true [.lf (.sl (.int .u8)), .lf (.int .i64), .lf (.int .i64), .lf (.int .i64)]), some (.arr true (.pair (.int .i64) (.pair (.int .i64) (.int .i64))))]⟩
def fx33 : List Bool := [true, true, true]
abbrev g33_2 : Sg := ⟨[0, 1, 2, 8, 11, 12, 13, 14], [.lf (.ptr 0 0), .lf .nilp, .lf (.int .i64), .lf (.gr (.int .i64) 3), .lf (.int .i64), .lf (.int .i64), .lf .bool, .lf (.int .i64)], [some (.box true [.lf (.ptr 1 0), .lf (.gr (.pair (.int .i64) (.pair (.int .i64) (.int .i64))) 2), .lf (.int .i64), .lf (.int .i64)]), some (.box true [.lf (.sl (.int .u8)), .lf (.int .i64), .lf (.int .i64), .lf (.int .i64)]), some (.arr true (.pair (.int .i64) (.pair (.int .i64) (.int .i64)))), some (.arr true (.int .i64))]⟩
abbrev o33_2 : Outs := [(.normal, ⟨[0, 1, 2, 8, 11, 12, 13, 14, 51], [.lf (.ptr 0 0), .lf .nilp, .lf (.int .i64), .lf (.gr (.int .i64) 3), .lf (.int .i64), .lf (.int .i64), .lf .bool, .lf (.int .i64), .lf .bool], [some (.box true [.lf (.ptr 1 0), .lf (.gr (.pair (.int .i64) (.pair (.int .i64) (.int .i64))) 2), .lf (.int .i64), .lf (.int .i64)]), some (.box true [.lf (.sl (.int .u8)), .lf (.int .i64), .lf (.int .i64), .lf (.int .i64)]), some (.arr true (.pair (.int .i64) (.pair (.int .i64) (.int .i64)))), some (.arr true (.int .i64))]⟩)]
noncomputable def b33_2 (x : g33_2.D) : Option (outD o33_2) :=
  (if (x.2.2.2.1 = true) then (if ((List.length x.2.2.2.2.2.2.2.2.2.2.2.2.1) = (List.length x.2.2.2.2.2.2.2.2.2.2.2.2.1)) then (if ((List.length x.2.2.2.2.2.2.2.2.2.2.2.1) = (List.length x.2.2.2.2.2.2.2.2.2.2.2.1)) then (some (Sum.inl (x.1, (x.2.1, (x.2.2.1, (x.2.2.2.1, (x.2.2.2.2.1, (((((List.length x.2.2.2.2.2.2.2.2.2.2.2.2.1) : Nat) : Int) == (0 : Int)), (x.2.2.2.2.2.1, (x.2.2.2.2.2.2.1, (x.2.2.2.2.2.2.2.1, (x.2.2.2.2.2.2.2.2.1, (x.2.2.2.2.2.2.2.2.2.1, (x.2.2.2.2.2.2.2.2.2.2.1, (x.2.2.2.2.2.2.2.2.2.2.2.1, (x.2.2.2.2.2.2.2.2.2.2.2.2.1, Unit.unit))))))))))))))))
   else none)
   else none)
   else (if ((List.length x.2.2.2.2.2.2.2.2.2.2.2.2.1) = (List.length x.2.2.2.2.2.2.2.2.2.2.2.2.1)) then (if ((List.length x.2.2.2.2.2.2.2.2.2.2.2.1) = (List.length x.2.2.2.2.2.2.2.2.2.2.2.1)) then (some (Sum.inl (x.1, (x.2.1, (x.2.2.1, (x.2.2.2.1, (x.2.2.2.2.1, (false, (x.2.2.2.2.2.1, (x.2.2.2.2.2.2.1, (x.2.2.2.2.2.2.2.1, (x.2.2.2.2.2.2.2.2.1, (x.2.2.2.2.2.2.2.2.2.1, (x.2.2.2.2.2.2.2.2.2.2.1, (x.2.2.2.2.2.2.2.2.2.2.2.1, (x.2.2.2.2.2.2.2.2.2.2.2.2.1, Unit.unit))))))))))))))))
   else none)
   else none))
theorem b33_2_eq (x : g33_2.D) : b33_2 x = evF P (T40.orc _) Go.Proofs.Try.f33.ntmps fx33 (Code.at [true, false, true, true, false, false, false, true, false, true, true, true, true, false, false] c33) (planAt 64 []) g33_2 x (injK fx33 o33_2 some) := by kernel_rfl
theorem s33_2_ok : SubOk P Go.Proofs.Try.f33.ntmps fx33 (Code.at [true, false, true, true, false, false, false, true, false, true, true, true, true, false, false] c33) ⟨g33_2, o33_2, b33_2⟩ :=
  sub_ok (g := g33_2) (outs := o33_2) (f := b33_2) (Table.ok T40_ok _) hmix (planAt_ok (P := P) (n := Go.Proofs.Try.f33.ntmps) (fx := fx33) (c := (Code.at [true, false, true, true, false, false, false, true, false, true, true, true, true, false, false] c33)) (d := 64) (l := []) trivial) b33_2_eq
abbrev g33_3 : Sg := ⟨[0, 1, 2, 8, 11, 12, 13, 14], [.lf (.ptr 0 0), .lf .nilp, .lf (.int .i64), .lf (.gr (.int .i64) 3), .lf (.int .i64), .lf (.int .i64), .lf .bool, .lf (.int .i64)], [some (.box true [.lf (.ptr 1 0), .lf (.gr (.pair (.int .i64) (.pair (.int .i64) (.int .i64))) 2), .lf (.int .i64), .lf (.int .i64)]), some (.box true [.lf (.sl (.int .u8)), .lf (.int .i64), .lf (.int .i64), .lf (.int .i64)]), some (.arr true (.pair (.int .i64) (.pair (.int .i64) (.int .i64)))), some (.arr true (.int .i64))]⟩
abbrev o33_3 : Outs := [(.normal, ⟨[0, 1, 2, 8, 11, 12, 14], [.lf (.ptr 0 0), .lf .nilp, .lf (.int .i64), .lf (.gr (.int .i64) 3), .lf (.int .i64), .lf (.int .i64), .lf (.int .i64)], [some (.box true [.lf (.ptr 1 0), .lf (.gr (.pair (.int .i64) (.pair (.int .i64) (.int .i64))) 2), .lf (.int .i64), .lf (.int .i64)]), some (.box true [.lf (.sl (.int .u8)), .lf (.int .i64), .lf (.int .i64), .lf (.int .i64)]), some (.arr true (.pair (.int .i64) (.pair (.int .i64) (.int .i64)))), some (.arr true (.int .i64))]⟩)]
noncomputable def b33_3 (x : g33_3.D) : Option (outD o33_3) :=
  (if (x.2.2.2.1 = true) then (if ((0 : Int) ≤ (Go.IntKind.wrap Go.IntKind.i64 ((((List.length x.2.2.2.2.2.2.2.2.2.2.2.2.1) : Nat) : Int) - (1 : Int)))) then (if ((Go.IntKind.wrap Go.IntKind.i64 ((((List.length x.2.2.2.2.2.2.2.2.2.2.2.2.1) : Nat) : Int) - (1 : Int))) < (((List.length x.2.2.2.2.2.2.2.2.2.2.2.2.1) : Nat) : Int)) then (if ((List.length x.2.2.2.2.2.2.2.2.2.2.2.2.1) = (List.length x.2.2.2.2.2.2.2.2.2.2.2.2.1)) then (if ((List.length x.2.2.2.2.2.2.2.2.2.2.2.1) = (List.length x.2.2.2.2.2.2.2.2.2.2.2.1)) then (some (Sum.inl (x.1, (x.2.1, (x.2.2.1, ((List.getD x.2.2.2.2.2.2.2.2.2.2.2.2.1 ((0 : Nat) + (Int.toNat (Go.IntKind.wrap Go.IntKind.i64 ((((List.length x.2.2.2.2.2.2.2.2.2.2.2.2.1) : Nat) : Int) - (1 : Int))))) (0 : Int)), (x.2.2.2.2.2.1, (x.2.2.2.2.2.2.1, (x.2.2.2.2.2.2.2.1, (x.2.2.2.2.2.2.2.2.1, (x.2.2.2.2.2.2.2.2.2.1, (x.2.2.2.2.2.2.2.2.2.2.1, (x.2.2.2.2.2.2.2.2.2.2.2.1, (x.2.2.2.2.2.2.2.2.2.2.2.2.1, Unit.unit))))))))))))))
   else none)
   else none)
   else none)
   else none)
   else (if ((List.length x.2.2.2.2.2.2.2.2.2.2.2.2.1) = (List.length x.2.2.2.2.2.2.2.2.2.2.2.2.1)) then (if ((List.length x.2.2.2.2.2.2.2.2.2.2.2.1) = (List.length x.2.2.2.2.2.2.2.2.2.2.2.1)) then (some (Sum.inl (x.1, (x.2.1, (x.2.2.1, (x.2.2.2.2.1, (x.2.2.2.2.2.1, (x.2.2.2.2.2.2.1, (x.2.2.2.2.2.2.2.1, (x.2.2.2.2.2.2.2.2.1, (x.2.2.2.2.2.2.2.2.2.1, (x.2.2.2.2.2.2.2.2.2.2.1, (x.2.2.2.2.2.2.2.2.2.2.2.1, (x.2.2.2.2.2.2.2.2.2.2.2.2.1, Unit.unit))))))))))))))
   else none)
   else none))
theorem b33_3_eq (x : g33_3.D) : b33_3 x = evF P (T40.orc _) Go.Proofs.Try.f33.ntmps fx33 (Code.at [true, false, true, true, false, false, false, true, false, true, true, true, true, true, false] c33) (planAt 64 []) g33_3 x (injK fx33 o33_3 some) := by kernel_rfl
theorem s33_3_ok : SubOk P Go.Proofs.Try.f33.ntmps fx33 (Code.at [true, false, true, true, false, false, false, true, false, true, true, true, true, true, false] c33) ⟨g33_3, o33_3, b33_3⟩ :=
  sub_ok (g := g33_3) (outs := o33_3) (f := b33_3) (Table.ok T40_ok _) hmix (planAt_ok (P := P) (n := Go.Proofs.Try.f33.ntmps) (fx := fx33) (c := (Code.at [true, false, true, true, false, false, false, true, false, true, true, true, true, true, false] c33)) (d := 64) (l := []) trivial) b33_3_eq
abbrev g33_1 : Sg := ⟨[0, 1, 2, 8], [.lf (.ptr 0 0), .lf .nilp, .lf (.int .i64), .lf (.gr (.int .i64) 3)], [some (.box true [.lf (.ptr 1 0), .lf (.gr (.pair (.int .i64) (.pair (.int .i64) (.int .i64))) 2), .lf (.int .i64), .lf (.int .i64)]), some (.box true [.lf (.sl (.int .u8)), .lf (.int .i64), .lf (.int .i64), .lf (.int .i64)]), some (.arr true (.pair (.int .i64) (.pair (.int .i64) (.int .i64)))), some (.arr true (.int .i64))]⟩
abbrev o33_1 : Outs := [(.exit 0, ⟨[8], [.lf (.gr (.int .i64) 3)], [some (.box true [.lf (.ptr 1 0), .lf (.gr (.pair (.int .i64) (.pair (.int .i64) (.int .i64))) 2), .lf (.int .i64), .lf (.int .i64)]), some (.box true [.lf (.sl (.int .u8)), .lf (.int .i64), .lf (.int .i64), .lf (.int .i64)]), some (.arr true (.pair (.int .i64) (.pair (.int .i64) (.int .i64)))), some (.arr true (.int .i64))]⟩), (.ret, ⟨[6, 7], [.lf (.sl (.int .i64)), .lf (.int .i64)], [some (.box true [.lf (.ptr 1 0), .lf (.gr (.pair (.int .i64) (.pair (.int .i64) (.int .i64))) 2), .lf (.int .i64), .lf (.int .i64)]), some (.box true [.lf (.sl (.int .u8)), .lf (.int .i64), .lf (.int .i64), .lf (.int .i64)]), some (.arr true (.pair (.int .i64) (.pair (.int .i64) (.int .i64))))]⟩)]
noncomputable def b33_1 (x : g33_1.D) : Option (outD ((.normal, g33_1) :: o33_1)) :=
  (if ((decide ((((List.length x.2.2.2.2.2.2.2.2.1) : Nat) : Int) < x.1)) = true) then (Option.bind (Go.Ev.Inflate.f37 (x.2.2.2.1, (x.2.2.2.2.1, (x.2.2.2.2.2.1, (x.2.2.2.2.2.2.1, Unit.unit))))) (fun y1 => (if ((y1.2.1 != (0 : Int)) = true) then (if ((List.length x.2.2.2.2.2.2.2.1) = (List.length x.2.2.2.2.2.2.2.1)) then (some (Sum.inr (Sum.inr (Sum.inl ([], (y1.2.1, (x.2.1, (x.2.2.1, (y1.2.2.1, (y1.2.2.2.1, (y1.2.2.2.2.1, (y1.2.2.2.2.2.1, (x.2.2.2.2.2.2.2.1, Unit.unit)))))))))))))
   else none)
   else (if ((decide (y1.1 < (16 : Int))) = true) then (if (((List.length (List.take (List.length x.2.2.2.2.2.2.2.2.1) (List.drop (0 : Nat) x.2.2.2.2.2.2.2.2.1))) + (List.length (List.take (1 : Nat) (List.drop (0 : Nat) (List.set (List.replicate (1 : Nat) (0 : Int)) (0 : Nat) y1.1))))) ≤ (17592186044416 : Nat)) then (if ((List.length ((List.take (List.length x.2.2.2.2.2.2.2.2.1) (List.drop (0 : Nat) x.2.2.2.2.2.2.2.2.1)) ++ (List.take (1 : Nat) (List.drop (0 : Nat) (List.set (List.replicate (1 : Nat) (0 : Int)) (0 : Nat) y1.1))))) = (List.length ((List.take (List.length x.2.2.2.2.2.2.2.2.1) (List.drop (0 : Nat) x.2.2.2.2.2.2.2.2.1)) ++ (List.take (1 : Nat) (List.drop (0 : Nat) (List.set (List.replicate (1 : Nat) (0 : Int)) (0 : Nat) y1.1)))))) then (if ((List.length x.2.2.2.2.2.2.2.1) = (List.length x.2.2.2.2.2.2.2.1)) then (some (Sum.inl (x.1, (x.2.1, (x.2.2.1, (y1.2.2.1, (y1.2.2.2.1, (y1.2.2.2.2.1, (y1.2.2.2.2.2.1, (x.2.2.2.2.2.2.2.1, (((List.take (List.length x.2.2.2.2.2.2.2.2.1) (List.drop (0 : Nat) x.2.2.2.2.2.2.2.2.1)) ++ (List.take (1 : Nat) (List.drop (0 : Nat) (List.set (List.replicate (1 : Nat) (0 : Int)) (0 : Nat) y1.1)))), Unit.unit)))))))))))
   else none)
   else none)
   else none)
   else (Option.bind (Go.Ev.Inflate.f40 (y1.1, Unit.unit)) (fun y2 => (if ((List.length x.2.2.2.2.2.2.2.2.1) = (List.length x.2.2.2.2.2.2.2.2.1)) then (if ((List.length x.2.2.2.2.2.2.2.1) = (List.length x.2.2.2.2.2.2.2.1)) then (Option.bind (Go.Ev.Inflate.b33_2 (x.1, (y2.1, (y2.2.1, (y2.2.2.1, ((0 : Int), (x.2.1, (x.2.2.1, (y1.2.2.1, (y1.2.2.2.1, (y1.2.2.2.2.1, (y1.2.2.2.2.2.1, (x.2.2.2.2.2.2.2.1, (x.2.2.2.2.2.2.2.2.1, Unit.unit)))))))))))))) (Sum.elim (fun y3 => (if (y3.2.2.2.2.2.1 = true) then (if ((List.length y3.2.2.2.2.2.2.2.2.2.2.2.2.1) = (List.length y3.2.2.2.2.2.2.2.2.2.2.2.2.1)) then (some (Sum.inr (Sum.inr (Sum.inl ([], ((4 : Int), (y3.2.2.2.2.2.2.1, (y3.2.2.2.2.2.2.2.1, (y3.2.2.2.2.2.2.2.2.1, (y3.2.2.2.2.2.2.2.2.2.1, (y3.2.2.2.2.2.2.2.2.2.2.1, (y3.2.2.2.2.2.2.2.2.2.2.2.1, (y3.2.2.2.2.2.2.2.2.2.2.2.2.1, Unit.unit)))))))))))))
   else none)
   else (if ((List.length y3.2.2.2.2.2.2.2.2.2.2.2.2.2.1) = (List.length y3.2.2.2.2.2.2.2.2.2.2.2.2.2.1)) then (if ((List.length y3.2.2.2.2.2.2.2.2.2.2.2.2.1) = (List.length y3.2.2.2.2.2.2.2.2.2.2.2.2.1)) then (Option.bind (Go.Ev.Inflate.b33_3 (y3.1, (y3.2.1, (y3.2.2.1, (y3.2.2.2.1, (y3.2.2.2.2.1, (y3.2.2.2.2.2.2.1, (y3.2.2.2.2.2.2.2.1, (y3.2.2.2.2.2.2.2.2.1, (y3.2.2.2.2.2.2.2.2.2.1, (y3.2.2.2.2.2.2.2.2.2.2.1, (y3.2.2.2.2.2.2.2.2.2.2.2.1, (y3.2.2.2.2.2.2.2.2.2.2.2.2.1, (y3.2.2.2.2.2.2.2.2.2.2.2.2.2.1, Unit.unit)))))))))))))) (Sum.elim (fun y4 => (Option.bind (Go.Ev.Inflate.f25 (y4.2.1, (y4.2.2.2.2.2.2.1, (y4.2.2.2.2.2.2.2.1, (y4.2.2.2.2.2.2.2.2.1, (y4.2.2.2.2.2.2.2.2.2.1, Unit.unit)))))) (fun y5 => (if ((y5.2.1 != (0 : Int)) = true) then (if ((List.length y4.2.2.2.2.2.2.2.2.2.2.1) = (List.length y4.2.2.2.2.2.2.2.2.2.2.1)) then (some (Sum.inr (Sum.inr (Sum.inl ([], (y5.2.1, (y4.2.2.2.2.1, (y4.2.2.2.2.2.1, (y5.2.2.1, (y5.2.2.2.1, (y5.2.2.2.2.1, (y5.2.2.2.2.2.1, (y4.2.2.2.2.2.2.2.2.2.2.1, Unit.unit)))))))))))))
   else none)
   else (if ((decide ((Go.IntKind.wrap Go.IntKind.i64 ((Go.IntKind.wrap Go.IntKind.i64 ((((List.length y4.2.2.2.2.2.2.2.2.2.2.2.1) : Nat) : Int) + y4.2.2.1)) + y5.1)) > y4.1)) = true) then (if ((List.length y4.2.2.2.2.2.2.2.2.2.2.1) = (List.length y4.2.2.2.2.2.2.2.2.2.2.1)) then (some (Sum.inr (Sum.inr (Sum.inl ([], ((4 : Int), (y4.2.2.2.2.1, (y4.2.2.2.2.2.1, (y5.2.2.1, (y5.2.2.2.1, (y5.2.2.2.2.1, (y5.2.2.2.2.2.1, (y4.2.2.2.2.2.2.2.2.2.2.1, Unit.unit)))))))))))))
   else none)
   else (Option.bind (Go.Ev.Inflate.f31 ((List.take (1 : Nat) (List.drop (0 : Nat) (List.set (List.replicate (1 : Nat) (0 : Int)) (0 : Nat) y4.2.2.2.1))), ((Go.IntKind.wrap Go.IntKind.i64 (y4.2.2.1 + y5.1)), Unit.unit))) (fun y6 => (if (((List.length (List.take (List.length y4.2.2.2.2.2.2.2.2.2.2.2.1) (List.drop (0 : Nat) y4.2.2.2.2.2.2.2.2.2.2.2.1))) + (List.length (List.take (List.length y6.1) (List.drop (0 : Nat) y6.1)))) ≤ (17592186044416 : Nat)) then (if ((List.length ((List.take (List.length y4.2.2.2.2.2.2.2.2.2.2.2.1) (List.drop (0 : Nat) y4.2.2.2.2.2.2.2.2.2.2.2.1)) ++ (List.take (List.length y6.1) (List.drop (0 : Nat) y6.1)))) = (List.length ((List.take (List.length y4.2.2.2.2.2.2.2.2.2.2.2.1) (List.drop (0 : Nat) y4.2.2.2.2.2.2.2.2.2.2.2.1)) ++ (List.take (List.length y6.1) (List.drop (0 : Nat) y6.1))))) then (if ((List.length y4.2.2.2.2.2.2.2.2.2.2.1) = (List.length y4.2.2.2.2.2.2.2.2.2.2.1)) then (some (Sum.inl (y4.1, (y4.2.2.2.2.1, (y4.2.2.2.2.2.1, (y5.2.2.1, (y5.2.2.2.1, (y5.2.2.2.2.1, (y5.2.2.2.2.2.1, (y4.2.2.2.2.2.2.2.2.2.2.1, (((List.take (List.length y4.2.2.2.2.2.2.2.2.2.2.2.1) (List.drop (0 : Nat) y4.2.2.2.2.2.2.2.2.2.2.2.1)) ++ (List.take (List.length y6.1) (List.drop (0 : Nat) y6.1))), Unit.unit)))))))))))
   else none)
   else none)
   else none)))))))) Empty.elim))
   else none)
   else none))) Empty.elim))
   else none)
   else none)))))))
   else (if ((List.length x.2.2.2.2.2.2.2.2.1) = (List.length x.2.2.2.2.2.2.2.2.1)) then (if ((List.length x.2.2.2.2.2.2.2.1) = (List.length x.2.2.2.2.2.2.2.1)) then (some (Sum.inr (Sum.inl (x.2.1, (x.2.2.1, (x.2.2.2.1, (x.2.2.2.2.1, (x.2.2.2.2.2.1, (x.2.2.2.2.2.2.1, (x.2.2.2.2.2.2.2.1, (x.2.2.2.2.2.2.2.2.1, Unit.unit)))))))))))
   else none)
   else none))
theorem b33_1_eq (x : g33_1.D) : b33_1 x = evF P (T40.orc _) Go.Proofs.Try.f33.ntmps fx33 (Code.at [true, false, true, true, false, false, false] c33) (planAt 64 [([true, false, true, true, true, true, false, false], ⟨g33_2, o33_2, b33_2⟩), ([true, false, true, true, true, true, true, false], ⟨g33_3, o33_3, b33_3⟩)]) g33_1 x (injK fx33 ((.normal, g33_1) :: o33_1) some) := by kernel_rfl
noncomputable def l33_1 : g33_1.D → Option (outD o33_1) := loopN g33_1 o33_1 b33_1 18446744073709551616
theorem p33_1 : AllSub P Go.Proofs.Try.f33.ntmps fx33 (Code.at [true, false, true, true, false, false, false] c33) [([true, false, true, true, true, true, false, false], ⟨g33_2, o33_2, b33_2⟩), ([true, false, true, true, true, true, true, false], ⟨g33_3, o33_3, b33_3⟩)] := And.intro s33_2_ok (And.intro s33_3_ok (trivial))
theorem q33_1 : PlanOk P Go.Proofs.Try.f33.ntmps fx33 (planAt 64 [([true, false, true, true, true, true, false, false], ⟨g33_2, o33_2, b33_2⟩), ([true, false, true, true, true, true, true, false], ⟨g33_3, o33_3, b33_3⟩)]) (Code.at [true, false, true, true, false, false, false] c33) := planAt_ok p33_1
theorem at33_1 : Code.at [true, false, true, true, false, false] c33 = .loop (Code.at [true, false, true, true, false, false, false] c33) := by kernel_rfl
theorem s33_1_ok : SubOk P Go.Proofs.Try.f33.ntmps fx33 (Code.at [true, false, true, true, false, false] c33) ⟨g33_1, o33_1, l33_1⟩ := by
  rw [at33_1]
  exact loop_ok (sub_ok (g := g33_1) (outs := ((.normal, g33_1) :: o33_1)) (f := b33_1) (Table.ok T40_ok _) hmix (q33_1) b33_1_eq) rfl _
noncomputable def f33 (x : gi33.D) : Option go33.D :=
  (if ((List.length x.2.2.2.2.2.2.2.1) = (List.length x.2.2.2.2.2.2.2.1)) then (Option.bind (Go.Ev.Inflate.l33_1 (x.1, (x.2.1, (x.2.2.1, (x.2.2.2.1, (x.2.2.2.2.1, (x.2.2.2.2.2.1, (x.2.2.2.2.2.2.1, (x.2.2.2.2.2.2.2.1, ([], Unit.unit)))))))))) (Sum.elim (fun y1 => (if ((List.length y1.2.2.2.2.2.2.1) = (List.length y1.2.2.2.2.2.2.1)) then (some ((List.take (List.length y1.2.2.2.2.2.2.2.1) (List.drop (0 : Nat) y1.2.2.2.2.2.2.2.1)), ((0 : Int), (y1.1, (y1.2.1, (y1.2.2.1, (y1.2.2.2.1, (y1.2.2.2.2.1, (y1.2.2.2.2.2.1, (y1.2.2.2.2.2.2.1, Unit.unit))))))))))
   else none)) (Sum.elim (fun y1 => (if ((List.length y1.2.2.2.2.2.2.2.2.1) = (List.length y1.2.2.2.2.2.2.2.2.1)) then (some (y1.1, (y1.2.1, (y1.2.2.1, (y1.2.2.2.1, (y1.2.2.2.2.1, (y1.2.2.2.2.2.1, (y1.2.2.2.2.2.2.1, (y1.2.2.2.2.2.2.2.1, (y1.2.2.2.2.2.2.2.2.1, Unit.unit))))))))))
   else none)) Empty.elim)))
   else none)
theorem f33_eq (x : gi33.D) : f33 x = evF P (T40.orc _) Go.Proofs.Try.f33.ntmps fx33 c33 (planAt 64 [([true, false, true, true, false, false], ⟨g33_1, o33_1, l33_1⟩)]) gi33 x (fnK fx33 [go33]) := by kernel_rfl
theorem pf33 : AllSub P Go.Proofs.Try.f33.ntmps fx33 c33 [([true, false, true, true, false, false], ⟨g33_1, o33_1, l33_1⟩)] := And.intro s33_1_ok (trivial)
theorem qf33 : PlanOk P Go.Proofs.Try.f33.ntmps fx33 (planAt 64 [([true, false, true, true, false, false], ⟨g33_1, o33_1, l33_1⟩)]) c33 := planAt_ok pf33
theorem f33_ok : EntOk P 33 ⟨gi33, [go33], f33⟩ :=
  ent_ok (fn := Go.Proofs.Try.f33) (gi := gi33) (gos := [go33]) (f := f33) (c := c33) (fx := fx33) ⟨Go.Proofs.Try.func33, by kernel_rfl, rfl, by decide +kernel, rfl, rfl⟩ (by kernel_rfl) (Table.ok T40_ok _) hmix (qf33) f33_eq
abbrev gi33_b : Sg := ⟨[0, 1, 2], [.lf (.ptr 0 0), .lf (.ptr 3 0), .lf (.int .i64)], [some (.box true [.lf (.ptr 1 0), .lf (.gr (.pair (.int .i64) (.pair (.int .i64) (.int .i64))) 2), .lf (.int .i64), .lf (.int .i64)]), some (.box true [.lf (.sl (.int .u8)), .lf (.int .i64), .lf (.int .i64), .lf (.int .i64)]), some (.arr true (.pair (.int .i64) (.pair (.int .i64) (.int .i64)))), some (.box true [.many (.int .i64) 16, .lf (.sl (.int .i64)), .lf (.sl (.int .i64)), .lf (.gr (.int .i64) 4)]), some (.arr true (.int .i64))]⟩
abbrev go33_b : Sg := ⟨[6, 7], [.lf (.sl (.int .i64)), .lf (.int .i64)], [some (.box true [.lf (.ptr 1 0), .lf (.gr (.pair (.int .i64) (.pair (.int .i64) (.int .i64))) 2), .lf (.int .i64), .lf (.int .i64)]), some (.box true [.lf (.sl (.int .u8)), .lf (.int .i64), .lf (.int .i64), .lf (.int .i64)]), some (.arr true (.pair (.int .i64) (.pair (.int .i64) (.int .i64)))), some (.box true [.many (.int .i64) 16, .lf (.sl (.int .i64)), .lf (.sl (.int .i64)), .lf (.gr (.int .i64) 4)]), some (.arr true (.int .i64))]⟩
def fx33_b : List Bool := [true, true, true, true, true]
abbrev g33_b_2 : Sg := ⟨[0, 1, 2, 8, 11, 12, 13, 14], [.lf (.ptr 0 0), .lf (.ptr 3 0), .lf (.int .i64), .lf (.gr (.int .i64) 5), .lf (.int .i64), .lf (.int .i64), .lf .bool, .lf (.int .i64)], [some (.box true [.lf (.ptr 1 0), .lf (.gr (.pair (.int .i64) (.pair (.int .i64) (.int .i64))) 2), .lf (.int .i64), .lf (.int .i64)]), some (.box true [.lf (.sl (.int .u8)), .lf (.int .i64), .lf (.int .i64), .lf (.int .i64)]), some (.arr true (.pair (.int .i64) (.pair (.int .i64) (.int .i64)))), some (.box true [.many (.int .i64) 16, .lf (.sl (.int .i64)), .lf (.sl (.int .i64)), .lf (.gr (.int .i64) 4)]), some (.arr true (.int .i64)), some (.arr true (.int .i64))]⟩
abbrev o33_b_2 : Outs := [(.normal, ⟨[0, 1, 2, 8, 11, 12, 13, 14, 51], [.lf (.ptr 0 0), .lf (.ptr 3 0), .lf (.int .i64), .lf (.gr (.int .i64) 5), .lf (.int .i64), .lf (.int .i64), .lf .bool, .lf (.int .i64), .lf .bool], [some (.box true [.lf (.ptr 1 0), .lf (.gr (.pair (.int .i64) (.pair (.int .i64) (.int .i64))) 2), .lf (.int .i64), .lf (.int .i64)]), some (.box true [.lf (.sl (.int .u8)), .lf (.int .i64), .lf (.int .i64), .lf (.int .i64)]), some (.arr true (.pair (.int .i64) (.pair (.int .i64) (.int .i64)))), some (.box true [.many (.int .i64) 16, .lf (.sl (.int .i64)), .lf (.sl (.int .i64)), .lf (.gr (.int .i64) 4)]), some (.arr true (.int .i64)), some (.arr true (.int .i64))]⟩)]
noncomputable def b33_b_2 (x : g33_b_2.D) : Option (outD o33_b_2) :=
  (if (x.2.2.2.1 = true) then (if ((List.length x.2.2.2.2.2.2.2.2.2.2.2.2.2.2.2.2.1) = (List.length x.2.2.2.2.2.2.2.2.2.2.2.2.2.2.2.2.1)) then (if ((List.length x.2.2.2.2.2.2.2.2.2.2.2.1) = (List.length x.2.2.2.2.2.2.2.2.2.2.2.1)) then (if ((List.length x.2.2.2.2.2.2.2.2.2.2.2.2.2.2.2.1) = (List.length x.2.2.2.2.2.2.2.2.2.2.2.2.2.2.2.1)) then (some (Sum.inl (x.1, (x.2.1, (x.2.2.1, (x.2.2.2.1, (x.2.2.2.2.1, (((((List.length x.2.2.2.2.2.2.2.2.2.2.2.2.2.2.2.2.1) : Nat) : Int) == (0 : Int)), (x.2.2.2.2.2.1, (x.2.2.2.2.2.2.1, (x.2.2.2.2.2.2.2.1, (x.2.2.2.2.2.2.2.2.1, (x.2.2.2.2.2.2.2.2.2.1, (x.2.2.2.2.2.2.2.2.2.2.1, (x.2.2.2.2.2.2.2.2.2.2.2.1, (x.2.2.2.2.2.2.2.2.2.2.2.2.1, (x.2.2.2.2.2.2.2.2.2.2.2.2.2.1, (x.2.2.2.2.2.2.2.2.2.2.2.2.2.2.1, (x.2.2.2.2.2.2.2.2.2.2.2.2.2.2.2.1, (x.2.2.2.2.2.2.2.2.2.2.2.2.2.2.2.2.1, Unit.unit))))))))))))))))))))
   else none)
   else none)
   else none)
   else (if ((List.length x.2.2.2.2.2.2.2.2.2.2.2.2.2.2.2.2.1) = (List.length x.2.2.2.2.2.2.2.2.2.2.2.2.2.2.2.2.1)) then (if ((List.length x.2.2.2.2.2.2.2.2.2.2.2.1) = (List.length x.2.2.2.2.2.2.2.2.2.2.2.1)) then (if ((List.length x.2.2.2.2.2.2.2.2.2.2.2.2.2.2.2.1) = (List.length x.2.2.2.2.2.2.2.2.2.2.2.2.2.2.2.1)) then (some (Sum.inl (x.1, (x.2.1, (x.2.2.1, (x.2.2.2.1, (x.2.2.2.2.1, (false, (x.2.2.2.2.2.1, (x.2.2.2.2.2.2.1, (x.2.2.2.2.2.2.2.1, (x.2.2.2.2.2.2.2.2.1, (x.2.2.2.2.2.2.2.2.2.1, (x.2.2.2.2.2.2.2.2.2.2.1, (x.2.2.2.2.2.2.2.2.2.2.2.1, (x.2.2.2.2.2.2.2.2.2.2.2.2.1, (x.2.2.2.2.2.2.2.2.2.2.2.2.2.1, (x.2.2.2.2.2.2.2.2.2.2.2.2.2.2.1, (x.2.2.2.2.2.2.2.2.2.2.2.2.2.2.2.1, (x.2.2.2.2.2.2.2.2.2.2.2.2.2.2.2.2.1, Unit.unit))))))))))))))))))))
   else none)
   else none)
   else none))
theorem b33_b_2_eq (x : g33_b_2.D) : b33_b_2 x = evF P (T40.orc _) Go.Proofs.Try.f33.ntmps fx33_b (Code.at [true, false, true, true, false, false, false, true, false, true, true, true, true, false, false] c33) (planAt 64 []) g33_b_2 x (injK fx33_b o33_b_2 some) := by kernel_rfl
theorem s33_b_2_ok : SubOk P Go.Proofs.Try.f33.ntmps fx33_b (Code.at [true, false, true, true, false, false, false, true, false, true, true, true, true, false, false] c33) ⟨g33_b_2, o33_b_2, b33_b_2⟩ :=
  sub_ok (g := g33_b_2) (outs := o33_b_2) (f := b33_b_2) (Table.ok T40_ok _) hmix (planAt_ok (P := P) (n := Go.Proofs.Try.f33.ntmps) (fx := fx33_b) (c := (Code.at [true, false, true, true, false, false, false, true, false, true, true, true, true, false, false] c33)) (d := 64) (l := []) trivial) b33_b_2_eq
abbrev g33_b_3 : Sg := ⟨[0, 1, 2, 8, 11, 12, 13, 14], [.lf (.ptr 0 0), .lf (.ptr 3 0), .lf (.int .i64), .lf (.gr (.int .i64) 5), .lf (.int .i64), .lf (.int .i64), .lf .bool, .lf (.int .i64)], [some (.box true [.lf (.ptr 1 0), .lf (.gr (.pair (.int .i64) (.pair (.int .i64) (.int .i64))) 2), .lf (.int .i64), .lf (.int .i64)]), some (.box true [.lf (.sl (.int .u8)), .lf (.int .i64), .lf (.int .i64), .lf (.int .i64)]), some (.arr true (.pair (.int .i64) (.pair (.int .i64) (.int .i64)))), some (.box true [.many (.int .i64) 16, .lf (.sl (.int .i64)), .lf (.sl (.int .i64)), .lf (.gr (.int .i64) 4)]), some (.arr true (.int .i64)), some (.arr true (.int .i64))]⟩
abbrev o33_b_3 : Outs := [(.normal, ⟨[0, 1, 2, 8, 11, 12, 14], [.lf (.ptr 0 0), .lf (.ptr 3 0), .lf (.int .i64), .lf (.gr (.int .i64) 5), .lf (.int .i64), .lf (.int .i64), .lf (.int .i64)], [some (.box true [.lf (.ptr 1 0), .lf (.gr (.pair (.int .i64) (.pair (.int .i64) (.int .i64))) 2), .lf (.int .i64), .lf (.int .i64)]), some (.box true [.lf (.sl (.int .u8)), .lf (.int .i64), .lf (.int .i64), .lf (.int .i64)]), some (.arr true (.pair (.int .i64) (.pair (.int .i64) (.int .i64)))), some (.box true [.many (.int .i64) 16, .lf (.sl (.int .i64)), .lf (.sl (.int .i64)), .lf (.gr (.int .i64) 4)]), some (.arr true (.int .i64)), some (.arr true (.int .i64))]⟩)]
noncomputable def b33_b_3 (x : g33_b_3.D) : Option (outD o33_b_3) :=
  (if (x.2.2.2.1 = true) then (if ((0 : Int) ≤ (Go.IntKind.wrap Go.IntKind.i64 ((((List.length x.2.2.2.2.2.2.2.2.2.2.2.2.2.2.2.2.1) : Nat) : Int) - (1 : Int)))) then (if ((Go.IntKind.wrap Go.IntKind.i64 ((((List.length x.2.2.2.2.2.2.2.2.2.2.2.2.2.2.2.2.1) : Nat) : Int) - (1 : Int))) < (((List.length x.2.2.2.2.2.2.2.2.2.2.2.2.2.2.2.2.1) : Nat) : Int)) then (if ((List.length x.2.2.2.2.2.2.2.2.2.2.2.2.2.2.2.2.1) = (List.length x.2.2.2.2.2.2.2.2.2.2.2.2.2.2.2.2.1)) then (if ((List.length x.2.2.2.2.2.2.2.2.2.2.2.1) = (List.length x.2.2.2.2.2.2.2.2.2.2.2.1)) then (if ((List.length x.2.2.2.2.2.2.2.2.2.2.2.2.2.2.2.1) = (List.length x.2.2.2.2.2.2.2.2.2.2.2.2.2.2.2.1)) then (some (Sum.inl (x.1, (x.2.1, (x.2.2.1, ((List.getD x.2.2.2.2.2.2.2.2.2.2.2.2.2.2.2.2.1 ((0 : Nat) + (Int.toNat (Go.IntKind.wrap Go.IntKind.i64 ((((List.length x.2.2.2.2.2.2.2.2.2.2.2.2.2.2.2.2.1) : Nat) : Int) - (1 : Int))))) (0 : Int)), (x.2.2.2.2.2.1, (x.2.2.2.2.2.2.1, (x.2.2.2.2.2.2.2.1, (x.2.2.2.2.2.2.2.2.1, (x.2.2.2.2.2.2.2.2.2.1, (x.2.2.2.2.2.2.2.2.2.2.1, (x.2.2.2.2.2.2.2.2.2.2.2.1, (x.2.2.2.2.2.2.2.2.2.2.2.2.1, (x.2.2.2.2.2.2.2.2.2.2.2.2.2.1, (x.2.2.2.2.2.2.2.2.2.2.2.2.2.2.1, (x.2.2.2.2.2.2.2.2.2.2.2.2.2.2.2.1, (x.2.2.2.2.2.2.2.2.2.2.2.2.2.2.2.2.1, Unit.unit))))))))))))))))))
   else none)
   else none)
   else none)
   else none)
   else none)
   else (if ((List.length x.2.2.2.2.2.2.2.2.2.2.2.2.2.2.2.2.1) = (List.length x.2.2.2.2.2.2.2.2.2.2.2.2.2.2.2.2.1)) then (if ((List.length x.2.2.2.2.2.2.2.2.2.2.2.1) = (List.length x.2.2.2.2.2.2.2.2.2.2.2.1)) then (if ((List.length x.2.2.2.2.2.2.2.2.2.2.2.2.2.2.2.1) = (List.length x.2.2.2.2.2.2.2.2.2.2.2.2.2.2.2.1)) then (some (Sum.inl (x.1, (x.2.1, (x.2.2.1, (x.2.2.2.2.1, (x.2.2.2.2.2.1, (x.2.2.2.2.2.2.1, (x.2.2.2.2.2.2.2.1, (x.2.2.2.2.2.2.2.2.1, (x.2.2.2.2.2.2.2.2.2.1, (x.2.2.2.2.2.2.2.2.2.2.1, (x.2.2.2.2.2.2.2.2.2.2.2.1, (x.2.2.2.2.2.2.2.2.2.2.2.2.1, (x.2.2.2.2.2.2.2.2.2.2.2.2.2.1, (x.2.2.2.2.2.2.2.2.2.2.2.2.2.2.1, (x.2.2.2.2.2.2.2.2.2.2.2.2.2.2.2.1, (x.2.2.2.2.2.2.2.2.2.2.2.2.2.2.2.2.1, Unit.unit))))))))))))))))))
   else none)
   else none)
   else none))
theorem b33_b_3_eq (x : g33_b_3.D) : b33_b_3 x = evF P (T40.orc _) Go.Proofs.Try.f33.ntmps fx33_b (Code.at [true, false, true, true, false, false, false, true, false, true, true, true, true, true, false] c33) (planAt 64 []) g33_b_3 x (injK fx33_b o33_b_3 some) := by kernel_rfl
theorem s33_b_3_ok : SubOk P Go.Proofs.Try.f33.ntmps fx33_b (Code.at [true, false, true, true, false, false, false, true, false, true, true, true, true, true, false] c33) ⟨g33_b_3, o33_b_3, b33_b_3⟩ :=
  sub_ok (g := g33_b_3) (outs := o33_b_3) (f := b33_b_3) (Table.ok T40_ok _) hmix (planAt_ok (P := P) (n := Go.Proofs.Try.f33.ntmps) (fx := fx33_b) (c := (Code.at [true, false, true, true, false, false, false, true, false, true, true, true, true, true, false] c33)) (d := 64) (l := []) trivial) b33_b_3_eq
abbrev g33_b_1 : Sg := ⟨[0, 1, 2, 8], [.lf (.ptr 0 0), .lf (.ptr 3 0), .lf (.int .i64), .lf (.gr (.int .i64) 5)], [some (.box true [.lf (.ptr 1 0), .lf (.gr (.pair (.int .i64) (.pair (.int .i64) (.int .i64))) 2), .lf (.int .i64), .lf (.int .i64)]), some (.box true [.lf (.sl (.int .u8)), .lf (.int .i64), .lf (.int .i64), .lf (.int .i64)]), some (.arr true (.pair (.int .i64) (.pair (.int .i64) (.int .i64)))), some (.box true [.many (.int .i64) 16, .lf (.sl (.int .i64)), .lf (.sl (.int .i64)), .lf (.gr (.int .i64) 4)]), some (.arr true (.int .i64)), some (.arr true (.int .i64))]⟩
abbrev o33_b_1 : Outs := [(.exit 0, ⟨[8], [.lf (.gr (.int .i64) 5)], [some (.box true [.lf (.ptr 1 0), .lf (.gr (.pair (.int .i64) (.pair (.int .i64) (.int .i64))) 2), .lf (.int .i64), .lf (.int .i64)]), some (.box true [.lf (.sl (.int .u8)), .lf (.int .i64), .lf (.int .i64), .lf (.int .i64)]), some (.arr true (.pair (.int .i64) (.pair (.int .i64) (.int .i64)))), some (.box true [.many (.int .i64) 16, .lf (.sl (.int .i64)), .lf (.sl (.int .i64)), .lf (.gr (.int .i64) 4)]), some (.arr true (.int .i64)), some (.arr true (.int .i64))]⟩), (.ret, ⟨[6, 7], [.lf (.sl (.int .i64)), .lf (.int .i64)], [some (.box true [.lf (.ptr 1 0), .lf (.gr (.pair (.int .i64) (.pair (.int .i64) (.int .i64))) 2), .lf (.int .i64), .lf (.int .i64)]), some (.box true [.lf (.sl (.int .u8)), .lf (.int .i64), .lf (.int .i64), .lf (.int .i64)]), some (.arr true (.pair (.int .i64) (.pair (.int .i64) (.int .i64)))), some (.box true [.many (.int .i64) 16, .lf (.sl (.int .i64)), .lf (.sl (.int .i64)), .lf (.gr (.int .i64) 4)]), some (.arr true (.int .i64))]⟩)]
noncomputable def b33_b_1 (x : g33_b_1.D) : Option (outD ((.normal, g33_b_1) :: o33_b_1)) :=
  (if ((decide ((((List.length x.2.2.2.2.2.2.2.2.2.2.2.2.1) : Nat) : Int) < x.1)) = true) then (if ((List.length x.2.2.2.2.2.2.2.2.2.2.2.1) = (List.length x.2.2.2.2.2.2.2.2.2.2.2.1)) then (Option.bind (Go.Ev.Inflate.f37_b (x.2.2.2.2.2.2.2.2.1, (x.2.2.2.2.2.2.2.2.2.1, (x.2.2.2.2.2.2.2.2.2.2.1, (x.2.2.2.2.2.2.2.2.2.2.2.1, (x.2.2.2.1, (x.2.2.2.2.1, (x.2.2.2.2.2.1, (x.2.2.2.2.2.2.1, Unit.unit))))))))) (fun y1 => (if ((y1.2.1 != (0 : Int)) = true) then (if ((List.length x.2.2.2.2.2.2.2.1) = (List.length x.2.2.2.2.2.2.2.1)) then (if ((List.length y1.2.2.2.2.2.1) = (List.length y1.2.2.2.2.2.1)) then (some (Sum.inr (Sum.inr (Sum.inl ([], (y1.2.1, (x.2.1, (x.2.2.1, (y1.2.2.2.2.2.2.1, (y1.2.2.2.2.2.2.2.1, (y1.2.2.2.2.2.2.2.2.1, (y1.2.2.2.2.2.2.2.2.2.1, (x.2.2.2.2.2.2.2.1, (y1.2.2.1, (y1.2.2.2.1, (y1.2.2.2.2.1, (y1.2.2.2.2.2.1, Unit.unit)))))))))))))))))
   else none)
   else none)
   else (if ((decide (y1.1 < (16 : Int))) = true) then (if (((List.length (List.take (List.length x.2.2.2.2.2.2.2.2.2.2.2.2.1) (List.drop (0 : Nat) x.2.2.2.2.2.2.2.2.2.2.2.2.1))) + (List.length (List.take (1 : Nat) (List.drop (0 : Nat) (List.set (List.replicate (1 : Nat) (0 : Int)) (0 : Nat) y1.1))))) ≤ (17592186044416 : Nat)) then (if ((List.length ((List.take (List.length x.2.2.2.2.2.2.2.2.2.2.2.2.1) (List.drop (0 : Nat) x.2.2.2.2.2.2.2.2.2.2.2.2.1)) ++ (List.take (1 : Nat) (List.drop (0 : Nat) (List.set (List.replicate (1 : Nat) (0 : Int)) (0 : Nat) y1.1))))) = (List.length ((List.take (List.length x.2.2.2.2.2.2.2.2.2.2.2.2.1) (List.drop (0 : Nat) x.2.2.2.2.2.2.2.2.2.2.2.2.1)) ++ (List.take (1 : Nat) (List.drop (0 : Nat) (List.set (List.replicate (1 : Nat) (0 : Int)) (0 : Nat) y1.1)))))) then (if ((List.length x.2.2.2.2.2.2.2.1) = (List.length x.2.2.2.2.2.2.2.1)) then (if ((List.length y1.2.2.2.2.2.1) = (List.length y1.2.2.2.2.2.1)) then (some (Sum.inl (x.1, (x.2.1, (x.2.2.1, (y1.2.2.2.2.2.2.1, (y1.2.2.2.2.2.2.2.1, (y1.2.2.2.2.2.2.2.2.1, (y1.2.2.2.2.2.2.2.2.2.1, (x.2.2.2.2.2.2.2.1, (y1.2.2.1, (y1.2.2.2.1, (y1.2.2.2.2.1, (y1.2.2.2.2.2.1, (((List.take (List.length x.2.2.2.2.2.2.2.2.2.2.2.2.1) (List.drop (0 : Nat) x.2.2.2.2.2.2.2.2.2.2.2.2.1)) ++ (List.take (1 : Nat) (List.drop (0 : Nat) (List.set (List.replicate (1 : Nat) (0 : Int)) (0 : Nat) y1.1)))), Unit.unit)))))))))))))))
   else none)
   else none)
   else none)
   else none)
   else (Option.bind (Go.Ev.Inflate.f40 (y1.1, Unit.unit)) (fun y2 => (if ((List.length x.2.2.2.2.2.2.2.2.2.2.2.2.1) = (List.length x.2.2.2.2.2.2.2.2.2.2.2.2.1)) then (if ((List.length x.2.2.2.2.2.2.2.1) = (List.length x.2.2.2.2.2.2.2.1)) then (if ((List.length y1.2.2.2.2.2.1) = (List.length y1.2.2.2.2.2.1)) then (Option.bind (Go.Ev.Inflate.b33_b_2 (x.1, (y2.1, (y2.2.1, (y2.2.2.1, ((0 : Int), (x.2.1, (x.2.2.1, (y1.2.2.2.2.2.2.1, (y1.2.2.2.2.2.2.2.1, (y1.2.2.2.2.2.2.2.2.1, (y1.2.2.2.2.2.2.2.2.2.1, (x.2.2.2.2.2.2.2.1, (y1.2.2.1, (y1.2.2.2.1, (y1.2.2.2.2.1, (y1.2.2.2.2.2.1, (x.2.2.2.2.2.2.2.2.2.2.2.2.1, Unit.unit)))))))))))))))))) (Sum.elim (fun y3 => (if (y3.2.2.2.2.2.1 = true) then (if ((List.length y3.2.2.2.2.2.2.2.2.2.2.2.2.1) = (List.length y3.2.2.2.2.2.2.2.2.2.2.2.2.1)) then (if ((List.length y3.2.2.2.2.2.2.2.2.2.2.2.2.2.2.2.2.1) = (List.length y3.2.2.2.2.2.2.2.2.2.2.2.2.2.2.2.2.1)) then (some (Sum.inr (Sum.inr (Sum.inl ([], ((4 : Int), (y3.2.2.2.2.2.2.1, (y3.2.2.2.2.2.2.2.1, (y3.2.2.2.2.2.2.2.2.1, (y3.2.2.2.2.2.2.2.2.2.1, (y3.2.2.2.2.2.2.2.2.2.2.1, (y3.2.2.2.2.2.2.2.2.2.2.2.1, (y3.2.2.2.2.2.2.2.2.2.2.2.2.1, (y3.2.2.2.2.2.2.2.2.2.2.2.2.2.1, (y3.2.2.2.2.2.2.2.2.2.2.2.2.2.2.1, (y3.2.2.2.2.2.2.2.2.2.2.2.2.2.2.2.1, (y3.2.2.2.2.2.2.2.2.2.2.2.2.2.2.2.2.1, Unit.unit)))))))))))))))))
   else none)
   else none)
   else (if ((List.length y3.2.2.2.2.2.2.2.2.2.2.2.2.2.2.2.2.2.1) = (List.length y3.2.2.2.2.2.2.2.2.2.2.2.2.2.2.2.2.2.1)) then (if ((List.length y3.2.2.2.2.2.2.2.2.2.2.2.2.1) = (List.length y3.2.2.2.2.2.2.2.2.2.2.2.2.1)) then (if ((List.length y3.2.2.2.2.2.2.2.2.2.2.2.2.2.2.2.2.1) = (List.length y3.2.2.2.2.2.2.2.2.2.2.2.2.2.2.2.2.1)) then (Option.bind (Go.Ev.Inflate.b33_b_3 (y3.1, (y3.2.1, (y3.2.2.1, (y3.2.2.2.1, (y3.2.2.2.2.1, (y3.2.2.2.2.2.2.1, (y3.2.2.2.2.2.2.2.1, (y3.2.2.2.2.2.2.2.2.1, (y3.2.2.2.2.2.2.2.2.2.1, (y3.2.2.2.2.2.2.2.2.2.2.1, (y3.2.2.2.2.2.2.2.2.2.2.2.1, (y3.2.2.2.2.2.2.2.2.2.2.2.2.1, (y3.2.2.2.2.2.2.2.2.2.2.2.2.2.1, (y3.2.2.2.2.2.2.2.2.2.2.2.2.2.2.1, (y3.2.2.2.2.2.2.2.2.2.2.2.2.2.2.2.1, (y3.2.2.2.2.2.2.2.2.2.2.2.2.2.2.2.2.1, (y3.2.2.2.2.2.2.2.2.2.2.2.2.2.2.2.2.2.1, Unit.unit)))))))))))))))))) (Sum.elim (fun y4 => (Option.bind (Go.Ev.Inflate.f25 (y4.2.1, (y4.2.2.2.2.2.2.1, (y4.2.2.2.2.2.2.2.1, (y4.2.2.2.2.2.2.2.2.1, (y4.2.2.2.2.2.2.2.2.2.1, Unit.unit)))))) (fun y5 => (if ((y5.2.1 != (0 : Int)) = true) then (if ((List.length y4.2.2.2.2.2.2.2.2.2.2.1) = (List.length y4.2.2.2.2.2.2.2.2.2.2.1)) then (if ((List.length y4.2.2.2.2.2.2.2.2.2.2.2.2.2.2.1) = (List.length y4.2.2.2.2.2.2.2.2.2.2.2.2.2.2.1)) then (some (Sum.inr (Sum.inr (Sum.inl ([], (y5.2.1, (y4.2.2.2.2.1, (y4.2.2.2.2.2.1, (y5.2.2.1, (y5.2.2.2.1, (y5.2.2.2.2.1, (y5.2.2.2.2.2.1, (y4.2.2.2.2.2.2.2.2.2.2.1, (y4.2.2.2.2.2.2.2.2.2.2.2.1, (y4.2.2.2.2.2.2.2.2.2.2.2.2.1, (y4.2.2.2.2.2.2.2.2.2.2.2.2.2.1, (y4.2.2.2.2.2.2.2.2.2.2.2.2.2.2.1, Unit.unit)))))))))))))))))
   else none)
   else none)
   else (if ((decide ((Go.IntKind.wrap Go.IntKind.i64 ((Go.IntKind.wrap Go.IntKind.i64 ((((List.length y4.2.2.2.2.2.2.2.2.2.2.2.2.2.2.2.1) : Nat) : Int) + y4.2.2.1)) + y5.1)) > y4.1)) = true) then (if ((List.length y4.2.2.2.2.2.2.2.2.2.2.1) = (List.length y4.2.2.2.2.2.2.2.2.2.2.1)) then (if ((List.length y4.2.2.2.2.2.2.2.2.2.2.2.2.2.2.1) = (List.length y4.2.2.2.2.2.2.2.2.2.2.2.2.2.2.1)) then (some (Sum.inr (Sum.inr (Sum.inl ([], ((4 : Int), (y4.2.2.2.2.1, (y4.2.2.2.2.2.1, (y5.2.2.1, (y5.2.2.2.1, (y5.2.2.2.2.1, (y5.2.2.2.2.2.1, (y4.2.2.2.2.2.2.2.2.2.2.1, (y4.2.2.2.2.2.2.2.2.2.2.2.1, (y4.2.2.2.2.2.2.2.2.2.2.2.2.1, (y4.2.2.2.2.2.2.2.2.2.2.2.2.2.1, (y4.2.2.2.2.2.2.2.2.2.2.2.2.2.2.1, Unit.unit)))))))))))))))))
   else none)
   else none)
   else (Option.bind (Go.Ev.Inflate.f31 ((List.take (1 : Nat) (List.drop (0 : Nat) (List.set (List.replicate (1 : Nat) (0 : Int)) (0 : Nat) y4.2.2.2.1))), ((Go.IntKind.wrap Go.IntKind.i64 (y4.2.2.1 + y5.1)), Unit.unit))) (fun y6 => (if (((List.length (List.take (List.length y4.2.2.2.2.2.2.2.2.2.2.2.2.2.2.2.1) (List.drop (0 : Nat) y4.2.2.2.2.2.2.2.2.2.2.2.2.2.2.2.1))) + (List.length (List.take (List.length y6.1) (List.drop (0 : Nat) y6.1)))) ≤ (17592186044416 : Nat)) then (if ((List.length ((List.take (List.length y4.2.2.2.2.2.2.2.2.2.2.2.2.2.2.2.1) (List.drop (0 : Nat) y4.2.2.2.2.2.2.2.2.2.2.2.2.2.2.2.1)) ++ (List.take (List.length y6.1) (List.drop (0 : Nat) y6.1)))) = (List.length ((List.take (List.length y4.2.2.2.2.2.2.2.2.2.2.2.2.2.2.2.1) (List.drop (0 : Nat) y4.2.2.2.2.2.2.2.2.2.2.2.2.2.2.2.1)) ++ (List.take (List.length y6.1) (List.drop (0 : Nat) y6.1))))) then (if ((List.length y4.2.2.2.2.2.2.2.2.2.2.1) = (List.length y4.2.2.2.2.2.2.2.2.2.2.1)) then (if ((List.length y4.2.2.2.2.2.2.2.2.2.2.2.2.2.2.1) = (List.length y4.2.2.2.2.2.2.2.2.2.2.2.2.2.2.1)) then (some (Sum.inl (y4.1, (y4.2.2.2.2.1, (y4.2.2.2.2.2.1, (y5.2.2.1, (y5.2.2.2.1, (y5.2.2.2.2.1, (y5.2.2.2.2.2.1, (y4.2.2.2.2.2.2.2.2.2.2.1, (y4.2.2.2.2.2.2.2.2.2.2.2.1, (y4.2.2.2.2.2.2.2.2.2.2.2.2.1, (y4.2.2.2.2.2.2.2.2.2.2.2.2.2.1, (y4.2.2.2.2.2.2.2.2.2.2.2.2.2.2.1, (((List.take (List.length y4.2.2.2.2.2.2.2.2.2.2.2.2.2.2.2.1) (List.drop (0 : Nat) y4.2.2.2.2.2.2.2.2.2.2.2.2.2.2.2.1)) ++ (List.take (List.length y6.1) (List.drop (0 : Nat) y6.1))), Unit.unit)))))))))))))))
   else none)
   else none)
   else none)
   else none)))))))) Empty.elim))
   else none)
   else none)
   else none))) Empty.elim))
   else none)
   else none)
   else none)))))))
   else none)
   else (if ((List.length x.2.2.2.2.2.2.2.2.2.2.2.2.1) = (List.length x.2.2.2.2.2.2.2.2.2.2.2.2.1)) then (if ((List.length x.2.2.2.2.2.2.2.1) = (List.length x.2.2.2.2.2.2.2.1)) then (if ((List.length x.2.2.2.2.2.2.2.2.2.2.2.1) = (List.length x.2.2.2.2.2.2.2.2.2.2.2.1)) then (some (Sum.inr (Sum.inl (x.2.1, (x.2.2.1, (x.2.2.2.1, (x.2.2.2.2.1, (x.2.2.2.2.2.1, (x.2.2.2.2.2.2.1, (x.2.2.2.2.2.2.2.1, (x.2.2.2.2.2.2.2.2.1, (x.2.2.2.2.2.2.2.2.2.1, (x.2.2.2.2.2.2.2.2.2.2.1, (x.2.2.2.2.2.2.2.2.2.2.2.1, (x.2.2.2.2.2.2.2.2.2.2.2.2.1, Unit.unit)))))))))))))))
   else none)
   else none)
   else none))
theorem b33_b_1_eq (x : g33_b_1.D) : b33_b_1 x = evF P (T40.orc _) Go.Proofs.Try.f33.ntmps fx33_b (Code.at [true, false, true, true, false, false, false] c33) (planAt 64 [([true, false, true, true, true, true, false, false], ⟨g33_b_2, o33_b_2, b33_b_2⟩), ([true, false, true, true, true, true, true, false], ⟨g33_b_3, o33_b_3, b33_b_3⟩)]) g33_b_1 x (injK fx33_b ((.normal, g33_b_1) :: o33_b_1) some) := by kernel_rfl
noncomputable def l33_b_1 : g33_b_1.D → Option (outD o33_b_1) := loopN g33_b_1 o33_b_1 b33_b_1 18446744073709551616
theorem p33_b_1 : AllSub P Go.Proofs.Try.f33.ntmps fx33_b (Code.at [true, false, true, true, false, false, false] c33) [([true, false, true, true, true, true, false, false], ⟨g33_b_2, o33_b_2, b33_b_2⟩), ([true, false, true, true, true, true, true, false], ⟨g33_b_3, o33_b_3, b33_b_3⟩)] := And.intro s33_b_2_ok (And.intro s33_b_3_ok (trivial))
theorem q33_b_1 : PlanOk P Go.Proofs.Try.f33.ntmps fx33_b (planAt 64 [([true, false, true, true, true, true, false, false], ⟨g33_b_2, o33_b_2, b33_b_2⟩), ([true, false, true, true, true, true, true, false], ⟨g33_b_3, o33_b_3, b33_b_3⟩)]) (Code.at [true, false, true, true, false, false, false] c33) := planAt_ok p33_b_1
theorem at33_b_1 : Code.at [true, false, true, true, false, false] c33 = .loop (Code.at [true, false, true, true, false, false, false] c33) := by kernel_rfl
theorem s33_b_1_ok : SubOk P Go.Proofs.Try.f33.ntmps fx33_b (Code.at [true, false, true, true, false, false] c33) ⟨g33_b_1, o33_b_1, l33_b_1⟩ := by
  rw [at33_b_1]
  exact loop_ok (sub_ok (g := g33_b_1) (outs := ((.normal, g33_b_1) :: o33_b_1)) (f := b33_b_1) (Table.ok T40_ok _) hmix (q33_b_1) b33_b_1_eq) rfl _
noncomputable def f33_b (x : gi33_b.D) : Option go33_b.D :=
  (if ((List.length x.2.2.2.2.2.2.2.1) = (List.length x.2.2.2.2.2.2.2.1)) then (if ((List.length x.2.2.2.2.2.2.2.2.2.2.2.1) = (List.length x.2.2.2.2.2.2.2.2.2.2.2.1)) then (Option.bind (Go.Ev.Inflate.l33_b_1 (x.1, (x.2.1, (x.2.2.1, (x.2.2.2.1, (x.2.2.2.2.1, (x.2.2.2.2.2.1, (x.2.2.2.2.2.2.1, (x.2.2.2.2.2.2.2.1, (x.2.2.2.2.2.2.2.2.1, (x.2.2.2.2.2.2.2.2.2.1, (x.2.2.2.2.2.2.2.2.2.2.1, (x.2.2.2.2.2.2.2.2.2.2.2.1, ([], Unit.unit)))))))))))))) (Sum.elim (fun y1 => (if ((List.length y1.2.2.2.2.2.2.1) = (List.length y1.2.2.2.2.2.2.1)) then (if ((List.length y1.2.2.2.2.2.2.2.2.2.2.1) = (List.length y1.2.2.2.2.2.2.2.2.2.2.1)) then (some ((List.take (List.length y1.2.2.2.2.2.2.2.2.2.2.2.1) (List.drop (0 : Nat) y1.2.2.2.2.2.2.2.2.2.2.2.1)), ((0 : Int), (y1.1, (y1.2.1, (y1.2.2.1, (y1.2.2.2.1, (y1.2.2.2.2.1, (y1.2.2.2.2.2.1, (y1.2.2.2.2.2.2.1, (y1.2.2.2.2.2.2.2.1, (y1.2.2.2.2.2.2.2.2.1, (y1.2.2.2.2.2.2.2.2.2.1, (y1.2.2.2.2.2.2.2.2.2.2.1, Unit.unit))))))))))))))
   else none)
   else none)) (Sum.elim (fun y1 => (if ((List.length y1.2.2.2.2.2.2.2.2.1) = (List.length y1.2.2.2.2.2.2.2.2.1)) then (if ((List.length y1.2.2.2.2.2.2.2.2.2.2.2.2.1) = (List.length y1.2.2.2.2.2.2.2.2.2.2.2.2.1)) then (some (y1.1, (y1.2.1, (y1.2.2.1, (y1.2.2.2.1, (y1.2.2.2.2.1, (y1.2.2.2.2.2.1, (y1.2.2.2.2.2.2.1, (y1.2.2.2.2.2.2.2.1, (y1.2.2.2.2.2.2.2.2.1, (y1.2.2.2.2.2.2.2.2.2.1, (y1.2.2.2.2.2.2.2.2.2.2.1, (y1.2.2.2.2.2.2.2.2.2.2.2.1, (y1.2.2.2.2.2.2.2.2.2.2.2.2.1, Unit.unit))))))))))))))
   else none)
   else none)) Empty.elim)))
   else none)
   else none)
theorem f33_b_eq (x : gi33_b.D) : f33_b x = evF P (T40.orc _) Go.Proofs.Try.f33.ntmps fx33_b c33 (planAt 64 [([true, false, true, true, false, false], ⟨g33_b_1, o33_b_1, l33_b_1⟩)]) gi33_b x (fnK fx33_b [go33_b]) := by kernel_rfl
theorem pf33_b : AllSub P Go.Proofs.Try.f33.ntmps fx33_b c33 [([true, false, true, true, false, false], ⟨g33_b_1, o33_b_1, l33_b_1⟩)] := And.intro s33_b_1_ok (trivial)
theorem qf33_b : PlanOk P Go.Proofs.Try.f33.ntmps fx33_b (planAt 64 [([true, false, true, true, false, false], ⟨g33_b_1, o33_b_1, l33_b_1⟩)]) c33 := planAt_ok pf33_b
theorem f33_b_ok : EntOk P 33 ⟨gi33_b, [go33_b], f33_b⟩ :=
  ent_ok (fn := Go.Proofs.Try.f33) (gi := gi33_b) (gos := [go33_b]) (f := f33_b) (c := c33) (fx := fx33_b) ⟨Go.Proofs.Try.func33, by kernel_rfl, rfl, by decide +kernel, rfl, rfl⟩ (by kernel_rfl) (Table.ok T40_ok _) hmix (qf33_b) f33_b_eq
noncomputable def T33 : Table := T40.add 33 [⟨gi33, [go33], f33⟩, ⟨gi33_b, [go33_b], f33_b⟩] []
theorem T33_ok : TableOk P T33 := Table.plus T40_ok (es := [⟨gi33, [go33], f33⟩, ⟨gi33_b, [go33_b], f33_b⟩]) ⟨f33_ok, f33_b_ok, trivial⟩ []

/-! ## 21: (*erasure/inflate.work).own -/
noncomputable def c21 : Code := Func.code Go.Proofs.Try.f21
abbrev gi21 : Sg := ⟨[0], [.lf (.ptr 0 0)], [some (.box true [.lf (.ptr 1 0), .lf (.gr (.pair (.int .i64) (.pair (.int .i64) (.int .i64))) 2), .lf (.int .i64), .lf (.int .i64)]), some (.box true [.lf (.sl (.int .u8)), .lf (.int .i64), .lf (.int .i64), .lf (.int .i64)]), some (.arr true (.pair (.int .i64) (.pair (.int .i64) (.int .i64))))]⟩
abbrev go21 : Sg := ⟨[2], [.lf (.int .i64)], [some (.box true [.lf (.ptr 1 0), .lf (.gr (.pair (.int .i64) (.pair (.int .i64) (.int .i64))) 3), .lf (.int .i64), .lf (.int .i64)]), some (.box true [.lf (.sl (.int .u8)), .lf (.int .i64), .lf (.int .i64), .lf (.int .i64)]), none, some (.arr true (.pair (.int .i64) (.pair (.int .i64) (.int .i64))))]⟩
def fx21 : List Bool := [true, true, false]
abbrev g21_2 : Sg := ⟨[0, 5, 6, 7, 46, 47, 48], [.lf (.ptr 0 0), .lf (.int .i64), .lf (.int .i64), .lf (.gr (.int .i64) 3), .lf (.sl (.int .i64)), .lf (.int .i64), .lf (.int .i64)], [some (.box true [.lf (.ptr 1 0), .lf (.gr (.pair (.int .i64) (.pair (.int .i64) (.int .i64))) 4), .lf (.int .i64), .lf (.int .i64)]), some (.box true [.lf (.sl (.int .u8)), .lf (.int .i64), .lf (.int .i64), .lf (.int .i64)]), none, some (.arr true (.int .i64)), some (.arr true (.pair (.int .i64) (.pair (.int .i64) (.int .i64))))]⟩
abbrev o21_2 : Outs := [(.exit 0, ⟨[0, 5, 6, 7], [.lf (.ptr 0 0), .lf (.int .i64), .lf (.int .i64), .lf (.gr (.int .i64) 3)], [some (.box true [.lf (.ptr 1 0), .lf (.gr (.pair (.int .i64) (.pair (.int .i64) (.int .i64))) 4), .lf (.int .i64), .lf (.int .i64)]), some (.box true [.lf (.sl (.int .u8)), .lf (.int .i64), .lf (.int .i64), .lf (.int .i64)]), none, some (.arr true (.int .i64)), some (.arr true (.pair (.int .i64) (.pair (.int .i64) (.int .i64))))]⟩), (.ret, ⟨[2], [.lf (.int .i64)], [some (.box true [.lf (.ptr 1 0), .lf (.gr (.pair (.int .i64) (.pair (.int .i64) (.int .i64))) 3), .lf (.int .i64), .lf (.int .i64)]), some (.box true [.lf (.sl (.int .u8)), .lf (.int .i64), .lf (.int .i64), .lf (.int .i64)]), none, some (.arr true (.pair (.int .i64) (.pair (.int .i64) (.int .i64))))]⟩)]
noncomputable def b21_2 (x : g21_2.D) : Option (outD ((.normal, g21_2) :: o21_2)) :=
  (if ((decide (x.2.2.2.2.1 < x.2.2.2.1)) = true) then (if ((0 : Int) ≤ x.2.2.2.2.1) then (if (x.2.2.2.2.1 < (((List.length x.2.2.1) : Nat) : Int)) then (Option.bind (Go.Ev.Inflate.f25 ((3 : Int), (x.2.2.2.2.2.2.2.1, (x.2.2.2.2.2.2.2.2.1, (x.2.2.2.2.2.2.2.2.2.1, (x.2.2.2.2.2.2.2.2.2.2.1, Unit.unit)))))) (fun y1 => (if ((y1.2.1 != (0 : Int)) = true) then (if ((List.length x.2.2.2.2.2.2.2.2.2.2.2.2.1) = (List.length x.2.2.2.2.2.2.2.2.2.2.2.2.1)) then (some (Sum.inr (Sum.inr (Sum.inl (y1.2.1, (x.2.2.2.2.2.1, (x.2.2.2.2.2.2.1, (y1.2.2.1, (y1.2.2.2.1, (y1.2.2.2.2.1, (y1.2.2.2.2.2.1, (x.2.2.2.2.2.2.2.2.2.2.2.2.1, Unit.unit))))))))))))
   else none)
   else (if ((0 : Int) ≤ (List.getD x.2.2.1 (Int.toNat x.2.2.2.2.1) (0 : Int))) then (if ((List.getD x.2.2.1 (Int.toNat x.2.2.2.2.1) (0 : Int)) < (((List.length x.2.2.2.2.2.2.2.2.2.2.2.1) : Nat) : Int)) then (if ((List.length x.2.2.2.2.2.2.2.2.2.2.2.1) = (List.length (List.set x.2.2.2.2.2.2.2.2.2.2.2.1 ((0 : Nat) + (Int.toNat (List.getD x.2.2.1 (Int.toNat x.2.2.2.2.1) (0 : Int)))) y1.1))) then (if ((List.length x.2.2.2.2.2.2.2.2.2.2.2.2.1) = (List.length x.2.2.2.2.2.2.2.2.2.2.2.2.1)) then (some (Sum.inl (x.1, (x.2.1, (x.2.2.1, (x.2.2.2.1, ((Go.IntKind.wrap Go.IntKind.i64 (x.2.2.2.2.1 + (1 : Int))), (x.2.2.2.2.2.1, (x.2.2.2.2.2.2.1, (y1.2.2.1, (y1.2.2.2.1, (y1.2.2.2.2.1, (y1.2.2.2.2.2.1, ((List.set x.2.2.2.2.2.2.2.2.2.2.2.1 ((0 : Nat) + (Int.toNat (List.getD x.2.2.1 (Int.toNat x.2.2.2.2.1) (0 : Int)))) y1.1), (x.2.2.2.2.2.2.2.2.2.2.2.2.1, Unit.unit)))))))))))))))
   else none)
   else none)
   else none)
   else none))))
   else none)
   else none)
   else (if ((List.length x.2.2.2.2.2.2.2.2.2.2.2.1) = (List.length x.2.2.2.2.2.2.2.2.2.2.2.1)) then (if ((List.length x.2.2.2.2.2.2.2.2.2.2.2.2.1) = (List.length x.2.2.2.2.2.2.2.2.2.2.2.2.1)) then (some (Sum.inr (Sum.inl (x.1, (x.2.1, (x.2.2.2.2.2.1, (x.2.2.2.2.2.2.1, (x.2.2.2.2.2.2.2.1, (x.2.2.2.2.2.2.2.2.1, (x.2.2.2.2.2.2.2.2.2.1, (x.2.2.2.2.2.2.2.2.2.2.1, (x.2.2.2.2.2.2.2.2.2.2.2.1, (x.2.2.2.2.2.2.2.2.2.2.2.2.1, Unit.unit)))))))))))))
   else none)
   else none))
theorem b21_2_eq (x : g21_2.D) : b21_2 x = evF P (T33.orc _) Go.Proofs.Try.f21.ntmps fx21 (Code.at [true, true, true, true, true, true, false, true, false, false] c21) (planAt 64 []) g21_2 x (injK fx21 ((.normal, g21_2) :: o21_2) some) := by kernel_rfl
noncomputable def l21_2 : g21_2.D → Option (outD o21_2) := loopN g21_2 o21_2 b21_2 18446744073709551616
theorem at21_2 : Code.at [true, true, true, true, true, true, false, true, false] c21 = .loop (Code.at [true, true, true, true, true, true, false, true, false, false] c21) := by kernel_rfl
theorem s21_2_ok : SubOk P Go.Proofs.Try.f21.ntmps fx21 (Code.at [true, true, true, true, true, true, false, true, false] c21) ⟨g21_2, o21_2, l21_2⟩ := by
  rw [at21_2]
  exact loop_ok (sub_ok (g := g21_2) (outs := ((.normal, g21_2) :: o21_2)) (f := b21_2) (Table.ok T33_ok _) hmix (planAt_ok (P := P) (n := Go.Proofs.Try.f21.ntmps) (fx := fx21) (c := (Code.at [true, true, true, true, true, true, false, true, false, false] c21)) (d := 64) (l := []) trivial) b21_2_eq) rfl _
abbrev g21_1 : Sg := ⟨[0, 5, 6, 7], [.lf (.ptr 0 0), .lf (.int .i64), .lf (.int .i64), .lf (.gr (.int .i64) 3)], [some (.box true [.lf (.ptr 1 0), .lf (.gr (.pair (.int .i64) (.pair (.int .i64) (.int .i64))) 4), .lf (.int .i64), .lf (.int .i64)]), some (.box true [.lf (.sl (.int .u8)), .lf (.int .i64), .lf (.int .i64), .lf (.int .i64)]), none, some (.arr true (.int .i64)), some (.arr true (.pair (.int .i64) (.pair (.int .i64) (.int .i64))))]⟩
abbrev o21_1 : Outs := [(.normal, ⟨[0, 4, 5, 6, 12], [.lf (.ptr 0 0), .lf (.int .i64), .lf (.int .i64), .lf (.int .i64), .lf .nilp], [some (.box true [.lf (.ptr 1 0), .lf (.gr (.pair (.int .i64) (.pair (.int .i64) (.int .i64))) 3), .lf (.int .i64), .lf (.int .i64)]), some (.box true [.lf (.sl (.int .u8)), .lf (.int .i64), .lf (.int .i64), .lf (.int .i64)]), none, some (.arr true (.pair (.int .i64) (.pair (.int .i64) (.int .i64))))]⟩), (.normal, ⟨[0, 4, 5, 6, 12], [.lf (.ptr 0 0), .lf (.int .i64), .lf (.int .i64), .lf (.int .i64), .lf (.ptr 3 0)], [some (.box true [.lf (.ptr 1 0), .lf (.gr (.pair (.int .i64) (.pair (.int .i64) (.int .i64))) 4), .lf (.int .i64), .lf (.int .i64)]), some (.box true [.lf (.sl (.int .u8)), .lf (.int .i64), .lf (.int .i64), .lf (.int .i64)]), none, some (.box true [.many (.int .i64) 16, .lf (.sl (.int .i64)), .lf (.sl (.int .i64)), .lf (.gr (.int .i64) 5)]), some (.arr true (.pair (.int .i64) (.pair (.int .i64) (.int .i64)))), some (.arr true (.int .i64))]⟩)]
noncomputable def b21_1 (x : g21_1.D) : Option (outD o21_1) :=
  (Option.bind (Go.Ev.Inflate.f29 ((List.take (List.length x.2.2.2.2.2.2.2.2.1) (List.drop (0 : Nat) x.2.2.2.2.2.2.2.2.1)), Unit.unit)) (Sum.elim (fun y1 => (if ((List.length x.2.2.2.2.2.2.2.2.2.1) = (List.length x.2.2.2.2.2.2.2.2.2.1)) then (some (Sum.inl (y1.1, (x.1, (x.2.1, (x.2.2.1, (x.2.2.2.1, (x.2.2.2.2.1, (x.2.2.2.2.2.1, (x.2.2.2.2.2.2.1, (x.2.2.2.2.2.2.2.1, (x.2.2.2.2.2.2.2.2.2.1, Unit.unit))))))))))))
   else none)) (fun y1 => (if ((List.length x.2.2.2.2.2.2.2.2.2.1) = (List.length x.2.2.2.2.2.2.2.2.2.1)) then (if ((List.length y1.2.2.2.2.1) = (List.length y1.2.2.2.2.1)) then (some (Sum.inr (Sum.inl (y1.1, (x.1, (x.2.1, (x.2.2.1, (x.2.2.2.1, (x.2.2.2.2.1, (x.2.2.2.2.2.1, (x.2.2.2.2.2.2.1, (x.2.2.2.2.2.2.2.1, (y1.2.1, (y1.2.2.1, (y1.2.2.2.1, (x.2.2.2.2.2.2.2.2.2.1, (y1.2.2.2.2.1, Unit.unit)))))))))))))))))
   else none)
   else none))))
theorem b21_1_eq (x : g21_1.D) : b21_1 x = evF P (T33.orc _) Go.Proofs.Try.f21.ntmps fx21 (Code.at [true, true, true, true, true, true, true, false] c21) (planAt 64 []) g21_1 x (injK fx21 o21_1 some) := by kernel_rfl
theorem s21_1_ok : SubOk P Go.Proofs.Try.f21.ntmps fx21 (Code.at [true, true, true, true, true, true, true, false] c21) ⟨g21_1, o21_1, b21_1⟩ :=
  sub_ok (g := g21_1) (outs := o21_1) (f := b21_1) (Table.ok T33_ok _) hmix (planAt_ok (P := P) (n := Go.Proofs.Try.f21.ntmps) (fx := fx21) (c := (Code.at [true, true, true, true, true, true, true, false] c21)) (d := 64) (l := []) trivial) b21_1_eq
noncomputable def f21 (x : gi21.D) : Option go21.D :=
  (if ((List.length x.2.2.2.2.2.2.1) = (List.length x.2.2.2.2.2.2.1)) then (Option.bind (Go.Ev.Inflate.f18 ((List.take (3 : Nat) (List.drop (0 : Nat) (List.set (List.set (List.set (List.replicate (3 : Nat) (0 : Int)) (0 : Nat) (5 : Int)) (1 : Nat) (5 : Int)) (2 : Nat) (4 : Int)))), (x.1, (x.2.1, (x.2.2.1, (x.2.2.2.1, (x.2.2.2.2.1, (x.2.2.2.2.2.1, (x.2.2.2.2.2.2.1, Unit.unit))))))))) (fun y1 => (if ((y1.2.1 != (0 : Int)) = true) then (if ((List.length y1.2.2.2.2.2.2.2.2.1) = (List.length y1.2.2.2.2.2.2.2.2.1)) then (some (y1.2.1, (y1.2.2.1, (y1.2.2.2.1, (y1.2.2.2.2.1, (y1.2.2.2.2.2.1, (y1.2.2.2.2.2.2.1, (y1.2.2.2.2.2.2.2.1, (y1.2.2.2.2.2.2.2.2.1, Unit.unit)))))))))
   else none)
   else (if ((0 : Int) < (((List.length y1.1) : Nat) : Int)) then (if ((1 : Int) < (((List.length y1.1) : Nat) : Int)) then (if ((decide ((Go.IntKind.wrap Go.IntKind.i64 ((Go.IntKind.wrap Go.IntKind.i64 ((List.getD y1.1 (0 : Nat) (0 : Int)) + (256 : Int))) + (1 : Int))) > (286 : Int))) = true) then (if ((List.length y1.2.2.2.2.2.2.2.2.1) = (List.length y1.2.2.2.2.2.2.2.2.1)) then (some ((4 : Int), (y1.2.2.1, (y1.2.2.2.1, (y1.2.2.2.2.1, (y1.2.2.2.2.2.1, (y1.2.2.2.2.2.2.1, (y1.2.2.2.2.2.2.2.1, (y1.2.2.2.2.2.2.2.2.1, Unit.unit)))))))))
   else none)
   else (if ((decide ((Go.IntKind.wrap Go.IntKind.i64 ((List.getD y1.1 (1 : Nat) (0 : Int)) + (1 : Int))) > (30 : Int))) = true) then (if ((List.length y1.2.2.2.2.2.2.2.2.1) = (List.length y1.2.2.2.2.2.2.2.2.1)) then (some ((4 : Int), (y1.2.2.1, (y1.2.2.2.1, (y1.2.2.2.2.1, (y1.2.2.2.2.2.1, (y1.2.2.2.2.2.2.1, (y1.2.2.2.2.2.2.2.1, (y1.2.2.2.2.2.2.2.2.1, Unit.unit)))))))))
   else none)
   else (if ((2 : Int) < (((List.length y1.1) : Nat) : Int)) then (if ((0 : Int) ≤ (Go.IntKind.wrap Go.IntKind.i64 ((List.getD y1.1 (2 : Nat) (0 : Int)) + (4 : Int)))) then (if ((Go.IntKind.wrap Go.IntKind.i64 ((List.getD y1.1 (2 : Nat) (0 : Int)) + (4 : Int))) ≤ (19 : Int)) then (if ((List.length y1.2.2.2.2.2.2.2.2.1) = (List.length y1.2.2.2.2.2.2.2.2.1)) then (Option.bind (Go.Ev.Inflate.l21_2 ((Go.IntKind.wrap Go.IntKind.i64 ((Go.IntKind.wrap Go.IntKind.i64 ((List.getD y1.1 (0 : Nat) (0 : Int)) + (256 : Int))) + (1 : Int))), ((Go.IntKind.wrap Go.IntKind.i64 ((List.getD y1.1 (1 : Nat) (0 : Int)) + (1 : Int))), ((List.take ((Int.toNat (Go.IntKind.wrap Go.IntKind.i64 ((List.getD y1.1 (2 : Nat) (0 : Int)) + (4 : Int)))) - (0 : Nat)) (List.drop (0 : Nat) (List.set (List.set (List.set (List.set (List.set (List.set (List.set (List.set (List.set (List.set (List.set (List.set (List.set (List.set (List.set (List.set (List.set (List.set (List.set (List.replicate (19 : Nat) (0 : Int)) (0 : Nat) (16 : Int)) (1 : Nat) (17 : Int)) (2 : Nat) (18 : Int)) (3 : Nat) (0 : Int)) (4 : Nat) (8 : Int)) (5 : Nat) (7 : Int)) (6 : Nat) (9 : Int)) (7 : Nat) (6 : Int)) (8 : Nat) (10 : Int)) (9 : Nat) (5 : Int)) (10 : Nat) (11 : Int)) (11 : Nat) (4 : Int)) (12 : Nat) (12 : Int)) (13 : Nat) (3 : Int)) (14 : Nat) (13 : Int)) (15 : Nat) (2 : Int)) (16 : Nat) (14 : Int)) (17 : Nat) (1 : Int)) (18 : Nat) (15 : Int)))), (((((Int.toNat (Go.IntKind.wrap Go.IntKind.i64 ((List.getD y1.1 (2 : Nat) (0 : Int)) + (4 : Int)))) - (0 : Nat)) : Nat) : Int), ((0 : Int), (y1.2.2.1, (y1.2.2.2.1, (y1.2.2.2.2.1, (y1.2.2.2.2.2.1, (y1.2.2.2.2.2.2.1, (y1.2.2.2.2.2.2.2.1, ((List.replicate (19 : Nat) (0 : Int)), (y1.2.2.2.2.2.2.2.2.1, Unit.unit)))))))))))))) (Sum.elim (fun y2 => (if ((List.length y2.2.2.2.2.2.2.2.2.1) = (List.length y2.2.2.2.2.2.2.2.2.1)) then (if ((List.length y2.2.2.2.2.2.2.2.2.2.1) = (List.length y2.2.2.2.2.2.2.2.2.2.1)) then (Option.bind (Go.Ev.Inflate.b21_1 (y2.1, (y2.2.1, (y2.2.2.1, (y2.2.2.2.1, (y2.2.2.2.2.1, (y2.2.2.2.2.2.1, (y2.2.2.2.2.2.2.1, (y2.2.2.2.2.2.2.2.1, (y2.2.2.2.2.2.2.2.2.1, (y2.2.2.2.2.2.2.2.2.2.1, Unit.unit))))))))))) (Sum.elim (fun y3 => (if ((y3.1 != (0 : Int)) = true) then (if ((List.length y3.2.2.2.2.2.2.2.2.2.1) = (List.length y3.2.2.2.2.2.2.2.2.2.1)) then (some (y3.1, (y3.2.2.2.1, (y3.2.2.2.2.1, (y3.2.2.2.2.2.1, (y3.2.2.2.2.2.2.1, (y3.2.2.2.2.2.2.2.1, (y3.2.2.2.2.2.2.2.2.1, (y3.2.2.2.2.2.2.2.2.2.1, Unit.unit)))))))))
   else none)
   else (if ((List.length y3.2.2.2.2.2.2.2.2.2.1) = (List.length y3.2.2.2.2.2.2.2.2.2.1)) then (Option.bind (Go.Ev.Inflate.f33 ((Go.IntKind.wrap Go.IntKind.i64 (y3.2.1 + y3.2.2.1)), (y3.2.2.2.1, (y3.2.2.2.2.1, (y3.2.2.2.2.2.1, (y3.2.2.2.2.2.2.1, (y3.2.2.2.2.2.2.2.1, (y3.2.2.2.2.2.2.2.2.1, (y3.2.2.2.2.2.2.2.2.2.1, Unit.unit))))))))) (fun y4 => (if ((y4.2.1 != (0 : Int)) = true) then (if ((List.length y4.2.2.2.2.2.2.2.2.1) = (List.length y4.2.2.2.2.2.2.2.2.1)) then (some (y4.2.1, (y4.2.2.1, (y4.2.2.2.1, (y4.2.2.2.2.1, (y4.2.2.2.2.2.1, (y4.2.2.2.2.2.2.1, (y4.2.2.2.2.2.2.2.1, (y4.2.2.2.2.2.2.2.2.1, Unit.unit)))))))))
   else none)
   else (if ((256 : Int) < (((List.length y4.1) : Nat) : Int)) then (if (((List.getD y4.1 (256 : Nat) (0 : Int)) == (0 : Int)) = true) then (if ((List.length y4.2.2.2.2.2.2.2.2.1) = (List.length y4.2.2.2.2.2.2.2.2.1)) then (some ((4 : Int), (y4.2.2.1, (y4.2.2.2.1, (y4.2.2.2.2.1, (y4.2.2.2.2.2.1, (y4.2.2.2.2.2.2.1, (y4.2.2.2.2.2.2.2.1, (y4.2.2.2.2.2.2.2.2.1, Unit.unit)))))))))
   else none)
   else (if ((0 : Int) ≤ y3.2.1) then (if (y3.2.1 ≤ (((List.length y4.1) : Nat) : Int)) then (Option.bind (Go.Ev.Inflate.f29 ((List.take (Int.toNat y3.2.1) y4.1), Unit.unit)) (Sum.elim (fun y5 => (if ((y5.1 != (0 : Int)) = true) then (if ((List.length y4.2.2.2.2.2.2.2.2.1) = (List.length y4.2.2.2.2.2.2.2.2.1)) then (some (y5.1, (y4.2.2.1, (y4.2.2.2.1, (y4.2.2.2.2.1, (y4.2.2.2.2.2.1, (y4.2.2.2.2.2.2.1, (y4.2.2.2.2.2.2.2.1, (y4.2.2.2.2.2.2.2.2.1, Unit.unit)))))))))
   else none)
   else (if ((0 : Int) ≤ y3.2.1) then (if (y3.2.1 ≤ (((List.length y4.1) : Nat) : Int)) then (Option.bind (Go.Ev.Inflate.f29 ((List.drop (Int.toNat y3.2.1) y4.1), Unit.unit)) (Sum.elim (fun y6 => (if ((y6.1 != (0 : Int)) = true) then (if ((List.length y4.2.2.2.2.2.2.2.2.1) = (List.length y4.2.2.2.2.2.2.2.2.1)) then (some (y6.1, (y4.2.2.1, (y4.2.2.2.1, (y4.2.2.2.2.1, (y4.2.2.2.2.2.1, (y4.2.2.2.2.2.2.1, (y4.2.2.2.2.2.2.2.1, (y4.2.2.2.2.2.2.2.2.1, Unit.unit)))))))))
   else none)
   else (if ((List.length y4.2.2.2.2.2.2.2.2.1) = (List.length y4.2.2.2.2.2.2.2.2.1)) then (Option.bind (Go.Ev.Inflate.f32 (y4.2.2.1, (y4.2.2.2.1, (y4.2.2.2.2.1, (y4.2.2.2.2.2.1, (y4.2.2.2.2.2.2.1, (y4.2.2.2.2.2.2.2.1, (y4.2.2.2.2.2.2.2.2.1, Unit.unit)))))))) (fun y7 => (if ((List.length y7.2.2.2.2.2.2.2.1) = (List.length y7.2.2.2.2.2.2.2.1)) then (some (y7.1, (y7.2.1, (y7.2.2.1, (y7.2.2.2.1, (y7.2.2.2.2.1, (y7.2.2.2.2.2.1, (y7.2.2.2.2.2.2.1, (y7.2.2.2.2.2.2.2.1, Unit.unit)))))))))
   else none)))
   else none))) (fun y6 => (if ((y6.1 != (0 : Int)) = true) then (if ((List.length y4.2.2.2.2.2.2.2.2.1) = (List.length y4.2.2.2.2.2.2.2.2.1)) then (some (y6.1, (y4.2.2.1, (y4.2.2.2.1, (y4.2.2.2.2.1, (y4.2.2.2.2.2.1, (y4.2.2.2.2.2.2.1, (y4.2.2.2.2.2.2.2.1, (y4.2.2.2.2.2.2.2.2.1, Unit.unit)))))))))
   else none)
   else (if ((List.length y4.2.2.2.2.2.2.2.2.1) = (List.length y4.2.2.2.2.2.2.2.2.1)) then (if ((List.length y6.2.2.2.2.1) = (List.length y6.2.2.2.2.1)) then (Option.bind (Go.Ev.Inflate.f32_b (y4.2.2.1, (y4.2.2.2.1, (y4.2.2.2.2.1, (y4.2.2.2.2.2.1, (y4.2.2.2.2.2.2.1, (y4.2.2.2.2.2.2.2.1, (y4.2.2.2.2.2.2.2.2.1, (y6.2.1, (y6.2.2.1, (y6.2.2.2.1, (y6.2.2.2.2.1, Unit.unit)))))))))))) (fun y7 => (if ((List.length y7.2.2.2.2.2.2.2.2.2.2.2.1) = (List.length y7.2.2.2.2.2.2.2.2.2.2.2.1)) then (some (y7.1, (y7.2.1, (y7.2.2.1, (y7.2.2.2.1, (y7.2.2.2.2.1, (y7.2.2.2.2.2.1, (y7.2.2.2.2.2.2.1, (y7.2.2.2.2.2.2.2.2.2.2.2.1, Unit.unit)))))))))
   else none)))
   else none)
   else none)))))
   else none)
   else none))) (fun y5 => (if ((y5.1 != (0 : Int)) = true) then (if ((List.length y4.2.2.2.2.2.2.2.2.1) = (List.length y4.2.2.2.2.2.2.2.2.1)) then (some (y5.1, (y4.2.2.1, (y4.2.2.2.1, (y4.2.2.2.2.1, (y4.2.2.2.2.2.1, (y4.2.2.2.2.2.2.1, (y4.2.2.2.2.2.2.2.1, (y4.2.2.2.2.2.2.2.2.1, Unit.unit)))))))))
   else none)
   else (if ((0 : Int) ≤ y3.2.1) then (if (y3.2.1 ≤ (((List.length y4.1) : Nat) : Int)) then (Option.bind (Go.Ev.Inflate.f29 ((List.drop (Int.toNat y3.2.1) y4.1), Unit.unit)) (Sum.elim (fun y6 => (if ((y6.1 != (0 : Int)) = true) then (if ((List.length y4.2.2.2.2.2.2.2.2.1) = (List.length y4.2.2.2.2.2.2.2.2.1)) then (some (y6.1, (y4.2.2.1, (y4.2.2.2.1, (y4.2.2.2.2.1, (y4.2.2.2.2.2.1, (y4.2.2.2.2.2.2.1, (y4.2.2.2.2.2.2.2.1, (y4.2.2.2.2.2.2.2.2.1, Unit.unit)))))))))
   else none)
   else (if ((List.length y4.2.2.2.2.2.2.2.2.1) = (List.length y4.2.2.2.2.2.2.2.2.1)) then (if ((List.length y5.2.2.2.2.1) = (List.length y5.2.2.2.2.1)) then (Option.bind (Go.Ev.Inflate.f32_c (y4.2.2.1, (y4.2.2.2.1, (y4.2.2.2.2.1, (y4.2.2.2.2.2.1, (y4.2.2.2.2.2.2.1, (y4.2.2.2.2.2.2.2.1, (y4.2.2.2.2.2.2.2.2.1, (y5.2.1, (y5.2.2.1, (y5.2.2.2.1, (y5.2.2.2.2.1, Unit.unit)))))))))))) (fun y7 => (if ((List.length y7.2.2.2.2.2.2.2.2.2.2.2.1) = (List.length y7.2.2.2.2.2.2.2.2.2.2.2.1)) then (some (y7.1, (y7.2.1, (y7.2.2.1, (y7.2.2.2.1, (y7.2.2.2.2.1, (y7.2.2.2.2.2.1, (y7.2.2.2.2.2.2.1, (y7.2.2.2.2.2.2.2.2.2.2.2.1, Unit.unit)))))))))
   else none)))
   else none)
   else none))) (fun y6 => (if ((y6.1 != (0 : Int)) = true) then (if ((List.length y4.2.2.2.2.2.2.2.2.1) = (List.length y4.2.2.2.2.2.2.2.2.1)) then (some (y6.1, (y4.2.2.1, (y4.2.2.2.1, (y4.2.2.2.2.1, (y4.2.2.2.2.2.1, (y4.2.2.2.2.2.2.1, (y4.2.2.2.2.2.2.2.1, (y4.2.2.2.2.2.2.2.2.1, Unit.unit)))))))))
   else none)
   else (if ((List.length y4.2.2.2.2.2.2.2.2.1) = (List.length y4.2.2.2.2.2.2.2.2.1)) then (if ((List.length y5.2.2.2.2.1) = (List.length y5.2.2.2.2.1)) then (if ((List.length y6.2.2.2.2.1) = (List.length y6.2.2.2.2.1)) then (Option.bind (Go.Ev.Inflate.f32_d (y4.2.2.1, (y4.2.2.2.1, (y4.2.2.2.2.1, (y4.2.2.2.2.2.1, (y4.2.2.2.2.2.2.1, (y4.2.2.2.2.2.2.2.1, (y4.2.2.2.2.2.2.2.2.1, (y5.2.1, (y5.2.2.1, (y5.2.2.2.1, (y5.2.2.2.2.1, (y6.2.1, (y6.2.2.1, (y6.2.2.2.1, (y6.2.2.2.2.1, Unit.unit)))))))))))))))) (fun y7 => (if ((List.length y7.2.2.2.2.2.2.2.2.2.2.2.2.2.2.2.1) = (List.length y7.2.2.2.2.2.2.2.2.2.2.2.2.2.2.2.1)) then (some (y7.1, (y7.2.1, (y7.2.2.1, (y7.2.2.2.1, (y7.2.2.2.2.1, (y7.2.2.2.2.2.1, (y7.2.2.2.2.2.2.1, (y7.2.2.2.2.2.2.2.2.2.2.2.2.2.2.2.1, Unit.unit)))))))))
   else none)))
   else none)
   else none)
   else none)))))
   else none)
   else none)))))
   else none)
   else none))
   else none))))
   else none))) (Sum.elim (fun y3 => (if ((y3.1 != (0 : Int)) = true) then (if ((List.length y3.2.2.2.2.2.2.2.2.2.2.2.2.1) = (List.length y3.2.2.2.2.2.2.2.2.2.2.2.2.1)) then (some (y3.1, (y3.2.2.2.1, (y3.2.2.2.2.1, (y3.2.2.2.2.2.1, (y3.2.2.2.2.2.2.1, (y3.2.2.2.2.2.2.2.1, (y3.2.2.2.2.2.2.2.2.1, (y3.2.2.2.2.2.2.2.2.2.2.2.2.1, Unit.unit)))))))))
   else none)
   else (if ((List.length y3.2.2.2.2.2.2.2.2.2.2.2.2.1) = (List.length y3.2.2.2.2.2.2.2.2.2.2.2.2.1)) then (if ((List.length y3.2.2.2.2.2.2.2.2.2.2.2.2.2.1) = (List.length y3.2.2.2.2.2.2.2.2.2.2.2.2.2.1)) then (Option.bind (Go.Ev.Inflate.f33_b ((Go.IntKind.wrap Go.IntKind.i64 (y3.2.1 + y3.2.2.1)), (y3.2.2.2.1, (y3.2.2.2.2.1, (y3.2.2.2.2.2.1, (y3.2.2.2.2.2.2.1, (y3.2.2.2.2.2.2.2.1, (y3.2.2.2.2.2.2.2.2.1, (y3.2.2.2.2.2.2.2.2.2.2.2.2.1, (y3.2.2.2.2.2.2.2.2.2.1, (y3.2.2.2.2.2.2.2.2.2.2.1, (y3.2.2.2.2.2.2.2.2.2.2.2.1, (y3.2.2.2.2.2.2.2.2.2.2.2.2.2.1, Unit.unit))))))))))))) (fun y4 => (if ((y4.2.1 != (0 : Int)) = true) then (if ((List.length y4.2.2.2.2.2.2.2.2.1) = (List.length y4.2.2.2.2.2.2.2.2.1)) then (some (y4.2.1, (y4.2.2.1, (y4.2.2.2.1, (y4.2.2.2.2.1, (y4.2.2.2.2.2.1, (y4.2.2.2.2.2.2.1, (y4.2.2.2.2.2.2.2.1, (y4.2.2.2.2.2.2.2.2.1, Unit.unit)))))))))
   else none)
   else (if ((256 : Int) < (((List.length y4.1) : Nat) : Int)) then (if (((List.getD y4.1 (256 : Nat) (0 : Int)) == (0 : Int)) = true) then (if ((List.length y4.2.2.2.2.2.2.2.2.1) = (List.length y4.2.2.2.2.2.2.2.2.1)) then (some ((4 : Int), (y4.2.2.1, (y4.2.2.2.1, (y4.2.2.2.2.1, (y4.2.2.2.2.2.1, (y4.2.2.2.2.2.2.1, (y4.2.2.2.2.2.2.2.1, (y4.2.2.2.2.2.2.2.2.1, Unit.unit)))))))))
   else none)
   else (if ((0 : Int) ≤ y3.2.1) then (if (y3.2.1 ≤ (((List.length y4.1) : Nat) : Int)) then (Option.bind (Go.Ev.Inflate.f29 ((List.take (Int.toNat y3.2.1) y4.1), Unit.unit)) (Sum.elim (fun y5 => (if ((y5.1 != (0 : Int)) = true) then (if ((List.length y4.2.2.2.2.2.2.2.2.1) = (List.length y4.2.2.2.2.2.2.2.2.1)) then (some (y5.1, (y4.2.2.1, (y4.2.2.2.1, (y4.2.2.2.2.1, (y4.2.2.2.2.2.1, (y4.2.2.2.2.2.2.1, (y4.2.2.2.2.2.2.2.1, (y4.2.2.2.2.2.2.2.2.1, Unit.unit)))))))))
   else none)
   else (if ((0 : Int) ≤ y3.2.1) then (if (y3.2.1 ≤ (((List.length y4.1) : Nat) : Int)) then (Option.bind (Go.Ev.Inflate.f29 ((List.drop (Int.toNat y3.2.1) y4.1), Unit.unit)) (Sum.elim (fun y6 => (if ((y6.1 != (0 : Int)) = true) then (if ((List.length y4.2.2.2.2.2.2.2.2.1) = (List.length y4.2.2.2.2.2.2.2.2.1)) then (some (y6.1, (y4.2.2.1, (y4.2.2.2.1, (y4.2.2.2.2.1, (y4.2.2.2.2.2.1, (y4.2.2.2.2.2.2.1, (y4.2.2.2.2.2.2.2.1, (y4.2.2.2.2.2.2.2.2.1, Unit.unit)))))))))
   else none)
   else (if ((List.length y4.2.2.2.2.2.2.2.2.1) = (List.length y4.2.2.2.2.2.2.2.2.1)) then (Option.bind (Go.Ev.Inflate.f32 (y4.2.2.1, (y4.2.2.2.1, (y4.2.2.2.2.1, (y4.2.2.2.2.2.1, (y4.2.2.2.2.2.2.1, (y4.2.2.2.2.2.2.2.1, (y4.2.2.2.2.2.2.2.2.1, Unit.unit)))))))) (fun y7 => (if ((List.length y7.2.2.2.2.2.2.2.1) = (List.length y7.2.2.2.2.2.2.2.1)) then (some (y7.1, (y7.2.1, (y7.2.2.1, (y7.2.2.2.1, (y7.2.2.2.2.1, (y7.2.2.2.2.2.1, (y7.2.2.2.2.2.2.1, (y7.2.2.2.2.2.2.2.1, Unit.unit)))))))))
   else none)))
   else none))) (fun y6 => (if ((y6.1 != (0 : Int)) = true) then (if ((List.length y4.2.2.2.2.2.2.2.2.1) = (List.length y4.2.2.2.2.2.2.2.2.1)) then (some (y6.1, (y4.2.2.1, (y4.2.2.2.1, (y4.2.2.2.2.1, (y4.2.2.2.2.2.1, (y4.2.2.2.2.2.2.1, (y4.2.2.2.2.2.2.2.1, (y4.2.2.2.2.2.2.2.2.1, Unit.unit)))))))))
   else none)
   else (if ((List.length y4.2.2.2.2.2.2.2.2.1) = (List.length y4.2.2.2.2.2.2.2.2.1)) then (if ((List.length y6.2.2.2.2.1) = (List.length y6.2.2.2.2.1)) then (Option.bind (Go.Ev.Inflate.f32_b (y4.2.2.1, (y4.2.2.2.1, (y4.2.2.2.2.1, (y4.2.2.2.2.2.1, (y4.2.2.2.2.2.2.1, (y4.2.2.2.2.2.2.2.1, (y4.2.2.2.2.2.2.2.2.1, (y6.2.1, (y6.2.2.1, (y6.2.2.2.1, (y6.2.2.2.2.1, Unit.unit)))))))))))) (fun y7 => (if ((List.length y7.2.2.2.2.2.2.2.2.2.2.2.1) = (List.length y7.2.2.2.2.2.2.2.2.2.2.2.1)) then (some (y7.1, (y7.2.1, (y7.2.2.1, (y7.2.2.2.1, (y7.2.2.2.2.1, (y7.2.2.2.2.2.1, (y7.2.2.2.2.2.2.1, (y7.2.2.2.2.2.2.2.2.2.2.2.1, Unit.unit)))))))))
   else none)))
   else none)
   else none)))))
   else none)
   else none))) (fun y5 => (if ((y5.1 != (0 : Int)) = true) then (if ((List.length y4.2.2.2.2.2.2.2.2.1) = (List.length y4.2.2.2.2.2.2.2.2.1)) then (some (y5.1, (y4.2.2.1, (y4.2.2.2.1, (y4.2.2.2.2.1, (y4.2.2.2.2.2.1, (y4.2.2.2.2.2.2.1, (y4.2.2.2.2.2.2.2.1, (y4.2.2.2.2.2.2.2.2.1, Unit.unit)))))))))
   else none)
   else (if ((0 : Int) ≤ y3.2.1) then (if (y3.2.1 ≤ (((List.length y4.1) : Nat) : Int)) then (Option.bind (Go.Ev.Inflate.f29 ((List.drop (Int.toNat y3.2.1) y4.1), Unit.unit)) (Sum.elim (fun y6 => (if ((y6.1 != (0 : Int)) = true) then (if ((List.length y4.2.2.2.2.2.2.2.2.1) = (List.length y4.2.2.2.2.2.2.2.2.1)) then (some (y6.1, (y4.2.2.1, (y4.2.2.2.1, (y4.2.2.2.2.1, (y4.2.2.2.2.2.1, (y4.2.2.2.2.2.2.1, (y4.2.2.2.2.2.2.2.1, (y4.2.2.2.2.2.2.2.2.1, Unit.unit)))))))))
   else none)
   else (if ((List.length y4.2.2.2.2.2.2.2.2.1) = (List.length y4.2.2.2.2.2.2.2.2.1)) then (if ((List.length y5.2.2.2.2.1) = (List.length y5.2.2.2.2.1)) then (Option.bind (Go.Ev.Inflate.f32_c (y4.2.2.1, (y4.2.2.2.1, (y4.2.2.2.2.1, (y4.2.2.2.2.2.1, (y4.2.2.2.2.2.2.1, (y4.2.2.2.2.2.2.2.1, (y4.2.2.2.2.2.2.2.2.1, (y5.2.1, (y5.2.2.1, (y5.2.2.2.1, (y5.2.2.2.2.1, Unit.unit)))))))))))) (fun y7 => (if ((List.length y7.2.2.2.2.2.2.2.2.2.2.2.1) = (List.length y7.2.2.2.2.2.2.2.2.2.2.2.1)) then (some (y7.1, (y7.2.1, (y7.2.2.1, (y7.2.2.2.1, (y7.2.2.2.2.1, (y7.2.2.2.2.2.1, (y7.2.2.2.2.2.2.1, (y7.2.2.2.2.2.2.2.2.2.2.2.1, Unit.unit)))))))))
   else none)))
   else none)
   else none))) (fun y6 => (if ((y6.1 != (0 : Int)) = true) then (if ((List.length y4.2.2.2.2.2.2.2.2.1) = (List.length y4.2.2.2.2.2.2.2.2.1)) then (some (y6.1, (y4.2.2.1, (y4.2.2.2.1, (y4.2.2.2.2.1, (y4.2.2.2.2.2.1, (y4.2.2.2.2.2.2.1, (y4.2.2.2.2.2.2.2.1, (y4.2.2.2.2.2.2.2.2.1, Unit.unit)))))))))
   else none)
   else (if ((List.length y4.2.2.2.2.2.2.2.2.1) = (List.length y4.2.2.2.2.2.2.2.2.1)) then (if ((List.length y5.2.2.2.2.1) = (List.length y5.2.2.2.2.1)) then (if ((List.length y6.2.2.2.2.1) = (List.length y6.2.2.2.2.1)) then (Option.bind (Go.Ev.Inflate.f32_d (y4.2.2.1, (y4.2.2.2.1, (y4.2.2.2.2.1, (y4.2.2.2.2.2.1, (y4.2.2.2.2.2.2.1, (y4.2.2.2.2.2.2.2.1, (y4.2.2.2.2.2.2.2.2.1, (y5.2.1, (y5.2.2.1, (y5.2.2.2.1, (y5.2.2.2.2.1, (y6.2.1, (y6.2.2.1, (y6.2.2.2.1, (y6.2.2.2.2.1, Unit.unit)))))))))))))))) (fun y7 => (if ((List.length y7.2.2.2.2.2.2.2.2.2.2.2.2.2.2.2.1) = (List.length y7.2.2.2.2.2.2.2.2.2.2.2.2.2.2.2.1)) then (some (y7.1, (y7.2.1, (y7.2.2.1, (y7.2.2.2.1, (y7.2.2.2.2.1, (y7.2.2.2.2.2.1, (y7.2.2.2.2.2.2.1, (y7.2.2.2.2.2.2.2.2.2.2.2.2.2.2.2.1, Unit.unit)))))))))
   else none)))
   else none)
   else none)
   else none)))))
   else none)
   else none)))))
   else none)
   else none))
   else none))))
   else none)
   else none))) Empty.elim)))
   else none)
   else none)) (Sum.elim (fun y2 => (if ((List.length y2.2.2.2.2.2.2.2.1) = (List.length y2.2.2.2.2.2.2.2.1)) then (some (y2.1, (y2.2.1, (y2.2.2.1, (y2.2.2.2.1, (y2.2.2.2.2.1, (y2.2.2.2.2.2.1, (y2.2.2.2.2.2.2.1, (y2.2.2.2.2.2.2.2.1, Unit.unit)))))))))
   else none)) Empty.elim)))
   else none)
   else none)
   else none)
   else none)))
   else none)
   else none))))
   else none)
theorem f21_eq (x : gi21.D) : f21 x = evF P (T33.orc _) Go.Proofs.Try.f21.ntmps fx21 c21 (planAt 64 [([true, true, true, true, true, true, true, false], ⟨g21_1, o21_1, b21_1⟩), ([true, true, true, true, true, true, false, true, false], ⟨g21_2, o21_2, l21_2⟩)]) gi21 x (fnK fx21 [go21]) := by kernel_rfl
theorem pf21 : AllSub P Go.Proofs.Try.f21.ntmps fx21 c21 [([true, true, true, true, true, true, true, false], ⟨g21_1, o21_1, b21_1⟩), ([true, true, true, true, true, true, false, true, false], ⟨g21_2, o21_2, l21_2⟩)] := And.intro s21_1_ok (And.intro s21_2_ok (trivial))
theorem qf21 : PlanOk P Go.Proofs.Try.f21.ntmps fx21 (planAt 64 [([true, true, true, true, true, true, true, false], ⟨g21_1, o21_1, b21_1⟩), ([true, true, true, true, true, true, false, true, false], ⟨g21_2, o21_2, l21_2⟩)]) c21 := planAt_ok pf21
theorem f21_ok : EntOk P 21 ⟨gi21, [go21], f21⟩ :=
  ent_ok (fn := Go.Proofs.Try.f21) (gi := gi21) (gos := [go21]) (f := f21) (c := c21) (fx := fx21) ⟨Go.Proofs.Try.func21, by kernel_rfl, rfl, by decide +kernel, rfl, rfl⟩ (by kernel_rfl) (Table.ok T33_ok _) hmix (qf21) f21_eq
noncomputable def T21 : Table := T33.add 21 [⟨gi21, [go21], f21⟩] []
theorem T21_ok : TableOk P T21 := Table.plus T33_ok (es := [⟨gi21, [go21], f21⟩]) ⟨f21_ok, trivial⟩ []

/-! ## 11: erasure/inflate.Tokens -/
noncomputable def c11 : Code := Func.code Go.Proofs.Try.f11
abbrev gi11 : Sg := ⟨[0, 1], [.lf (.sl (.int .u8)), .lf (.int .i64)], []⟩
abbrev go11 : Sg := ⟨[4, 5, 6], [.lf (.sl (.pair (.int .i64) (.pair (.int .i64) (.int .i64)))), .lf (.int .i64), .lf (.int .i64)], []⟩
def fx11 : List Bool := []
abbrev g11_2 : Sg := ⟨[0, 7, 8], [.lf (.sl (.int .u8)), .lf (.ptr 0 0), .lf (.sl (.int .i64))], [some (.box true [.lf (.ptr 1 0), .lf (.gr (.pair (.int .i64) (.pair (.int .i64) (.int .i64))) 2), .lf (.int .i64), .lf (.int .i64)]), some (.box true [.lf (.sl (.int .u8)), .lf (.int .i64), .lf (.int .i64), .lf (.int .i64)]), some (.arr true (.pair (.int .i64) (.pair (.int .i64) (.int .i64))))]⟩
abbrev o11_2 : Outs := [(.normal, ⟨[0, 7, 8, 9], [.lf (.sl (.int .u8)), .lf (.ptr 0 0), .lf (.sl (.int .i64)), .lf (.int .i64)], [some (.box true [.lf (.ptr 1 0), .lf (.gr (.pair (.int .i64) (.pair (.int .i64) (.int .i64))) 2), .lf (.int .i64), .lf (.int .i64)]), some (.box true [.lf (.sl (.int .u8)), .lf (.int .i64), .lf (.int .i64), .lf (.int .i64)]), some (.arr true (.pair (.int .i64) (.pair (.int .i64) (.int .i64))))]⟩)]
noncomputable def b11_2 (x : g11_2.D) : Option (outD o11_2) :=
  (if ((1 : Int) < (((List.length x.2.1) : Nat) : Int)) then (if (((List.getD x.2.1 (1 : Nat) (0 : Int)) == (0 : Int)) = true) then (if ((List.length x.2.2.2.2.2.2.2.2.1) = (List.length x.2.2.2.2.2.2.2.2.1)) then (Option.bind (Go.Ev.Inflate.f19 (x.2.2.1, (x.2.2.2.1, (x.2.2.2.2.1, (x.2.2.2.2.2.1, (x.2.2.2.2.2.2.1, (x.2.2.2.2.2.2.2.1, (x.2.2.2.2.2.2.2.2.1, Unit.unit)))))))) (fun y1 => (if ((List.length y1.2.2.2.2.2.2.2.1) = (List.length y1.2.2.2.2.2.2.2.1)) then (some (Sum.inl (x.1, (x.2.1, (y1.1, (y1.2.1, (y1.2.2.1, (y1.2.2.2.1, (y1.2.2.2.2.1, (y1.2.2.2.2.2.1, (y1.2.2.2.2.2.2.1, (y1.2.2.2.2.2.2.2.1, Unit.unit))))))))))))
   else none)))
   else none)
   else (if (((List.getD x.2.1 (1 : Nat) (0 : Int)) == (1 : Int)) = true) then (if ((List.length x.2.2.2.2.2.2.2.2.1) = (List.length x.2.2.2.2.2.2.2.2.1)) then (Option.bind (Go.Ev.Inflate.f20 (x.2.2.1, (x.2.2.2.1, (x.2.2.2.2.1, (x.2.2.2.2.2.1, (x.2.2.2.2.2.2.1, (x.2.2.2.2.2.2.2.1, (x.2.2.2.2.2.2.2.2.1, Unit.unit)))))))) (fun y1 => (if ((List.length y1.2.2.2.2.2.2.2.1) = (List.length y1.2.2.2.2.2.2.2.1)) then (some (Sum.inl (x.1, (x.2.1, (y1.1, (y1.2.1, (y1.2.2.1, (y1.2.2.2.1, (y1.2.2.2.2.1, (y1.2.2.2.2.2.1, (y1.2.2.2.2.2.2.1, (y1.2.2.2.2.2.2.2.1, Unit.unit))))))))))))
   else none)))
   else none)
   else (if (((List.getD x.2.1 (1 : Nat) (0 : Int)) == (2 : Int)) = true) then (if ((List.length x.2.2.2.2.2.2.2.2.1) = (List.length x.2.2.2.2.2.2.2.2.1)) then (Option.bind (Go.Ev.Inflate.f21 (x.2.2.1, (x.2.2.2.1, (x.2.2.2.2.1, (x.2.2.2.2.2.1, (x.2.2.2.2.2.2.1, (x.2.2.2.2.2.2.2.1, (x.2.2.2.2.2.2.2.2.1, Unit.unit)))))))) (fun y1 => (if ((List.length y1.2.2.2.2.2.2.2.1) = (List.length y1.2.2.2.2.2.2.2.1)) then (some (Sum.inl (x.1, (x.2.1, (y1.1, (y1.2.1, (y1.2.2.1, (y1.2.2.2.1, (y1.2.2.2.2.1, (y1.2.2.2.2.2.1, (y1.2.2.2.2.2.2.1, (y1.2.2.2.2.2.2.2.1, Unit.unit))))))))))))
   else none)))
   else none)
   else (if ((List.length x.2.2.2.2.2.2.2.2.1) = (List.length x.2.2.2.2.2.2.2.2.1)) then (some (Sum.inl (x.1, (x.2.1, ((4 : Int), (x.2.2.1, (x.2.2.2.1, (x.2.2.2.2.1, (x.2.2.2.2.2.1, (x.2.2.2.2.2.2.1, (x.2.2.2.2.2.2.2.1, (x.2.2.2.2.2.2.2.2.1, Unit.unit))))))))))))
   else none))))
   else none)
theorem b11_2_eq (x : g11_2.D) : b11_2 x = evF P (T21.orc _) Go.Proofs.Try.f11.ntmps fx11 (Code.at [true, false, true, true, true, false, false, false, false, true, true, false] c11) (planAt 64 []) g11_2 x (injK fx11 o11_2 some) := by kernel_rfl
theorem s11_2_ok : SubOk P Go.Proofs.Try.f11.ntmps fx11 (Code.at [true, false, true, true, true, false, false, false, false, true, true, false] c11) ⟨g11_2, o11_2, b11_2⟩ :=
  sub_ok (g := g11_2) (outs := o11_2) (f := b11_2) (Table.ok T21_ok _) hmix (planAt_ok (P := P) (n := Go.Proofs.Try.f11.ntmps) (fx := fx11) (c := (Code.at [true, false, true, true, true, false, false, false, false, true, true, false] c11)) (d := 64) (l := []) trivial) b11_2_eq
abbrev g11_1 : Sg := ⟨[0, 7], [.lf (.sl (.int .u8)), .lf (.ptr 0 0)], [some (.box true [.lf (.ptr 1 0), .lf (.gr (.pair (.int .i64) (.pair (.int .i64) (.int .i64))) 2), .lf (.int .i64), .lf (.int .i64)]), some (.box true [.lf (.sl (.int .u8)), .lf (.int .i64), .lf (.int .i64), .lf (.int .i64)]), some (.arr true (.pair (.int .i64) (.pair (.int .i64) (.int .i64))))]⟩
abbrev o11_1 : Outs := [(.ret, ⟨[4, 5, 6], [.lf (.sl (.pair (.int .i64) (.pair (.int .i64) (.int .i64)))), .lf (.int .i64), .lf (.int .i64)], []⟩), (.exit 0, ⟨[0, 7], [.lf (.sl (.int .u8)), .lf (.ptr 0 0)], [some (.box true [.lf (.ptr 1 0), .lf (.gr (.pair (.int .i64) (.pair (.int .i64) (.int .i64))) 2), .lf (.int .i64), .lf (.int .i64)]), some (.box true [.lf (.sl (.int .u8)), .lf (.int .i64), .lf (.int .i64), .lf (.int .i64)]), some (.arr true (.pair (.int .i64) (.pair (.int .i64) (.int .i64))))]⟩)]
noncomputable def b11_1 (x : g11_1.D) : Option (outD ((.normal, g11_1) :: o11_1)) :=
  (if ((List.length x.2.2.2.2.2.2.2.1) = (List.length x.2.2.2.2.2.2.2.1)) then (Option.bind (Go.Ev.Inflate.f18 ((List.take (2 : Nat) (List.drop (0 : Nat) (List.set (List.set (List.replicate (2 : Nat) (0 : Int)) (0 : Nat) (1 : Int)) (1 : Nat) (2 : Int)))), (x.2.1, (x.2.2.1, (x.2.2.2.1, (x.2.2.2.2.1, (x.2.2.2.2.2.1, (x.2.2.2.2.2.2.1, (x.2.2.2.2.2.2.2.1, Unit.unit))))))))) (fun y1 => (if ((y1.2.1 != (0 : Int)) = true) then (some (Sum.inr (Sum.inl ([], ((0 : Int), (y1.2.1, Unit.unit))))))
   else (if ((List.length y1.2.2.2.2.2.2.2.2.1) = (List.length y1.2.2.2.2.2.2.2.2.1)) then (Option.bind (Go.Ev.Inflate.b11_2 (x.1, (y1.1, (y1.2.2.1, (y1.2.2.2.1, (y1.2.2.2.2.1, (y1.2.2.2.2.2.1, (y1.2.2.2.2.2.2.1, (y1.2.2.2.2.2.2.2.1, (y1.2.2.2.2.2.2.2.2.1, Unit.unit)))))))))) (Sum.elim (fun y2 => (if ((y2.2.2.1 != (0 : Int)) = true) then (some (Sum.inr (Sum.inl ([], ((0 : Int), (y2.2.2.1, Unit.unit))))))
   else (if ((0 : Int) < (((List.length y2.2.1) : Nat) : Int)) then (if (((List.getD y2.2.1 (0 : Nat) (0 : Int)) == (1 : Int)) = true) then (if ((List.length y2.2.2.2.2.2.2.2.2.2.1) = (List.length y2.2.2.2.2.2.2.2.2.2.1)) then (some (Sum.inr (Sum.inr (Sum.inl (y2.1, (y2.2.2.2.1, (y2.2.2.2.2.1, (y2.2.2.2.2.2.1, (y2.2.2.2.2.2.2.1, (y2.2.2.2.2.2.2.2.1, (y2.2.2.2.2.2.2.2.2.1, (y2.2.2.2.2.2.2.2.2.2.1, Unit.unit))))))))))))
   else none)
   else (if ((List.length y2.2.2.2.2.2.2.2.2.2.1) = (List.length y2.2.2.2.2.2.2.2.2.2.1)) then (some (Sum.inl (y2.1, (y2.2.2.2.1, (y2.2.2.2.2.1, (y2.2.2.2.2.2.1, (y2.2.2.2.2.2.2.1, (y2.2.2.2.2.2.2.2.1, (y2.2.2.2.2.2.2.2.2.1, (y2.2.2.2.2.2.2.2.2.2.1, Unit.unit))))))))))
   else none))
   else none))) Empty.elim))
   else none))))
   else none)
theorem b11_1_eq (x : g11_1.D) : b11_1 x = evF P (T21.orc _) Go.Proofs.Try.f11.ntmps fx11 (Code.at [true, false, true, true, true, false, false, false] c11) (planAt 64 [([false, true, true, false], ⟨g11_2, o11_2, b11_2⟩)]) g11_1 x (injK fx11 ((.normal, g11_1) :: o11_1) some) := by kernel_rfl
noncomputable def l11_1 : g11_1.D → Option (outD o11_1) := loopN g11_1 o11_1 b11_1 18446744073709551616
theorem p11_1 : AllSub P Go.Proofs.Try.f11.ntmps fx11 (Code.at [true, false, true, true, true, false, false, false] c11) [([false, true, true, false], ⟨g11_2, o11_2, b11_2⟩)] := And.intro s11_2_ok (trivial)
theorem q11_1 : PlanOk P Go.Proofs.Try.f11.ntmps fx11 (planAt 64 [([false, true, true, false], ⟨g11_2, o11_2, b11_2⟩)]) (Code.at [true, false, true, true, true, false, false, false] c11) := planAt_ok p11_1
theorem at11_1 : Code.at [true, false, true, true, true, false, false] c11 = .loop (Code.at [true, false, true, true, true, false, false, false] c11) := by kernel_rfl
theorem s11_1_ok : SubOk P Go.Proofs.Try.f11.ntmps fx11 (Code.at [true, false, true, true, true, false, false] c11) ⟨g11_1, o11_1, l11_1⟩ := by
  rw [at11_1]
  exact loop_ok (sub_ok (g := g11_1) (outs := ((.normal, g11_1) :: o11_1)) (f := b11_1) (Table.ok T21_ok _) hmix (q11_1) b11_1_eq) rfl _
noncomputable def f11 (x : gi11.D) : Option go11.D :=
  (if ((decide (x.2.1 < (0 : Int))) = true) then (some ([], ((0 : Int), ((1 : Int), Unit.unit))))
   else (if ((decide (x.2.1 > (1048576 : Int))) = true) then (some ([], ((0 : Int), ((1 : Int), Unit.unit))))
   else (Option.bind (Go.Ev.Inflate.f17 (x.1, Unit.unit)) (fun y1 => (Option.bind (Go.Ev.Inflate.l11_1 (x.1, ((0 : Int), (x.2.1, (y1.1, (y1.2.1, (y1.2.2.1, (y1.2.2.2.1, ([], Unit.unit))))))))) (Sum.elim (fun y2 => (some (y2.1, (y2.2.1, (y2.2.2.1, Unit.unit))))) (Sum.elim (fun y2 => (Option.bind (Go.Ev.Inflate.f22 (y2.2.2.2.1, (y2.2.2.2.2.1, (y2.2.2.2.2.2.1, (y2.2.2.2.2.2.2.1, Unit.unit))))) (fun y3 => (some ((List.take (List.length y2.2.2.2.2.2.2.2.1) (List.drop (0 : Nat) y2.2.2.2.2.2.2.2.1)), ((Go.IntKind.wrap Go.IntKind.i64 ((((List.length y2.1) : Nat) : Int) - (Go.IntKind.wrap Go.IntKind.i64 (Int.tdiv y3.1 (8 : Int))))), ((0 : Int), Unit.unit))))))) Empty.elim)))))))
theorem f11_eq (x : gi11.D) : f11 x = evF P (T21.orc _) Go.Proofs.Try.f11.ntmps fx11 c11 (planAt 64 [([true, false, true, true, true, false, false], ⟨g11_1, o11_1, l11_1⟩)]) gi11 x (fnK fx11 [go11]) := by kernel_rfl
theorem pf11 : AllSub P Go.Proofs.Try.f11.ntmps fx11 c11 [([true, false, true, true, true, false, false], ⟨g11_1, o11_1, l11_1⟩)] := And.intro s11_1_ok (trivial)
theorem qf11 : PlanOk P Go.Proofs.Try.f11.ntmps fx11 (planAt 64 [([true, false, true, true, true, false, false], ⟨g11_1, o11_1, l11_1⟩)]) c11 := planAt_ok pf11
theorem f11_ok : EntOk P 11 ⟨gi11, [go11], f11⟩ :=
  ent_ok (fn := Go.Proofs.Try.f11) (gi := gi11) (gos := [go11]) (f := f11) (c := c11) (fx := fx11) ⟨Go.Proofs.Try.func11, by kernel_rfl, rfl, by decide +kernel, rfl, rfl⟩ (by kernel_rfl) (Table.ok T21_ok _) hmix (qf11) f11_eq
noncomputable def T11 : Table := T21.add 11 [⟨gi11, [go11], f11⟩] []
theorem T11_ok : TableOk P T11 := Table.plus T21_ok (es := [⟨gi11, [go11], f11⟩]) ⟨f11_ok, trivial⟩ []

/-! ## 10: erasure/inflate.Inflate -/
noncomputable def c10 : Code := Func.code Go.Proofs.Try.f10
abbrev gi10 : Sg := ⟨[0, 1], [.lf (.sl (.int .u8)), .lf (.int .i64)], []⟩
abbrev go10 : Sg := ⟨[4, 5, 6], [.lf (.sl (.int .u8)), .lf (.int .i64), .lf (.int .i64)], []⟩
def fx10 : List Bool := []
noncomputable def f10 (x : gi10.D) : Option go10.D :=
  (Option.bind (Go.Ev.Inflate.f11 (x.1, (x.2.1, Unit.unit))) (fun y1 => (if ((y1.2.2.1 != (0 : Int)) = true) then (some ([], ((0 : Int), (y1.2.2.1, Unit.unit))))
   else (Option.bind (Go.Ev.Inflate.f7 (y1.1, (x.2.1, Unit.unit))) (fun y2 => (some (y2.1, (y1.2.1, (y2.2.1, Unit.unit)))))))))
theorem f10_eq (x : gi10.D) : f10 x = evF P (T11.orc _) Go.Proofs.Try.f10.ntmps fx10 c10 (planAt 64 []) gi10 x (fnK fx10 [go10]) := by kernel_rfl
theorem f10_ok : EntOk P 10 ⟨gi10, [go10], f10⟩ :=
  ent_ok (fn := Go.Proofs.Try.f10) (gi := gi10) (gos := [go10]) (f := f10) (c := c10) (fx := fx10) ⟨Go.Proofs.Try.func10, by kernel_rfl, rfl, by decide +kernel, rfl, rfl⟩ (by kernel_rfl) (Table.ok T11_ok _) hmix (planAt_ok (P := P) (n := Go.Proofs.Try.f10.ntmps) (fx := fx10) (c := c10) (d := 64) (l := []) trivial) f10_eq
noncomputable def T10 : Table := T11.add 10 [⟨gi10, [go10], f10⟩] []
theorem T10_ok : TableOk P T10 := Table.plus T11_ok (es := [⟨gi10, [go10], f10⟩]) ⟨f10_ok, trivial⟩ []

/-! ## 9: erasure/erasurelaw06.awake -/
noncomputable def c9 : Code := Func.code Go.Proofs.Try.f9
abbrev gi9 : Sg := ⟨[], [], []⟩
abbrev go9 : Sg := ⟨[0], [.lf .bool], []⟩
def fx9 : List Bool := []
noncomputable def f9 (_ : gi9.D) : Option go9.D :=
  (Option.bind (Go.Ev.Inflate.f10 ((List.take (5 : Nat) (List.drop (0 : Nat) (List.set (List.set (List.set (List.set (List.set (List.replicate (5 : Nat) (0 : Int)) (0 : Nat) (75 : Int)) (1 : Nat) (76 : Int)) (2 : Nat) (74 : Int)) (3 : Nat) (6 : Int)) (4 : Nat) (0 : Int)))), ((10 : Int), Unit.unit))) (fun y1 => (Option.bind (Go.Ev.Inflate.f10 ((List.take (7 : Nat) (List.drop (0 : Nat) (List.set (List.set (List.set (List.set (List.set (List.set (List.set (List.replicate (7 : Nat) (0 : Int)) (0 : Nat) (1 : Int)) (1 : Nat) (2 : Int)) (2 : Nat) (0 : Int)) (3 : Nat) (253 : Int)) (4 : Nat) (255 : Int)) (5 : Nat) (104 : Int)) (6 : Nat) (105 : Int)))), ((9 : Int), Unit.unit))) (fun y2 => (if (((ByteArray.toList (ByteArray.mk (List.toArray (List.map (fun y3 => (UInt8.ofNat (Int.toNat y3))) y1.1)))) == (ByteArray.toList (ByteArray.mk #[97, 98, 99]))) = true) then (if ((y1.2.1 == (5 : Int)) = true) then (if ((y1.2.2.1 == (0 : Int)) = true) then (if (((ByteArray.toList (ByteArray.mk (List.toArray (List.map (fun y3 => (UInt8.ofNat (Int.toNat y3))) y2.1)))) == (ByteArray.toList (ByteArray.mk #[104, 105]))) = true) then (if ((y2.2.1 == (7 : Int)) = true) then (some ((y2.2.2.1 == y1.2.2.1), Unit.unit))
   else (some (false, Unit.unit)))
   else (some (false, Unit.unit)))
   else (some (false, Unit.unit)))
   else (some (false, Unit.unit)))
   else (some (false, Unit.unit)))))))
theorem f9_eq (x : gi9.D) : f9 x = evF P (T10.orc _) Go.Proofs.Try.f9.ntmps fx9 c9 (planAt 64 []) gi9 x (fnK fx9 [go9]) := by kernel_rfl
theorem f9_ok : EntOk P 9 ⟨gi9, [go9], f9⟩ :=
  ent_ok (fn := Go.Proofs.Try.f9) (gi := gi9) (gos := [go9]) (f := f9) (c := c9) (fx := fx9) ⟨Go.Proofs.Try.func9, by kernel_rfl, rfl, by decide +kernel, rfl, rfl⟩ (by kernel_rfl) (Table.ok T10_ok _) hmix (planAt_ok (P := P) (n := Go.Proofs.Try.f9.ntmps) (fx := fx9) (c := c9) (d := 64) (l := []) trivial) f9_eq
noncomputable def T9 : Table := T10.add 9 [⟨gi9, [go9], f9⟩] []
theorem T9_ok : TableOk P T9 := Table.plus T10_ok (es := [⟨gi9, [go9], f9⟩]) ⟨f9_ok, trivial⟩ []

/-! ## 3: erasure/erasurelaw06.InflateExpands -/
noncomputable def c3 : Code := Func.code Go.Proofs.Try.f3
abbrev gi3 : Sg := ⟨[0, 1], [.lf (.sl (.pair (.int .i64) (.pair (.int .i64) (.int .i64)))), .lf (.int .i64)], []⟩
abbrev go3 : Sg := ⟨[4], [.lf .bool], []⟩
def fx3 : List Bool := []
abbrev g3_1 : Sg := ⟨[0, 1], [.lf (.sl (.pair (.int .i64) (.pair (.int .i64) (.int .i64)))), .lf (.int .i64)], []⟩
abbrev o3_1 : Outs := [(.normal, ⟨[0, 1, 19], [.lf (.sl (.pair (.int .i64) (.pair (.int .i64) (.int .i64)))), .lf (.int .i64), .lf .bool], []⟩)]
noncomputable def b3_1 (x : g3_1.D) : Option (outD o3_1) :=
  (if ((decide ((((List.length x.1) : Nat) : Int) > (100 : Int))) = true) then (some (Sum.inl (x.1, (x.2.1, (true, Unit.unit)))))
   else (if ((decide (x.2.1 > (30000 : Int))) = true) then (some (Sum.inl (x.1, (x.2.1, ((decide (x.2.1 ≤ (1048576 : Int))), Unit.unit)))))
   else (some (Sum.inl (x.1, (x.2.1, (false, Unit.unit)))))))
theorem b3_1_eq (x : g3_1.D) : b3_1 x = evF P (T9.orc _) Go.Proofs.Try.f3.ntmps fx3 (Code.at [true, false, false] c3) (planAt 64 []) g3_1 x (injK fx3 o3_1 some) := by kernel_rfl
theorem s3_1_ok : SubOk P Go.Proofs.Try.f3.ntmps fx3 (Code.at [true, false, false] c3) ⟨g3_1, o3_1, b3_1⟩ :=
  sub_ok (g := g3_1) (outs := o3_1) (f := b3_1) (Table.ok T9_ok _) hmix (planAt_ok (P := P) (n := Go.Proofs.Try.f3.ntmps) (fx := fx3) (c := (Code.at [true, false, false] c3)) (d := 64) (l := []) trivial) b3_1_eq
noncomputable def f3 (x : gi3.D) : Option go3.D :=
  (Option.bind (Go.Ev.Inflate.b3_1 (x.1, (x.2.1, Unit.unit))) (Sum.elim (fun y1 => (if (y1.2.2.1 = true) then (some (true, Unit.unit))
   else (Option.bind (Go.Ev.Inflate.f7 (y1.1, (y1.2.1, Unit.unit))) (fun y2 => (Option.bind (Go.Ev.Inflate.f8 (y1.1, (y1.2.1, Unit.unit))) (fun y3 => (Option.bind (Go.Ev.Inflate.f9 Unit.unit) (fun y4 => (if (y4.1 = true) then (if (((ByteArray.toList (ByteArray.mk (List.toArray (List.map (fun y5 => (UInt8.ofNat (Int.toNat y5))) y2.1)))) == (ByteArray.toList (ByteArray.mk (List.toArray (List.map (fun y5 => (UInt8.ofNat (Int.toNat y5))) y3.1))))) = true) then (some ((y2.2.1 == y3.2.1), Unit.unit))
   else (some (false, Unit.unit)))
   else (some (false, Unit.unit))))))))))) Empty.elim))
theorem f3_eq (x : gi3.D) : f3 x = evF P (T9.orc _) Go.Proofs.Try.f3.ntmps fx3 c3 (planAt 64 [([true, false, false], ⟨g3_1, o3_1, b3_1⟩)]) gi3 x (fnK fx3 [go3]) := by kernel_rfl
theorem pf3 : AllSub P Go.Proofs.Try.f3.ntmps fx3 c3 [([true, false, false], ⟨g3_1, o3_1, b3_1⟩)] := And.intro s3_1_ok (trivial)
theorem qf3 : PlanOk P Go.Proofs.Try.f3.ntmps fx3 (planAt 64 [([true, false, false], ⟨g3_1, o3_1, b3_1⟩)]) c3 := planAt_ok pf3
theorem f3_ok : EntOk P 3 ⟨gi3, [go3], f3⟩ :=
  ent_ok (fn := Go.Proofs.Try.f3) (gi := gi3) (gos := [go3]) (f := f3) (c := c3) (fx := fx3) ⟨Go.Proofs.Try.func3, by kernel_rfl, rfl, by decide +kernel, rfl, rfl⟩ (by kernel_rfl) (Table.ok T9_ok _) hmix (qf3) f3_eq
noncomputable def T3 : Table := T9.add 3 [⟨gi3, [go3], f3⟩] []
theorem T3_ok : TableOk P T3 := Table.plus T9_ok (es := [⟨gi3, [go3], f3⟩]) ⟨f3_ok, trivial⟩ []

/-! ## 4: erasure/erasurelaw06.InflateRest -/
noncomputable def c4 : Code := Func.code Go.Proofs.Try.f4
abbrev gi4 : Sg := ⟨[0, 1, 2, 3], [.lf (.sl (.int .u8)), .lf (.sl (.int .u8)), .lf (.int .i64), .lf (.int .i64)], []⟩
abbrev go4 : Sg := ⟨[8], [.lf .bool], []⟩
def fx4 : List Bool := []
abbrev g4_2 : Sg := ⟨[9, 10, 11, 15, 18], [.lf (.sl (.int .u8)), .lf (.int .i64), .lf (.int .i64), .lf (.int .i64), .lf (.int .i64)], []⟩
abbrev o4_2 : Outs := [(.normal, ⟨[9, 10, 11, 139], [.lf (.sl (.int .u8)), .lf (.int .i64), .lf (.int .i64), .lf .bool], []⟩)]
noncomputable def b4_2 (x : g4_2.D) : Option (outD o4_2) :=
  (if ((x.2.2.1 == (4 : Int)) = true) then (if ((x.2.2.2.1 != x.2.2.1) = true) then (some (Sum.inl (x.1, (x.2.1, (x.2.2.1, (true, Unit.unit))))))
   else (if ((x.2.2.2.2.1 != x.2.2.1) = true) then (some (Sum.inl (x.1, (x.2.1, (x.2.2.1, (true, Unit.unit))))))
   else (if ((x.2.2.1 == (2 : Int)) = true) then (some (Sum.inl (x.1, (x.2.1, (x.2.2.1, ((x.2.2.2.1 != x.2.2.1), Unit.unit))))))
   else (some (Sum.inl (x.1, (x.2.1, (x.2.2.1, (false, Unit.unit)))))))))
   else (if ((x.2.2.1 == (2 : Int)) = true) then (some (Sum.inl (x.1, (x.2.1, (x.2.2.1, ((x.2.2.2.1 != x.2.2.1), Unit.unit))))))
   else (some (Sum.inl (x.1, (x.2.1, (x.2.2.1, (false, Unit.unit))))))))
theorem b4_2_eq (x : g4_2.D) : b4_2 x = evF P (T3.orc _) Go.Proofs.Try.f4.ntmps fx4 (Code.at [true, true, true, true, true, true, true, false, false] c4) (planAt 64 []) g4_2 x (injK fx4 o4_2 some) := by kernel_rfl
theorem s4_2_ok : SubOk P Go.Proofs.Try.f4.ntmps fx4 (Code.at [true, true, true, true, true, true, true, false, false] c4) ⟨g4_2, o4_2, b4_2⟩ :=
  sub_ok (g := g4_2) (outs := o4_2) (f := b4_2) (Table.ok T3_ok _) hmix (planAt_ok (P := P) (n := Go.Proofs.Try.f4.ntmps) (fx := fx4) (c := (Code.at [true, true, true, true, true, true, true, false, false] c4)) (d := 64) (l := []) trivial) b4_2_eq
abbrev g4_1 : Sg := ⟨[0, 2, 9, 10, 11, 13, 14, 15, 16, 17, 18], [.lf (.sl (.int .u8)), .lf (.int .i64), .lf (.sl (.int .u8)), .lf (.int .i64), .lf (.int .i64), .lf (.sl (.int .u8)), .lf (.int .i64), .lf (.int .i64), .lf (.sl (.int .u8)), .lf (.int .i64), .lf (.int .i64)], []⟩
abbrev o4_1 : Outs := [(.normal, ⟨[9, 10, 11, 15, 18, 118], [.lf (.sl (.int .u8)), .lf (.int .i64), .lf (.int .i64), .lf (.int .i64), .lf (.int .i64), .lf .bool], []⟩)]
noncomputable def b4_1 (x : g4_1.D) : Option (outD o4_1) :=
  (if ((x.2.2.2.2.1 == (0 : Int)) = true) then (if ((x.2.2.2.2.2.2.2.1 != x.2.2.2.2.1) = true) then (some (Sum.inl (x.2.2.1, (x.2.2.2.1, (x.2.2.2.2.1, (x.2.2.2.2.2.2.2.1, (x.2.2.2.2.2.2.2.2.2.2.1, (true, Unit.unit))))))))
   else (if ((x.2.2.2.2.2.2.2.2.2.2.1 != x.2.2.2.2.1) = true) then (some (Sum.inl (x.2.2.1, (x.2.2.2.1, (x.2.2.2.2.1, (x.2.2.2.2.2.2.2.1, (x.2.2.2.2.2.2.2.2.2.2.1, (true, Unit.unit))))))))
   else (if ((Bool.not ((ByteArray.toList (ByteArray.mk (List.toArray (List.map (fun y1 => (UInt8.ofNat (Int.toNat y1))) x.2.2.1)))) == (ByteArray.toList (ByteArray.mk (List.toArray (List.map (fun y1 => (UInt8.ofNat (Int.toNat y1))) x.2.2.2.2.2.1)))))) = true) then (some (Sum.inl (x.2.2.1, (x.2.2.2.1, (x.2.2.2.2.1, (x.2.2.2.2.2.2.2.1, (x.2.2.2.2.2.2.2.2.2.2.1, (true, Unit.unit))))))))
   else (if ((Bool.not ((ByteArray.toList (ByteArray.mk (List.toArray (List.map (fun y1 => (UInt8.ofNat (Int.toNat y1))) x.2.2.1)))) == (ByteArray.toList (ByteArray.mk (List.toArray (List.map (fun y1 => (UInt8.ofNat (Int.toNat y1))) x.2.2.2.2.2.2.2.2.1)))))) = true) then (some (Sum.inl (x.2.2.1, (x.2.2.2.1, (x.2.2.2.2.1, (x.2.2.2.2.2.2.2.1, (x.2.2.2.2.2.2.2.2.2.2.1, (true, Unit.unit))))))))
   else (if ((x.2.2.2.1 != x.2.2.2.2.2.2.1) = true) then (some (Sum.inl (x.2.2.1, (x.2.2.2.1, (x.2.2.2.2.1, (x.2.2.2.2.2.2.2.1, (x.2.2.2.2.2.2.2.2.2.2.1, (true, Unit.unit))))))))
   else (if ((x.2.2.2.1 != x.2.2.2.2.2.2.2.2.2.1) = true) then (some (Sum.inl (x.2.2.1, (x.2.2.2.1, (x.2.2.2.2.1, (x.2.2.2.2.2.2.2.1, (x.2.2.2.2.2.2.2.2.2.2.1, (true, Unit.unit))))))))
   else (if ((decide (x.2.2.2.1 > (((List.length x.1) : Nat) : Int))) = true) then (some (Sum.inl (x.2.2.1, (x.2.2.2.1, (x.2.2.2.2.1, (x.2.2.2.2.2.2.2.1, (x.2.2.2.2.2.2.2.2.2.2.1, (true, Unit.unit))))))))
   else (some (Sum.inl (x.2.2.1, (x.2.2.2.1, (x.2.2.2.2.1, (x.2.2.2.2.2.2.2.1, (x.2.2.2.2.2.2.2.2.2.2.1, ((decide ((((List.length x.2.2.1) : Nat) : Int) > x.2.1)), Unit.unit)))))))))))))))
   else (some (Sum.inl (x.2.2.1, (x.2.2.2.1, (x.2.2.2.2.1, (x.2.2.2.2.2.2.2.1, (x.2.2.2.2.2.2.2.2.2.2.1, (false, Unit.unit)))))))))
theorem b4_1_eq (x : g4_1.D) : b4_1 x = evF P (T3.orc _) Go.Proofs.Try.f4.ntmps fx4 (Code.at [true, true, true, true, true, true, false, false] c4) (planAt 64 []) g4_1 x (injK fx4 o4_1 some) := by kernel_rfl
theorem s4_1_ok : SubOk P Go.Proofs.Try.f4.ntmps fx4 (Code.at [true, true, true, true, true, true, false, false] c4) ⟨g4_1, o4_1, b4_1⟩ :=
  sub_ok (g := g4_1) (outs := o4_1) (f := b4_1) (Table.ok T3_ok _) hmix (planAt_ok (P := P) (n := Go.Proofs.Try.f4.ntmps) (fx := fx4) (c := (Code.at [true, true, true, true, true, true, false, false] c4)) (d := 64) (l := []) trivial) b4_1_eq
noncomputable def f4 (x : gi4.D) : Option go4.D :=
  (if ((decide ((((List.length x.1) : Nat) : Int) > (2000 : Int))) = true) then (some (true, Unit.unit))
   else (if ((decide ((((List.length x.2.1) : Nat) : Int) > (200 : Int))) = true) then (some (true, Unit.unit))
   else (if ((decide (x.2.2.1 < (0 : Int))) = true) then (some (true, Unit.unit))
   else (if ((decide (x.2.2.1 > (5000 : Int))) = true) then (some (true, Unit.unit))
   else (if ((decide (x.2.2.2.1 < (0 : Int))) = true) then (some (true, Unit.unit))
   else (if ((decide (x.2.2.2.1 > (5000 : Int))) = true) then (some (true, Unit.unit))
   else (Option.bind (Go.Ev.Inflate.f10 (x.1, (x.2.2.1, Unit.unit))) (fun y1 => (if (((0 : Nat) + (List.length x.1)) ≤ (140737488355328 : Nat)) then (if (((List.length (List.take (List.length ((List.take (0 : Nat) (List.drop (0 : Nat) (List.replicate (0 : Nat) (0 : Int)))) ++ x.1)) (List.drop (0 : Nat) ((List.take (0 : Nat) (List.drop (0 : Nat) (List.replicate (0 : Nat) (0 : Int)))) ++ x.1)))) + (List.length x.2.1)) ≤ (140737488355328 : Nat)) then (Option.bind (Go.Ev.Inflate.f10 ((List.take (List.length ((List.take (List.length ((List.take (0 : Nat) (List.drop (0 : Nat) (List.replicate (0 : Nat) (0 : Int)))) ++ x.1)) (List.drop (0 : Nat) ((List.take (0 : Nat) (List.drop (0 : Nat) (List.replicate (0 : Nat) (0 : Int)))) ++ x.1))) ++ x.2.1)) (List.drop (0 : Nat) ((List.take (List.length ((List.take (0 : Nat) (List.drop (0 : Nat) (List.replicate (0 : Nat) (0 : Int)))) ++ x.1)) (List.drop (0 : Nat) ((List.take (0 : Nat) (List.drop (0 : Nat) (List.replicate (0 : Nat) (0 : Int)))) ++ x.1))) ++ x.2.1))), (x.2.2.1, Unit.unit))) (fun y2 => (Option.bind (Go.Ev.Inflate.f10 (x.1, ((Go.IntKind.wrap Go.IntKind.i64 (x.2.2.1 + x.2.2.2.1)), Unit.unit))) (fun y3 => (Option.bind (Go.Ev.Inflate.b4_1 (x.1, (x.2.2.1, (y1.1, (y1.2.1, (y1.2.2.1, (y2.1, (y2.2.1, (y2.2.2.1, (y3.1, (y3.2.1, (y3.2.2.1, Unit.unit)))))))))))) (Sum.elim (fun y4 => (if (y4.2.2.2.2.2.1 = true) then (some (false, Unit.unit))
   else (Option.bind (Go.Ev.Inflate.b4_2 (y4.1, (y4.2.1, (y4.2.2.1, (y4.2.2.2.1, (y4.2.2.2.2.1, Unit.unit)))))) (Sum.elim (fun y5 => (if (y5.2.2.2.1 = true) then (some (false, Unit.unit))
   else (Option.bind (Go.Ev.Inflate.f9 Unit.unit) (fun y6 => (if (y6.1 = true) then (if ((y5.2.2.1 == (0 : Int)) = true) then (some (true, Unit.unit))
   else (if (((((List.length y5.1) : Nat) : Int) == (0 : Int)) = true) then (some ((y5.2.1 == (0 : Int)), Unit.unit))
   else (some (false, Unit.unit))))
   else (some (false, Unit.unit))))))) Empty.elim)))) Empty.elim))))))
   else none)
   else none)))))))))
theorem f4_eq (x : gi4.D) : f4 x = evF P (T3.orc _) Go.Proofs.Try.f4.ntmps fx4 c4 (planAt 64 [([true, true, true, true, true, true, false, false], ⟨g4_1, o4_1, b4_1⟩), ([true, true, true, true, true, true, true, false, false], ⟨g4_2, o4_2, b4_2⟩)]) gi4 x (fnK fx4 [go4]) := by kernel_rfl
theorem pf4 : AllSub P Go.Proofs.Try.f4.ntmps fx4 c4 [([true, true, true, true, true, true, false, false], ⟨g4_1, o4_1, b4_1⟩), ([true, true, true, true, true, true, true, false, false], ⟨g4_2, o4_2, b4_2⟩)] := And.intro s4_1_ok (And.intro s4_2_ok (trivial))
theorem qf4 : PlanOk P Go.Proofs.Try.f4.ntmps fx4 (planAt 64 [([true, true, true, true, true, true, false, false], ⟨g4_1, o4_1, b4_1⟩), ([true, true, true, true, true, true, true, false, false], ⟨g4_2, o4_2, b4_2⟩)]) c4 := planAt_ok pf4
theorem f4_ok : EntOk P 4 ⟨gi4, [go4], f4⟩ :=
  ent_ok (fn := Go.Proofs.Try.f4) (gi := gi4) (gos := [go4]) (f := f4) (c := c4) (fx := fx4) ⟨Go.Proofs.Try.func4, by kernel_rfl, rfl, by decide +kernel, rfl, rfl⟩ (by kernel_rfl) (Table.ok T3_ok _) hmix (qf4) f4_eq
noncomputable def T4 : Table := T3.add 4 [⟨gi4, [go4], f4⟩] []
theorem T4_ok : TableOk P T4 := Table.plus T3_ok (es := [⟨gi4, [go4], f4⟩]) ⟨f4_ok, trivial⟩ []

/-! ## 5: erasure/erasurelaw06.InflateStored -/
noncomputable def c5 : Code := Func.code Go.Proofs.Try.f5
abbrev gi5 : Sg := ⟨[0], [.lf (.sl (.slice (.int .u8)))], []⟩
abbrev go5 : Sg := ⟨[2], [.lf .bool], []⟩
def fx5 : List Bool := []
abbrev g5_2 : Sg := ⟨[0, 3, 4, 5, 6, 7], [.lf (.sl (.slice (.int .u8))), .lf (.gr (.int .u8) 0), .lf (.gr (.int .u8) 1), .lf (.int .i64), .lf (.int .i64), .lf (.int .u8)], [some (.arr true (.int .u8)), some (.arr true (.int .u8))]⟩
abbrev o5_2 : Outs := [(.normal, ⟨[0, 3, 4, 5, 6, 7], [.lf (.sl (.slice (.int .u8))), .lf (.gr (.int .u8) 0), .lf (.gr (.int .u8) 1), .lf (.int .i64), .lf (.int .i64), .lf (.int .u8)], [some (.arr true (.int .u8)), some (.arr true (.int .u8))]⟩)]
noncomputable def b5_2 (x : g5_2.D) : Option (outD o5_2) :=
  (if ((x.2.1 == (Go.IntKind.wrap Go.IntKind.i64 ((((List.length x.1) : Nat) : Int) - (1 : Int)))) = true) then (if ((List.length x.2.2.2.2.1) = (List.length x.2.2.2.2.1)) then (if ((List.length x.2.2.2.2.2.1) = (List.length x.2.2.2.2.2.1)) then (some (Sum.inl (x.1, (x.2.1, (x.2.2.1, ((1 : Int), (x.2.2.2.2.1, (x.2.2.2.2.2.1, Unit.unit))))))))
   else none)
   else none)
   else (if ((List.length x.2.2.2.2.1) = (List.length x.2.2.2.2.1)) then (if ((List.length x.2.2.2.2.2.1) = (List.length x.2.2.2.2.2.1)) then (some (Sum.inl (x.1, (x.2.1, (x.2.2.1, (x.2.2.2.1, (x.2.2.2.2.1, (x.2.2.2.2.2.1, Unit.unit))))))))
   else none)
   else none))
theorem b5_2_eq (x : g5_2.D) : b5_2 x = evF P (T4.orc _) Go.Proofs.Try.f5.ntmps fx5 (Code.at [true, true, true, true, false, true, false, false, true, false, false, true, true, true, false] c5) (planAt 64 []) g5_2 x (injK fx5 o5_2 some) := by kernel_rfl
theorem s5_2_ok : SubOk P Go.Proofs.Try.f5.ntmps fx5 (Code.at [true, true, true, true, false, true, false, false, true, false, false, true, true, true, false] c5) ⟨g5_2, o5_2, b5_2⟩ :=
  sub_ok (g := g5_2) (outs := o5_2) (f := b5_2) (Table.ok T4_ok _) hmix (planAt_ok (P := P) (n := Go.Proofs.Try.f5.ntmps) (fx := fx5) (c := (Code.at [true, true, true, true, false, true, false, false, true, false, false, true, true, true, false] c5)) (d := 64) (l := []) trivial) b5_2_eq
abbrev g5_1 : Sg := ⟨[0, 3, 4, 5], [.lf (.sl (.slice (.int .u8))), .lf (.gr (.int .u8) 0), .lf (.gr (.int .u8) 1), .lf (.int .i64)], [some (.arr true (.int .u8)), some (.arr true (.int .u8))]⟩
abbrev o5_1 : Outs := [(.exit 0, ⟨[0, 3, 4], [.lf (.sl (.slice (.int .u8))), .lf (.gr (.int .u8) 0), .lf (.gr (.int .u8) 1)], [some (.arr true (.int .u8)), some (.arr true (.int .u8))]⟩), (.ret, ⟨[2], [.lf .bool], []⟩)]
noncomputable def b5_1 (x : g5_1.D) : Option (outD ((.normal, g5_1) :: o5_1)) :=
  (if ((decide (x.2.1 < (((List.length x.1) : Nat) : Int))) = true) then (if ((0 : Int) ≤ x.2.1) then (if (x.2.1 < (((List.length x.1) : Nat) : Int)) then (if ((decide ((((List.length (List.getD x.1 (Int.toNat x.2.1) [])) : Nat) : Int) > (300 : Int))) = true) then (some (Sum.inr (Sum.inr (Sum.inl (true, Unit.unit)))))
   else (if ((List.length x.2.2.1) = (List.length x.2.2.1)) then (if ((List.length x.2.2.2.1) = (List.length x.2.2.2.1)) then (Option.bind (Go.Ev.Inflate.b5_2 (x.1, (x.2.1, ((((List.length (List.getD x.1 (Int.toNat x.2.1) [])) : Nat) : Int), ((0 : Int), (x.2.2.1, (x.2.2.2.1, Unit.unit))))))) (Sum.elim (fun y1 => (if (((List.length (List.take (List.length y1.2.2.2.2.1) (List.drop (0 : Nat) y1.2.2.2.2.1))) + (List.length (List.take (5 : Nat) (List.drop (0 : Nat) (List.set (List.set (List.set (List.set (List.set (List.replicate (5 : Nat) (0 : Int)) (0 : Nat) y1.2.2.2.1) (1 : Nat) (Go.IntKind.wrap Go.IntKind.u8 (Int.tmod y1.2.2.1 (256 : Int)))) (2 : Nat) (Go.IntKind.wrap Go.IntKind.u8 (Go.IntKind.wrap Go.IntKind.i64 (Int.tdiv y1.2.2.1 (256 : Int))))) (3 : Nat) (Go.IntKind.wrap Go.IntKind.u8 (Go.IntKind.wrap Go.IntKind.i64 ((255 : Int) - (Int.tmod y1.2.2.1 (256 : Int)))))) (4 : Nat) (Go.IntKind.wrap Go.IntKind.u8 (Go.IntKind.wrap Go.IntKind.i64 ((255 : Int) - (Go.IntKind.wrap Go.IntKind.i64 (Int.tdiv y1.2.2.1 (256 : Int))))))))))) ≤ (140737488355328 : Nat)) then (if ((0 : Int) ≤ y1.2.1) then (if (y1.2.1 < (((List.length y1.1) : Nat) : Int)) then (if (((List.length (List.take (List.length ((List.take (List.length y1.2.2.2.2.1) (List.drop (0 : Nat) y1.2.2.2.2.1)) ++ (List.take (5 : Nat) (List.drop (0 : Nat) (List.set (List.set (List.set (List.set (List.set (List.replicate (5 : Nat) (0 : Int)) (0 : Nat) y1.2.2.2.1) (1 : Nat) (Go.IntKind.wrap Go.IntKind.u8 (Int.tmod y1.2.2.1 (256 : Int)))) (2 : Nat) (Go.IntKind.wrap Go.IntKind.u8 (Go.IntKind.wrap Go.IntKind.i64 (Int.tdiv y1.2.2.1 (256 : Int))))) (3 : Nat) (Go.IntKind.wrap Go.IntKind.u8 (Go.IntKind.wrap Go.IntKind.i64 ((255 : Int) - (Int.tmod y1.2.2.1 (256 : Int)))))) (4 : Nat) (Go.IntKind.wrap Go.IntKind.u8 (Go.IntKind.wrap Go.IntKind.i64 ((255 : Int) - (Go.IntKind.wrap Go.IntKind.i64 (Int.tdiv y1.2.2.1 (256 : Int))))))))))) (List.drop (0 : Nat) ((List.take (List.length y1.2.2.2.2.1) (List.drop (0 : Nat) y1.2.2.2.2.1)) ++ (List.take (5 : Nat) (List.drop (0 : Nat) (List.set (List.set (List.set (List.set (List.set (List.replicate (5 : Nat) (0 : Int)) (0 : Nat) y1.2.2.2.1) (1 : Nat) (Go.IntKind.wrap Go.IntKind.u8 (Int.tmod y1.2.2.1 (256 : Int)))) (2 : Nat) (Go.IntKind.wrap Go.IntKind.u8 (Go.IntKind.wrap Go.IntKind.i64 (Int.tdiv y1.2.2.1 (256 : Int))))) (3 : Nat) (Go.IntKind.wrap Go.IntKind.u8 (Go.IntKind.wrap Go.IntKind.i64 ((255 : Int) - (Int.tmod y1.2.2.1 (256 : Int)))))) (4 : Nat) (Go.IntKind.wrap Go.IntKind.u8 (Go.IntKind.wrap Go.IntKind.i64 ((255 : Int) - (Go.IntKind.wrap Go.IntKind.i64 (Int.tdiv y1.2.2.1 (256 : Int))))))))))))) + (List.length (List.getD y1.1 (Int.toNat y1.2.1) []))) ≤ (140737488355328 : Nat)) then (if ((0 : Int) ≤ y1.2.1) then (if (y1.2.1 < (((List.length y1.1) : Nat) : Int)) then (if (((List.length (List.take (List.length y1.2.2.2.2.2.1) (List.drop (0 : Nat) y1.2.2.2.2.2.1))) + (List.length (List.getD y1.1 (Int.toNat y1.2.1) []))) ≤ (140737488355328 : Nat)) then (if ((List.length ((List.take (List.length ((List.take (List.length y1.2.2.2.2.1) (List.drop (0 : Nat) y1.2.2.2.2.1)) ++ (List.take (5 : Nat) (List.drop (0 : Nat) (List.set (List.set (List.set (List.set (List.set (List.replicate (5 : Nat) (0 : Int)) (0 : Nat) y1.2.2.2.1) (1 : Nat) (Go.IntKind.wrap Go.IntKind.u8 (Int.tmod y1.2.2.1 (256 : Int)))) (2 : Nat) (Go.IntKind.wrap Go.IntKind.u8 (Go.IntKind.wrap Go.IntKind.i64 (Int.tdiv y1.2.2.1 (256 : Int))))) (3 : Nat) (Go.IntKind.wrap Go.IntKind.u8 (Go.IntKind.wrap Go.IntKind.i64 ((255 : Int) - (Int.tmod y1.2.2.1 (256 : Int)))))) (4 : Nat) (Go.IntKind.wrap Go.IntKind.u8 (Go.IntKind.wrap Go.IntKind.i64 ((255 : Int) - (Go.IntKind.wrap Go.IntKind.i64 (Int.tdiv y1.2.2.1 (256 : Int))))))))))) (List.drop (0 : Nat) ((List.take (List.length y1.2.2.2.2.1) (List.drop (0 : Nat) y1.2.2.2.2.1)) ++ (List.take (5 : Nat) (List.drop (0 : Nat) (List.set (List.set (List.set (List.set (List.set (List.replicate (5 : Nat) (0 : Int)) (0 : Nat) y1.2.2.2.1) (1 : Nat) (Go.IntKind.wrap Go.IntKind.u8 (Int.tmod y1.2.2.1 (256 : Int)))) (2 : Nat) (Go.IntKind.wrap Go.IntKind.u8 (Go.IntKind.wrap Go.IntKind.i64 (Int.tdiv y1.2.2.1 (256 : Int))))) (3 : Nat) (Go.IntKind.wrap Go.IntKind.u8 (Go.IntKind.wrap Go.IntKind.i64 ((255 : Int) - (Int.tmod y1.2.2.1 (256 : Int)))))) (4 : Nat) (Go.IntKind.wrap Go.IntKind.u8 (Go.IntKind.wrap Go.IntKind.i64 ((255 : Int) - (Go.IntKind.wrap Go.IntKind.i64 (Int.tdiv y1.2.2.1 (256 : Int)))))))))))) ++ (List.getD y1.1 (Int.toNat y1.2.1) []))) = (List.length ((List.take (List.length ((List.take (List.length y1.2.2.2.2.1) (List.drop (0 : Nat) y1.2.2.2.2.1)) ++ (List.take (5 : Nat) (List.drop (0 : Nat) (List.set (List.set (List.set (List.set (List.set (List.replicate (5 : Nat) (0 : Int)) (0 : Nat) y1.2.2.2.1) (1 : Nat) (Go.IntKind.wrap Go.IntKind.u8 (Int.tmod y1.2.2.1 (256 : Int)))) (2 : Nat) (Go.IntKind.wrap Go.IntKind.u8 (Go.IntKind.wrap Go.IntKind.i64 (Int.tdiv y1.2.2.1 (256 : Int))))) (3 : Nat) (Go.IntKind.wrap Go.IntKind.u8 (Go.IntKind.wrap Go.IntKind.i64 ((255 : Int) - (Int.tmod y1.2.2.1 (256 : Int)))))) (4 : Nat) (Go.IntKind.wrap Go.IntKind.u8 (Go.IntKind.wrap Go.IntKind.i64 ((255 : Int) - (Go.IntKind.wrap Go.IntKind.i64 (Int.tdiv y1.2.2.1 (256 : Int))))))))))) (List.drop (0 : Nat) ((List.take (List.length y1.2.2.2.2.1) (List.drop (0 : Nat) y1.2.2.2.2.1)) ++ (List.take (5 : Nat) (List.drop (0 : Nat) (List.set (List.set (List.set (List.set (List.set (List.replicate (5 : Nat) (0 : Int)) (0 : Nat) y1.2.2.2.1) (1 : Nat) (Go.IntKind.wrap Go.IntKind.u8 (Int.tmod y1.2.2.1 (256 : Int)))) (2 : Nat) (Go.IntKind.wrap Go.IntKind.u8 (Go.IntKind.wrap Go.IntKind.i64 (Int.tdiv y1.2.2.1 (256 : Int))))) (3 : Nat) (Go.IntKind.wrap Go.IntKind.u8 (Go.IntKind.wrap Go.IntKind.i64 ((255 : Int) - (Int.tmod y1.2.2.1 (256 : Int)))))) (4 : Nat) (Go.IntKind.wrap Go.IntKind.u8 (Go.IntKind.wrap Go.IntKind.i64 ((255 : Int) - (Go.IntKind.wrap Go.IntKind.i64 (Int.tdiv y1.2.2.1 (256 : Int)))))))))))) ++ (List.getD y1.1 (Int.toNat y1.2.1) [])))) then (if ((List.length ((List.take (List.length y1.2.2.2.2.2.1) (List.drop (0 : Nat) y1.2.2.2.2.2.1)) ++ (List.getD y1.1 (Int.toNat y1.2.1) []))) = (List.length ((List.take (List.length y1.2.2.2.2.2.1) (List.drop (0 : Nat) y1.2.2.2.2.2.1)) ++ (List.getD y1.1 (Int.toNat y1.2.1) [])))) then (some (Sum.inl (y1.1, ((Go.IntKind.wrap Go.IntKind.i64 (y1.2.1 + (1 : Int))), (((List.take (List.length ((List.take (List.length y1.2.2.2.2.1) (List.drop (0 : Nat) y1.2.2.2.2.1)) ++ (List.take (5 : Nat) (List.drop (0 : Nat) (List.set (List.set (List.set (List.set (List.set (List.replicate (5 : Nat) (0 : Int)) (0 : Nat) y1.2.2.2.1) (1 : Nat) (Go.IntKind.wrap Go.IntKind.u8 (Int.tmod y1.2.2.1 (256 : Int)))) (2 : Nat) (Go.IntKind.wrap Go.IntKind.u8 (Go.IntKind.wrap Go.IntKind.i64 (Int.tdiv y1.2.2.1 (256 : Int))))) (3 : Nat) (Go.IntKind.wrap Go.IntKind.u8 (Go.IntKind.wrap Go.IntKind.i64 ((255 : Int) - (Int.tmod y1.2.2.1 (256 : Int)))))) (4 : Nat) (Go.IntKind.wrap Go.IntKind.u8 (Go.IntKind.wrap Go.IntKind.i64 ((255 : Int) - (Go.IntKind.wrap Go.IntKind.i64 (Int.tdiv y1.2.2.1 (256 : Int))))))))))) (List.drop (0 : Nat) ((List.take (List.length y1.2.2.2.2.1) (List.drop (0 : Nat) y1.2.2.2.2.1)) ++ (List.take (5 : Nat) (List.drop (0 : Nat) (List.set (List.set (List.set (List.set (List.set (List.replicate (5 : Nat) (0 : Int)) (0 : Nat) y1.2.2.2.1) (1 : Nat) (Go.IntKind.wrap Go.IntKind.u8 (Int.tmod y1.2.2.1 (256 : Int)))) (2 : Nat) (Go.IntKind.wrap Go.IntKind.u8 (Go.IntKind.wrap Go.IntKind.i64 (Int.tdiv y1.2.2.1 (256 : Int))))) (3 : Nat) (Go.IntKind.wrap Go.IntKind.u8 (Go.IntKind.wrap Go.IntKind.i64 ((255 : Int) - (Int.tmod y1.2.2.1 (256 : Int)))))) (4 : Nat) (Go.IntKind.wrap Go.IntKind.u8 (Go.IntKind.wrap Go.IntKind.i64 ((255 : Int) - (Go.IntKind.wrap Go.IntKind.i64 (Int.tdiv y1.2.2.1 (256 : Int)))))))))))) ++ (List.getD y1.1 (Int.toNat y1.2.1) [])), (((List.take (List.length y1.2.2.2.2.2.1) (List.drop (0 : Nat) y1.2.2.2.2.2.1)) ++ (List.getD y1.1 (Int.toNat y1.2.1) [])), Unit.unit))))))
   else none)
   else none)
   else none)
   else none)
   else none)
   else none)
   else none)
   else none)
   else none)) Empty.elim))
   else none)
   else none))
   else none)
   else none)
   else (if ((List.length x.2.2.1) = (List.length x.2.2.1)) then (if ((List.length x.2.2.2.1) = (List.length x.2.2.2.1)) then (some (Sum.inr (Sum.inl (x.1, (x.2.2.1, (x.2.2.2.1, Unit.unit))))))
   else none)
   else none))
theorem b5_1_eq (x : g5_1.D) : b5_1 x = evF P (T4.orc _) Go.Proofs.Try.f5.ntmps fx5 (Code.at [true, true, true, true, false, true, false, false] c5) (planAt 64 [([true, false, false, true, true, true, false], ⟨g5_2, o5_2, b5_2⟩)]) g5_1 x (injK fx5 ((.normal, g5_1) :: o5_1) some) := by kernel_rfl
noncomputable def l5_1 : g5_1.D → Option (outD o5_1) := loopN g5_1 o5_1 b5_1 18446744073709551616
theorem p5_1 : AllSub P Go.Proofs.Try.f5.ntmps fx5 (Code.at [true, true, true, true, false, true, false, false] c5) [([true, false, false, true, true, true, false], ⟨g5_2, o5_2, b5_2⟩)] := And.intro s5_2_ok (trivial)
theorem q5_1 : PlanOk P Go.Proofs.Try.f5.ntmps fx5 (planAt 64 [([true, false, false, true, true, true, false], ⟨g5_2, o5_2, b5_2⟩)]) (Code.at [true, true, true, true, false, true, false, false] c5) := planAt_ok p5_1
theorem at5_1 : Code.at [true, true, true, true, false, true, false] c5 = .loop (Code.at [true, true, true, true, false, true, false, false] c5) := by kernel_rfl
theorem s5_1_ok : SubOk P Go.Proofs.Try.f5.ntmps fx5 (Code.at [true, true, true, true, false, true, false] c5) ⟨g5_1, o5_1, l5_1⟩ := by
  rw [at5_1]
  exact loop_ok (sub_ok (g := g5_1) (outs := ((.normal, g5_1) :: o5_1)) (f := b5_1) (Table.ok T4_ok _) hmix (q5_1) b5_1_eq) rfl _
noncomputable def f5 (x : gi5.D) : Option go5.D :=
  (if ((decide ((((List.length x.1) : Nat) : Int) > (20 : Int))) = true) then (some (true, Unit.unit))
   else (Option.bind (Go.Ev.Inflate.l5_1 (x.1, ((0 : Int), ([], ([], Unit.unit))))) (Sum.elim (fun y1 => (Option.bind (Go.Ev.Inflate.f10 ((List.take (List.length y1.2.1) (List.drop (0 : Nat) y1.2.1)), ((6000 : Int), Unit.unit))) (fun y2 => (if (((((List.length y1.1) : Nat) : Int) == (0 : Int)) = true) then (Option.bind (Go.Ev.Inflate.f9 Unit.unit) (fun y3 => (if (y3.1 = true) then (some ((y2.2.2.1 == (6 : Int)), Unit.unit))
   else (some (false, Unit.unit)))))
   else (Option.bind (Go.Ev.Inflate.f9 Unit.unit) (fun y3 => (if (y3.1 = true) then (if ((y2.2.2.1 == (0 : Int)) = true) then (if (((ByteArray.toList (ByteArray.mk (List.toArray (List.map (fun y4 => (UInt8.ofNat (Int.toNat y4))) y2.1)))) == (ByteArray.toList (ByteArray.mk (List.toArray (List.map (fun y4 => (UInt8.ofNat (Int.toNat y4))) (List.take (List.length y1.2.2.1) (List.drop (0 : Nat) y1.2.2.1))))))) = true) then (some ((y2.2.1 == (((List.length y1.2.1) : Nat) : Int)), Unit.unit))
   else (some (false, Unit.unit)))
   else (some (false, Unit.unit)))
   else (some (false, Unit.unit))))))))) (Sum.elim (fun y1 => (some (y1.1, Unit.unit))) Empty.elim))))
theorem f5_eq (x : gi5.D) : f5 x = evF P (T4.orc _) Go.Proofs.Try.f5.ntmps fx5 c5 (planAt 64 [([true, true, true, true, false, true, false], ⟨g5_1, o5_1, l5_1⟩)]) gi5 x (fnK fx5 [go5]) := by kernel_rfl
theorem pf5 : AllSub P Go.Proofs.Try.f5.ntmps fx5 c5 [([true, true, true, true, false, true, false], ⟨g5_1, o5_1, l5_1⟩)] := And.intro s5_1_ok (trivial)
theorem qf5 : PlanOk P Go.Proofs.Try.f5.ntmps fx5 (planAt 64 [([true, true, true, true, false, true, false], ⟨g5_1, o5_1, l5_1⟩)]) c5 := planAt_ok pf5
theorem f5_ok : EntOk P 5 ⟨gi5, [go5], f5⟩ :=
  ent_ok (fn := Go.Proofs.Try.f5) (gi := gi5) (gos := [go5]) (f := f5) (c := c5) (fx := fx5) ⟨Go.Proofs.Try.func5, by kernel_rfl, rfl, by decide +kernel, rfl, rfl⟩ (by kernel_rfl) (Table.ok T4_ok _) hmix (qf5) f5_eq
noncomputable def T5 : Table := T4.add 5 [⟨gi5, [go5], f5⟩] []
theorem T5_ok : TableOk P T5 := Table.plus T4_ok (es := [⟨gi5, [go5], f5⟩]) ⟨f5_ok, trivial⟩ []

/-! ## 6: erasure/erasurelaw06.InflateTokens -/
noncomputable def c6 : Code := Func.code Go.Proofs.Try.f6
abbrev gi6 : Sg := ⟨[0, 1], [.lf (.sl (.int .u8)), .lf (.int .i64)], []⟩
abbrev go6 : Sg := ⟨[4], [.lf .bool], []⟩
def fx6 : List Bool := []
abbrev g6_1 : Sg := ⟨[5, 7, 11, 12], [.lf (.sl (.pair (.int .i64) (.pair (.int .i64) (.int .i64)))), .lf (.int .i64), .lf (.int .i64), .lf (.int .i64)], []⟩
abbrev o6_1 : Outs := [(.normal, ⟨[4], [.lf .bool], []⟩)]
noncomputable def b6_1 (x : g6_1.D) : Option (outD o6_1) :=
  (Option.bind (Go.Ev.Inflate.f9 Unit.unit) (fun y1 => (if (y1.1 = true) then (if ((x.2.2.2.1 == x.2.1) = true) then (if (((((List.length x.1) : Nat) : Int) == (0 : Int)) = true) then (some (Sum.inl ((x.2.2.1 == (0 : Int)), Unit.unit)))
   else (some (Sum.inl (false, Unit.unit))))
   else (some (Sum.inl (false, Unit.unit))))
   else (some (Sum.inl (false, Unit.unit))))))
theorem b6_1_eq (x : g6_1.D) : b6_1 x = evF P (T5.orc _) Go.Proofs.Try.f6.ntmps fx6 (Code.at [true, true, true, true, true, false, true, false, false] c6) (planAt 64 []) g6_1 x (injK fx6 o6_1 some) := by kernel_rfl
theorem s6_1_ok : SubOk P Go.Proofs.Try.f6.ntmps fx6 (Code.at [true, true, true, true, true, false, true, false, false] c6) ⟨g6_1, o6_1, b6_1⟩ :=
  sub_ok (g := g6_1) (outs := o6_1) (f := b6_1) (Table.ok T5_ok _) hmix (planAt_ok (P := P) (n := Go.Proofs.Try.f6.ntmps) (fx := fx6) (c := (Code.at [true, true, true, true, true, false, true, false, false] c6)) (d := 64) (l := []) trivial) b6_1_eq
noncomputable def f6 (x : gi6.D) : Option go6.D :=
  (if ((decide ((((List.length x.1) : Nat) : Int) > (2000 : Int))) = true) then (some (true, Unit.unit))
   else (if ((decide (x.2.1 < (0 : Int))) = true) then (some (true, Unit.unit))
   else (if ((decide (x.2.1 > (5000 : Int))) = true) then (some (true, Unit.unit))
   else (Option.bind (Go.Ev.Inflate.f11 (x.1, (x.2.1, Unit.unit))) (fun y1 => (Option.bind (Go.Ev.Inflate.f7 (y1.1, (x.2.1, Unit.unit))) (fun y2 => (Option.bind (Go.Ev.Inflate.f10 (x.1, (x.2.1, Unit.unit))) (fun y3 => (if ((y1.2.2.1 != (0 : Int)) = true) then (Option.bind (Go.Ev.Inflate.b6_1 (y1.1, (y1.2.2.1, (y3.2.1, (y3.2.2.1, Unit.unit))))) (Sum.elim (fun y4 => (some (y4.1, Unit.unit))) Empty.elim))
   else (Option.bind (Go.Ev.Inflate.f9 Unit.unit) (fun y4 => (if (y4.1 = true) then (if ((y2.2.1 == (0 : Int)) = true) then (if ((y3.2.2.1 == (0 : Int)) = true) then (if (((ByteArray.toList (ByteArray.mk (List.toArray (List.map (fun y5 => (UInt8.ofNat (Int.toNat y5))) y2.1)))) == (ByteArray.toList (ByteArray.mk (List.toArray (List.map (fun y5 => (UInt8.ofNat (Int.toNat y5))) y3.1))))) = true) then (some ((y1.2.1 == y3.2.1), Unit.unit))
   else (some (false, Unit.unit)))
   else (some (false, Unit.unit)))
   else (some (false, Unit.unit)))
   else (some (false, Unit.unit)))))))))))))))
theorem f6_eq (x : gi6.D) : f6 x = evF P (T5.orc _) Go.Proofs.Try.f6.ntmps fx6 c6 (planAt 64 [([true, true, true, true, true, false, true, false, false], ⟨g6_1, o6_1, b6_1⟩)]) gi6 x (fnK fx6 [go6]) := by kernel_rfl
theorem pf6 : AllSub P Go.Proofs.Try.f6.ntmps fx6 c6 [([true, true, true, true, true, false, true, false, false], ⟨g6_1, o6_1, b6_1⟩)] := And.intro s6_1_ok (trivial)
theorem qf6 : PlanOk P Go.Proofs.Try.f6.ntmps fx6 (planAt 64 [([true, true, true, true, true, false, true, false, false], ⟨g6_1, o6_1, b6_1⟩)]) c6 := planAt_ok pf6
theorem f6_ok : EntOk P 6 ⟨gi6, [go6], f6⟩ :=
  ent_ok (fn := Go.Proofs.Try.f6) (gi := gi6) (gos := [go6]) (f := f6) (c := c6) (fx := fx6) ⟨Go.Proofs.Try.func6, by kernel_rfl, rfl, by decide +kernel, rfl, rfl⟩ (by kernel_rfl) (Table.ok T5_ok _) hmix (qf6) f6_eq
noncomputable def T6 : Table := T5.add 6 [⟨gi6, [go6], f6⟩] []
theorem T6_ok : TableOk P T6 := Table.plus T5_ok (es := [⟨gi6, [go6], f6⟩]) ⟨f6_ok, trivial⟩ []

end Go.Ev.Inflate
