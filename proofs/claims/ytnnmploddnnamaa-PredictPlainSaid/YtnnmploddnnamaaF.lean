/- Part of a proof about the given program: F. -/
import Derived.Test.YtnnmploddnnamaaEvEE
import Derived.Test.YtnnmploddnnamaaChunkIter
import Derived.Test.YtnnmploddnnamaaChecked
namespace Go.Ev.Pre
open Go.Ev

noncomputable abbrev P := Go.Proofs.Try.prog
set_option maxRecDepth 1000000
theorem hmix : P.follows .mixedOrders = true := by kernel_rfl

/-! ## 7: erasure/erasureref04.Own -/
noncomputable def c7 : Code := Func.code Go.Proofs.Try.f7
abbrev gi7 : Sg := ⟨[0], [.lf (.sl (.int .u8))], []⟩
abbrev go7 : Sg := ⟨[2], [.lf (.gr (.int .u8) 0)], [some (.arr true (.int .u8))]⟩
def fx7 : List Bool := []
noncomputable def f7 (x : gi7.D) : Option go7.D :=
  (if (((0 : Nat) + (List.length x.1)) ≤ (140737488355328 : Nat)) then (if (((0 : Nat) < ((0 : Nat) + (List.length x.1))) ∨ (((0 : Nat) = (0 : Nat)) ∧ ((0 : Nat) = (0 : Nat)))) then (if ((List.length ([] ++ x.1)) = (List.length ([] ++ x.1))) then (some (([] ++ x.1), Unit.unit))
   else none)
   else none)
   else none)
theorem f7_eq (x : gi7.D) : f7 x = evF P (Table.empty.orc _) Go.Proofs.Try.f7.ntmps fx7 c7 (planAt 64 []) gi7 x (fnK fx7 [go7]) := by kernel_rfl
theorem f7_ok : EntOk P 7 ⟨gi7, [go7], f7⟩ :=
  ent_ok (fn := Go.Proofs.Try.f7) (gi := gi7) (gos := [go7]) (f := f7) (c := c7) (fx := fx7) ⟨Go.Proofs.Try.func7, by kernel_rfl, rfl, by decide +kernel, rfl, rfl⟩ (by kernel_rfl) (Table.ok (Table.empty_ok P) _) hmix (planAt_ok (P := P) (n := Go.Proofs.Try.f7.ntmps) (fx := fx7) (any := true) (c := c7) (d := 64) (l := []) trivial) f7_eq
noncomputable def T7 : Table := Table.empty.add 7 [⟨gi7, [go7], f7⟩] []
theorem T7_ok : TableOk P T7 := Table.plus (Table.empty_ok P) (es := [⟨gi7, [go7], f7⟩]) ⟨f7_ok, trivial⟩ []

/-! ## 13: erasure/predict.Check -/
noncomputable def c13 : Code := Func.code Go.Proofs.Try.f13
abbrev gi13 : Sg := ⟨[0], [.agg [.lf (.int .i64), .lf (.int .i64), .lf (.int .i64), .lf (.int .i64)]], []⟩
abbrev go13 : Sg := ⟨[2], [.lf (.int .i64)], []⟩
def fx13 : List Bool := []
abbrev g13_4 : Sg := ⟨[1, 3], [.lf (.ptr 0 0), .lf .bool], [some (.box true [.lf (.int .i64), .lf (.int .i64), .lf (.int .i64), .lf (.int .i64)])]⟩
abbrev o13_4 : Outs := [(.normal, ⟨[1, 3, 31], [.lf (.ptr 0 0), .lf .bool, .lf .bool], [some (.box true [.lf (.int .i64), .lf (.int .i64), .lf (.int .i64), .lf (.int .i64)])]⟩)]
noncomputable def b13_4 (x : g13_4.D) : Option (outD o13_4) :=
  (if ((decide (x.2.1 < (10 : Int))) = true) then (some (Sum.inl (x.1, (true, (x.2.1, (x.2.2.1, (x.2.2.2.1, (x.2.2.2.2.1, Unit.unit))))))))
   else (some (Sum.inl (x.1, ((decide (x.2.1 > (15 : Int))), (x.2.1, (x.2.2.1, (x.2.2.2.1, (x.2.2.2.2.1, Unit.unit)))))))))
theorem b13_4_eq (x : g13_4.D) : b13_4 x = evF P (T7.orc _) Go.Proofs.Try.f13.ntmps fx13 (Code.at [true, true, false, false, true, true, false] c13) (planAt 64 []) g13_4 x (injK fx13 o13_4 some) := by kernel_rfl
theorem s13_4_ok : SubOk P Go.Proofs.Try.f13.ntmps fx13 (Code.at [true, true, false, false, true, true, false] c13) ⟨g13_4, o13_4, b13_4⟩ :=
  sub_ok (g := g13_4) (outs := o13_4) (f := b13_4) (Table.ok T7_ok _) hmix (planAt_ok (P := P) (n := Go.Proofs.Try.f13.ntmps) (fx := fx13) (any := true) (c := (Code.at [true, true, false, false, true, true, false] c13)) (d := 64) (l := []) trivial) b13_4_eq
abbrev g13_5 : Sg := ⟨[1, 3, 41], [.lf (.ptr 0 0), .lf .bool, .lf (.int .i64)], [some (.box true [.lf (.int .i64), .lf (.int .i64), .lf (.int .i64), .lf (.int .i64)])]⟩
abbrev o13_5 : Outs := [(.normal, ⟨[1, 3, 42], [.lf (.ptr 0 0), .lf .bool, .lf .bool], [some (.box true [.lf (.int .i64), .lf (.int .i64), .lf (.int .i64), .lf (.int .i64)])]⟩)]
noncomputable def b13_5 (x : g13_5.D) : Option (outD o13_5) :=
  (if ((x.2.1 == (1 : Int)) = true) then (some (Sum.inl (x.1, (true, (x.2.2.1, (x.2.2.2.1, (x.2.2.2.2.1, (x.2.2.2.2.2.1, Unit.unit))))))))
   else (if ((x.2.1 == (2 : Int)) = true) then (some (Sum.inl (x.1, (true, (x.2.2.1, (x.2.2.2.1, (x.2.2.2.2.1, (x.2.2.2.2.2.1, Unit.unit))))))))
   else (if ((x.2.1 == (4 : Int)) = true) then (some (Sum.inl (x.1, (true, (x.2.2.1, (x.2.2.2.1, (x.2.2.2.2.1, (x.2.2.2.2.2.1, Unit.unit))))))))
   else (if ((x.2.1 == (8 : Int)) = true) then (some (Sum.inl (x.1, (true, (x.2.2.1, (x.2.2.2.1, (x.2.2.2.2.1, (x.2.2.2.2.2.1, Unit.unit))))))))
   else (some (Sum.inl (x.1, ((x.2.1 == (16 : Int)), (x.2.2.1, (x.2.2.2.1, (x.2.2.2.2.1, (x.2.2.2.2.2.1, Unit.unit))))))))))))
theorem b13_5_eq (x : g13_5.D) : b13_5 x = evF P (T7.orc _) Go.Proofs.Try.f13.ntmps fx13 (Code.at [true, true, true, false, true, false, false] c13) (planAt 64 []) g13_5 x (injK fx13 o13_5 some) := by kernel_rfl
theorem s13_5_ok : SubOk P Go.Proofs.Try.f13.ntmps fx13 (Code.at [true, true, true, false, true, false, false] c13) ⟨g13_5, o13_5, b13_5⟩ :=
  sub_ok (g := g13_5) (outs := o13_5) (f := b13_5) (Table.ok T7_ok _) hmix (planAt_ok (P := P) (n := Go.Proofs.Try.f13.ntmps) (fx := fx13) (any := true) (c := (Code.at [true, true, true, false, true, false, false] c13)) (d := 64) (l := []) trivial) b13_5_eq
abbrev g13_3 : Sg := ⟨[1, 3], [.lf (.ptr 0 0), .lf .bool], [some (.box true [.lf (.int .i64), .lf (.int .i64), .lf (.int .i64), .lf (.int .i64)])]⟩
abbrev o13_3 : Outs := [(.normal, ⟨[1, 3, 22], [.lf (.ptr 0 0), .lf .bool, .lf .bool], [some (.box true [.lf (.int .i64), .lf (.int .i64), .lf (.int .i64), .lf (.int .i64)])]⟩)]
noncomputable def b13_3 (x : g13_3.D) : Option (outD o13_3) :=
  (if ((x.2.1 == (1 : Int)) = true) then (some (Sum.inl (x.1, (true, (x.2.1, (x.2.2.1, (x.2.2.2.1, (x.2.2.2.2.1, Unit.unit))))))))
   else (some (Sum.inl (x.1, ((x.2.1 == (2 : Int)), (x.2.1, (x.2.2.1, (x.2.2.2.1, (x.2.2.2.2.1, Unit.unit)))))))))
theorem b13_3_eq (x : g13_3.D) : b13_3 x = evF P (T7.orc _) Go.Proofs.Try.f13.ntmps fx13 (Code.at [true, true, false, false, false] c13) (planAt 64 []) g13_3 x (injK fx13 o13_3 some) := by kernel_rfl
theorem s13_3_ok : SubOk P Go.Proofs.Try.f13.ntmps fx13 (Code.at [true, true, false, false, false] c13) ⟨g13_3, o13_3, b13_3⟩ :=
  sub_ok (g := g13_3) (outs := o13_3) (f := b13_3) (Table.ok T7_ok _) hmix (planAt_ok (P := P) (n := Go.Proofs.Try.f13.ntmps) (fx := fx13) (any := true) (c := (Code.at [true, true, false, false, false] c13)) (d := 64) (l := []) trivial) b13_3_eq
abbrev g13_2 : Sg := ⟨[1, 3], [.lf (.ptr 0 0), .lf .bool], [some (.box true [.lf (.int .i64), .lf (.int .i64), .lf (.int .i64), .lf (.int .i64)])]⟩
abbrev o13_2 : Outs := [(.normal, ⟨[1, 3], [.lf (.ptr 0 0), .lf .bool], [some (.box true [.lf (.int .i64), .lf (.int .i64), .lf (.int .i64), .lf (.int .i64)])]⟩)]
noncomputable def b13_2 (x : g13_2.D) : Option (outD o13_2) :=
  (Option.bind (Go.Ev.Pre.b13_3 (x.1, (x.2.1, (x.2.2.1, (x.2.2.2.1, (x.2.2.2.2.1, Unit.unit)))))) (Sum.elim (fun y1 => (if (y1.2.1 = true) then (some (Sum.inl (y1.1, (y1.2.2.1, (y1.2.2.2.1, (y1.2.2.2.2.1, (y1.2.2.2.2.2.1, Unit.unit)))))))
   else (Option.bind (Go.Ev.Pre.b13_4 (y1.1, (y1.2.2.1, (y1.2.2.2.1, (y1.2.2.2.2.1, (y1.2.2.2.2.2.1, Unit.unit)))))) (Sum.elim (fun y2 => (if (y2.2.1 = true) then (some (Sum.inl (false, (y2.2.2.1, (y2.2.2.2.1, (y2.2.2.2.2.1, (y2.2.2.2.2.2.1, Unit.unit)))))))
   else (some (Sum.inl (y2.1, (y2.2.2.1, (y2.2.2.2.1, (y2.2.2.2.2.1, (y2.2.2.2.2.2.1, Unit.unit))))))))) Empty.elim)))) Empty.elim))
theorem b13_2_eq (x : g13_2.D) : b13_2 x = evF P (T7.orc _) Go.Proofs.Try.f13.ntmps fx13 (Code.at [true, true, false] c13) (planAt 64 [([false, false], ⟨g13_3, o13_3, b13_3⟩), ([false, true, true, false], ⟨g13_4, o13_4, b13_4⟩)]) g13_2 x (injK fx13 o13_2 some) := by kernel_rfl
theorem p13_2 : AllSub P Go.Proofs.Try.f13.ntmps fx13 true (Code.at [true, true, false] c13) [([false, false], ⟨g13_3, o13_3, b13_3⟩), ([false, true, true, false], ⟨g13_4, o13_4, b13_4⟩)] := And.intro s13_3_ok (And.intro s13_4_ok (trivial))
theorem q13_2 : PlanOk P Go.Proofs.Try.f13.ntmps fx13 true (planAt 64 [([false, false], ⟨g13_3, o13_3, b13_3⟩), ([false, true, true, false], ⟨g13_4, o13_4, b13_4⟩)]) (Code.at [true, true, false] c13) := planAt_ok p13_2
theorem s13_2_ok : SubOk P Go.Proofs.Try.f13.ntmps fx13 (Code.at [true, true, false] c13) ⟨g13_2, o13_2, b13_2⟩ :=
  sub_ok (g := g13_2) (outs := o13_2) (f := b13_2) (Table.ok T7_ok _) hmix (q13_2) b13_2_eq
abbrev g13_1 : Sg := ⟨[1], [.lf (.ptr 0 0)], [some (.box true [.lf (.int .i64), .lf (.int .i64), .lf (.int .i64), .lf (.int .i64)])]⟩
abbrev o13_1 : Outs := [(.normal, ⟨[1, 3], [.lf (.ptr 0 0), .lf .bool], [some (.box true [.lf (.int .i64), .lf (.int .i64), .lf (.int .i64), .lf (.int .i64)])]⟩)]
noncomputable def b13_1 (x : g13_1.D) : Option (outD o13_1) :=
  (if ((decide (x.2.1 ≥ (1 : Int))) = true) then (if ((decide (x.2.1 ≤ (32 : Int))) = true) then (if ((decide (x.2.2.2.1 ≥ (1 : Int))) = true) then (some (Sum.inl ((decide (x.2.2.2.1 ≤ (65536 : Int))), (x.1, (x.2.1, (x.2.2.1, (x.2.2.2.1, Unit.unit)))))))
   else (some (Sum.inl (false, (x.1, (x.2.1, (x.2.2.1, (x.2.2.2.1, Unit.unit))))))))
   else (some (Sum.inl (false, (x.1, (x.2.1, (x.2.2.1, (x.2.2.2.1, Unit.unit))))))))
   else (some (Sum.inl (false, (x.1, (x.2.1, (x.2.2.1, (x.2.2.2.1, Unit.unit))))))))
theorem b13_1_eq (x : g13_1.D) : b13_1 x = evF P (T7.orc _) Go.Proofs.Try.f13.ntmps fx13 (Code.at [true, false] c13) (planAt 64 []) g13_1 x (injK fx13 o13_1 some) := by kernel_rfl
theorem s13_1_ok : SubOk P Go.Proofs.Try.f13.ntmps fx13 (Code.at [true, false] c13) ⟨g13_1, o13_1, b13_1⟩ :=
  sub_ok (g := g13_1) (outs := o13_1) (f := b13_1) (Table.ok T7_ok _) hmix (planAt_ok (P := P) (n := Go.Proofs.Try.f13.ntmps) (fx := fx13) (any := true) (c := (Code.at [true, false] c13)) (d := 64) (l := []) trivial) b13_1_eq
noncomputable def f13 (x : gi13.D) : Option go13.D :=
  (Option.bind (Go.Ev.Pre.b13_1 (x.1, (x.2.1, (x.2.2.1, (x.2.2.2.1, Unit.unit))))) (Sum.elim (fun y1 => (Option.bind (Go.Ev.Pre.b13_2 (y1.1, (y1.2.1, (y1.2.2.1, (y1.2.2.2.1, (y1.2.2.2.2.1, Unit.unit)))))) (Sum.elim (fun y2 => (Option.bind (Go.Ev.Pre.b13_5 (y2.1, (y2.2.2.2.1, (y2.2.1, (y2.2.2.1, (y2.2.2.2.1, (y2.2.2.2.2.1, Unit.unit))))))) (Sum.elim (fun y3 => (if (y3.2.1 = true) then (if ((Bool.not y3.1) = true) then (some ((1 : Int), Unit.unit))
   else (if ((y3.2.2.1 == (2 : Int)) = true) then (if ((y3.2.2.2.2.1 != (8 : Int)) = true) then (some ((9 : Int), Unit.unit))
   else (some ((0 : Int), Unit.unit)))
   else (some ((0 : Int), Unit.unit))))
   else (some ((1 : Int), Unit.unit)))) Empty.elim))) Empty.elim))) Empty.elim))
theorem f13_eq (x : gi13.D) : f13 x = evF P (T7.orc _) Go.Proofs.Try.f13.ntmps fx13 c13 (planAt 64 [([true, false], ⟨g13_1, o13_1, b13_1⟩), ([true, true, false], ⟨g13_2, o13_2, b13_2⟩), ([true, true, true, false, true, false, false], ⟨g13_5, o13_5, b13_5⟩)]) gi13 x (fnK fx13 [go13]) := by kernel_rfl
theorem pf13 : AllSub P Go.Proofs.Try.f13.ntmps fx13 true c13 [([true, false], ⟨g13_1, o13_1, b13_1⟩), ([true, true, false], ⟨g13_2, o13_2, b13_2⟩), ([true, true, true, false, true, false, false], ⟨g13_5, o13_5, b13_5⟩)] := And.intro s13_1_ok (And.intro s13_2_ok (And.intro s13_5_ok (trivial)))
theorem qf13 : PlanOk P Go.Proofs.Try.f13.ntmps fx13 true (planAt 64 [([true, false], ⟨g13_1, o13_1, b13_1⟩), ([true, true, false], ⟨g13_2, o13_2, b13_2⟩), ([true, true, true, false, true, false, false], ⟨g13_5, o13_5, b13_5⟩)]) c13 := planAt_ok pf13
theorem f13_ok : EntOk P 13 ⟨gi13, [go13], f13⟩ :=
  ent_ok (fn := Go.Proofs.Try.f13) (gi := gi13) (gos := [go13]) (f := f13) (c := c13) (fx := fx13) ⟨Go.Proofs.Try.func13, by kernel_rfl, rfl, by decide +kernel, rfl, rfl⟩ (by kernel_rfl) (Table.ok T7_ok _) hmix (qf13) f13_eq
noncomputable def T13 : Table := T7.add 13 [⟨gi13, [go13], f13⟩] []
theorem T13_ok : TableOk P T13 := Table.plus T7_ok (es := [⟨gi13, [go13], f13⟩]) ⟨f13_ok, trivial⟩ []

/-! ## 19: erasure/predict.bytes -/
noncomputable def c19 : Code := Func.code Go.Proofs.Try.f19
abbrev gi19 : Sg := ⟨[0], [.lf (.int .i64)], []⟩
abbrev go19 : Sg := ⟨[2], [.lf (.int .i64)], []⟩
def fx19 : List Bool := []
noncomputable def f19 (x : gi19.D) : Option go19.D :=
  (some ((Go.IntKind.wrap Go.IntKind.i64 (Int.tdiv (Go.IntKind.wrap Go.IntKind.i64 (x.1 + (7 : Int))) (8 : Int))), Unit.unit))
theorem f19_eq (x : gi19.D) : f19 x = evF P (T13.orc _) Go.Proofs.Try.f19.ntmps fx19 c19 (planAt 64 []) gi19 x (fnK fx19 [go19]) := by kernel_rfl
theorem f19_ok : EntOk P 19 ⟨gi19, [go19], f19⟩ :=
  ent_ok (fn := Go.Proofs.Try.f19) (gi := gi19) (gos := [go19]) (f := f19) (c := c19) (fx := fx19) ⟨Go.Proofs.Try.func19, by kernel_rfl, rfl, by decide +kernel, rfl, rfl⟩ (by kernel_rfl) (Table.ok T13_ok _) hmix (planAt_ok (P := P) (n := Go.Proofs.Try.f19.ntmps) (fx := fx19) (any := true) (c := c19) (d := 64) (l := []) trivial) f19_eq
noncomputable def T19 : Table := T13.add 19 [⟨gi19, [go19], f19⟩] []
theorem T19_ok : TableOk P T19 := Table.plus T13_ok (es := [⟨gi19, [go19], f19⟩]) ⟨f19_ok, trivial⟩ []

/-! ## 15: erasure/predict.Row -/
noncomputable def c15 : Code := Func.code Go.Proofs.Try.f15
abbrev gi15 : Sg := ⟨[0], [.agg [.lf (.int .i64), .lf (.int .i64), .lf (.int .i64), .lf (.int .i64)]], []⟩
abbrev go15 : Sg := ⟨[2], [.lf (.int .i64)], []⟩
def fx15 : List Bool := []
noncomputable def f15 (x : gi15.D) : Option go15.D :=
  (Option.bind (Go.Ev.Pre.f13 (x.1, (x.2.1, (x.2.2.1, (x.2.2.2.1, Unit.unit))))) (fun y1 => (if ((y1.1 == (1 : Int)) = true) then (some ((0 : Int), Unit.unit))
   else (Option.bind (Go.Ev.Pre.f19 ((Go.IntKind.wrap Go.IntKind.i64 ((Go.IntKind.wrap Go.IntKind.i64 (x.2.1 * x.2.2.1)) * x.2.2.2.1)), Unit.unit)) (fun y2 => (some (y2.1, Unit.unit)))))))
theorem f15_eq (x : gi15.D) : f15 x = evF P (T19.orc _) Go.Proofs.Try.f15.ntmps fx15 c15 (planAt 64 []) gi15 x (fnK fx15 [go15]) := by kernel_rfl
theorem f15_ok : EntOk P 15 ⟨gi15, [go15], f15⟩ :=
  ent_ok (fn := Go.Proofs.Try.f15) (gi := gi15) (gos := [go15]) (f := f15) (c := c15) (fx := fx15) ⟨Go.Proofs.Try.func15, by kernel_rfl, rfl, by decide +kernel, rfl, rfl⟩ (by kernel_rfl) (Table.ok T19_ok _) hmix (planAt_ok (P := P) (n := Go.Proofs.Try.f15.ntmps) (fx := fx15) (any := true) (c := c15) (d := 64) (l := []) trivial) f15_eq
noncomputable def T15 : Table := T19.add 15 [⟨gi15, [go15], f15⟩] []
theorem T15_ok : TableOk P T15 := Table.plus T19_ok (es := [⟨gi15, [go15], f15⟩]) ⟨f15_ok, trivial⟩ []

/-! ## 17: erasure/predict.ahead -/
noncomputable def c17 : Code := Func.code Go.Proofs.Try.f17
abbrev gi17 : Sg := ⟨[0, 1, 2], [.agg [.lf (.int .i64), .lf (.int .i64), .lf (.int .i64), .lf (.int .i64)], .lf (.sl (.int .u8)), .lf (.int .i64)], []⟩
abbrev go17 : Sg := ⟨[6], [.lf (.int .i64)], []⟩
def fx17 : List Bool := []
noncomputable def f17 (x : gi17.D) : Option go17.D :=
  (Option.bind (Go.Ev.Pre.f13 (x.1, (x.2.1, (x.2.2.1, (x.2.2.2.1, Unit.unit))))) (fun y1 => (if ((y1.1 != (0 : Int)) = true) then (some (y1.1, Unit.unit))
   else (if ((decide ((((List.length x.2.2.2.2.1) : Nat) : Int) > (1048576 : Int))) = true) then (some ((2 : Int), Unit.unit))
   else (if ((x.1 != (1 : Int)) = true) then (if (x.2.2.2.2.2.1 = (0 : Int)) then none
   else (if (((Int.tmod (((List.length x.2.2.2.2.1) : Nat) : Int) x.2.2.2.2.2.1) != (0 : Int)) = true) then (some ((4 : Int), Unit.unit))
   else (some ((0 : Int), Unit.unit))))
   else (some ((0 : Int), Unit.unit)))))))
theorem f17_eq (x : gi17.D) : f17 x = evF P (T15.orc _) Go.Proofs.Try.f17.ntmps fx17 c17 (planAt 64 []) gi17 x (fnK fx17 [go17]) := by kernel_rfl
theorem f17_ok : EntOk P 17 ⟨gi17, [go17], f17⟩ :=
  ent_ok (fn := Go.Proofs.Try.f17) (gi := gi17) (gos := [go17]) (f := f17) (c := c17) (fx := fx17) ⟨Go.Proofs.Try.func17, by kernel_rfl, rfl, by decide +kernel, rfl, rfl⟩ (by kernel_rfl) (Table.ok T15_ok _) hmix (planAt_ok (P := P) (n := Go.Proofs.Try.f17.ntmps) (fx := fx17) (any := true) (c := c17) (d := 64) (l := []) trivial) f17_eq
noncomputable def T17 : Table := T15.add 17 [⟨gi17, [go17], f17⟩] []
theorem T17_ok : TableOk P T17 := Table.plus T15_ok (es := [⟨gi17, [go17], f17⟩]) ⟨f17_ok, trivial⟩ []

/-! ## 18: slices.Clone[[]byte,byte] -/
noncomputable def c18 : Code := Func.code Go.Proofs.Try.f18
abbrev gi18 : Sg := ⟨[0], [.lf (.sl (.int .u8))], []⟩
abbrev go18 : Sg := ⟨[2], [.lf (.gr (.int .u8) 0)], [some (.arr true (.int .u8))]⟩
def fx18 : List Bool := []
noncomputable def f18 (x : gi18.D) : Option go18.D :=
  (if ((List.length x.1) = (0 : Nat)) then (Go.Ev.amb (Go.Ev.Orc.eq (Go.Ev.Table.orcE Go.Ev.Pre.T17 (Go.Ev.Sg.D Go.Ev.Pre.go18) (Go.Ev.Sg.eq Go.Ev.Pre.go18) (Go.Ev.Sg.eq_eq Go.Ev.Pre.go18))) (some ([], Unit.unit)) (if (((0 : Nat) + (List.length x.1)) ≤ (140737488355328 : Nat)) then (if ((List.length ((List.take (0 : Nat) (List.drop (0 : Nat) (List.replicate (0 : Nat) (0 : Int)))) ++ x.1)) = (List.length ((List.take (0 : Nat) (List.drop (0 : Nat) (List.replicate (0 : Nat) (0 : Int)))) ++ x.1))) then (some (((List.take (0 : Nat) (List.drop (0 : Nat) (List.replicate (0 : Nat) (0 : Int)))) ++ x.1), Unit.unit))
   else none)
   else none))
   else (if (((0 : Nat) + (List.length x.1)) ≤ (140737488355328 : Nat)) then (if ((List.length ((List.take (0 : Nat) (List.drop (0 : Nat) (List.replicate (0 : Nat) (0 : Int)))) ++ x.1)) = (List.length ((List.take (0 : Nat) (List.drop (0 : Nat) (List.replicate (0 : Nat) (0 : Int)))) ++ x.1))) then (some (((List.take (0 : Nat) (List.drop (0 : Nat) (List.replicate (0 : Nat) (0 : Int)))) ++ x.1), Unit.unit))
   else none)
   else none))
theorem f18_eq (x : gi18.D) : f18 x = evF P (T17.orcE go18.D go18.eq go18.eq_eq) Go.Proofs.Try.f18.ntmps fx18 c18 (planAt 64 []) gi18 x (fnK fx18 [go18]) := by kernel_rfl
theorem f18_ok : EntOk P 18 ⟨gi18, [go18], f18⟩ :=
  ent_ok (fn := Go.Proofs.Try.f18) (gi := gi18) (gos := [go18]) (f := f18) (c := c18) (fx := fx18) ⟨Go.Proofs.Try.func18, by kernel_rfl, rfl, by decide +kernel, rfl, rfl⟩ (by kernel_rfl) (Table.okE T17_ok _ _ _) hmix (planAt_ok (P := P) (n := Go.Proofs.Try.f18.ntmps) (fx := fx18) (any := true) (c := c18) (d := 64) (l := []) trivial) f18_eq
noncomputable def T18 : Table := T17.add 18 [⟨gi18, [go18], f18⟩] []
theorem T18_ok : TableOk P T18 := Table.plus T17_ok (es := [⟨gi18, [go18], f18⟩]) ⟨f18_ok, trivial⟩ []

/-! ## 20: slices.Chunk[[]byte,byte] -/
noncomputable def c20 : Code := Func.code Go.Proofs.Try.f20
abbrev gi20 : Sg := ⟨[0, 1], [.lf (.sl (.int .u8)), .lf (.int .i64)], []⟩
abbrev go20 : Sg := ⟨[4], [.lf (.fnc 27 [(.ptr 0 0), (.ptr 1 0)])], [some (.box true [.lf (.sl (.int .u8))]), some (.box true [.lf (.int .i64)])]⟩
def fx20 : List Bool := []
noncomputable def f20 (x : gi20.D) : Option go20.D :=
  (if ((decide (x.2.1 < (1 : Int))) = true) then none
   else (some (x.1, (x.2.1, Unit.unit))))
theorem f20_eq (x : gi20.D) : f20 x = evF P (T18.orc _) Go.Proofs.Try.f20.ntmps fx20 c20 (planAt 64 []) gi20 x (fnK fx20 [go20]) := by kernel_rfl
theorem f20_ok : EntOk P 20 ⟨gi20, [go20], f20⟩ :=
  ent_ok (fn := Go.Proofs.Try.f20) (gi := gi20) (gos := [go20]) (f := f20) (c := c20) (fx := fx20) ⟨Go.Proofs.Try.func20, by kernel_rfl, rfl, by decide +kernel, rfl, rfl⟩ (by kernel_rfl) (Table.ok T18_ok _) hmix (planAt_ok (P := P) (n := Go.Proofs.Try.f20.ntmps) (fx := fx20) (any := true) (c := c20) (d := 64) (l := []) trivial) f20_eq
noncomputable def T20 : Table := T18.add 20 [⟨gi20, [go20], f20⟩] []
theorem T20_ok : TableOk P T20 := Table.plus T18_ok (es := [⟨gi20, [go20], f20⟩]) ⟨f20_ok, trivial⟩ []

/-! ## 22: erasure/predict.at -/
noncomputable def c22 : Code := Func.code Go.Proofs.Try.f22
abbrev gi22 : Sg := ⟨[0, 1], [.lf (.sl (.int .u8)), .lf (.int .i64)], []⟩
abbrev go22 : Sg := ⟨[4], [.lf (.int .i64)], []⟩
def fx22 : List Bool := []
noncomputable def f22 (x : gi22.D) : Option go22.D :=
  (if ((decide (x.2.1 < (0 : Int))) = true) then (some ((0 : Int), Unit.unit))
   else (if ((decide (x.2.1 ≥ (((List.length x.1) : Nat) : Int))) = true) then (some ((0 : Int), Unit.unit))
   else (if ((0 : Int) ≤ x.2.1) then (if (x.2.1 < (((List.length x.1) : Nat) : Int)) then (some ((Go.IntKind.wrap Go.IntKind.i64 (List.getD x.1 (Int.toNat x.2.1) (0 : Int))), Unit.unit))
   else none)
   else none)))
theorem f22_eq (x : gi22.D) : f22 x = evF P (T20.orc _) Go.Proofs.Try.f22.ntmps fx22 c22 (planAt 64 []) gi22 x (fnK fx22 [go22]) := by kernel_rfl
theorem f22_ok : EntOk P 22 ⟨gi22, [go22], f22⟩ :=
  ent_ok (fn := Go.Proofs.Try.f22) (gi := gi22) (gos := [go22]) (f := f22) (c := c22) (fx := fx22) ⟨Go.Proofs.Try.func22, by kernel_rfl, rfl, by decide +kernel, rfl, rfl⟩ (by kernel_rfl) (Table.ok T20_ok _) hmix (planAt_ok (P := P) (n := Go.Proofs.Try.f22.ntmps) (fx := fx22) (any := true) (c := c22) (d := 64) (l := []) trivial) f22_eq
noncomputable def T22 : Table := T20.add 22 [⟨gi22, [go22], f22⟩] []
theorem T22_ok : TableOk P T22 := Table.plus T20_ok (es := [⟨gi22, [go22], f22⟩]) ⟨f22_ok, trivial⟩ []

/-! ## 28: erasure/predict.far -/
noncomputable def c28 : Code := Func.code Go.Proofs.Try.f28
abbrev gi28 : Sg := ⟨[0, 1], [.lf (.int .i64), .lf (.int .i64)], []⟩
abbrev go28 : Sg := ⟨[4], [.lf (.int .i64)], []⟩
def fx28 : List Bool := []
noncomputable def f28 (x : gi28.D) : Option go28.D :=
  (some ((Max.max (Go.IntKind.wrap Go.IntKind.i64 (x.1 - x.2.1)) (Go.IntKind.wrap Go.IntKind.i64 (x.2.1 - x.1))), Unit.unit))
theorem f28_eq (x : gi28.D) : f28 x = evF P (T22.orc _) Go.Proofs.Try.f28.ntmps fx28 c28 (planAt 64 []) gi28 x (fnK fx28 [go28]) := by kernel_rfl
theorem f28_ok : EntOk P 28 ⟨gi28, [go28], f28⟩ :=
  ent_ok (fn := Go.Proofs.Try.f28) (gi := gi28) (gos := [go28]) (f := f28) (c := c28) (fx := fx28) ⟨Go.Proofs.Try.func28, by kernel_rfl, rfl, by decide +kernel, rfl, rfl⟩ (by kernel_rfl) (Table.ok T22_ok _) hmix (planAt_ok (P := P) (n := Go.Proofs.Try.f28.ntmps) (fx := fx28) (any := true) (c := c28) (d := 64) (l := []) trivial) f28_eq
noncomputable def T28 : Table := T22.add 28 [⟨gi28, [go28], f28⟩] []
theorem T28_ok : TableOk P T28 := Table.plus T22_ok (es := [⟨gi28, [go28], f28⟩]) ⟨f28_ok, trivial⟩ []

/-! ## 21: erasure/predict.tells -/
noncomputable def c21 : Code := Func.code Go.Proofs.Try.f21
abbrev gi21 : Sg := ⟨[0, 1, 2, 3], [.lf (.int .i64), .lf (.int .i64), .lf (.int .i64), .lf (.int .i64)], []⟩
abbrev go21 : Sg := ⟨[8], [.lf (.int .i64)], []⟩
def fx21 : List Bool := []
noncomputable def f21 (x : gi21.D) : Option go21.D :=
  (if ((x.1 == (4 : Int)) = true) then (Option.bind (Go.Ev.Pre.f28 ((Go.IntKind.wrap Go.IntKind.i64 ((Go.IntKind.wrap Go.IntKind.i64 (x.2.1 + x.2.2.1)) - x.2.2.2.1)), (x.2.1, Unit.unit))) (fun y1 => (Option.bind (Go.Ev.Pre.f28 ((Go.IntKind.wrap Go.IntKind.i64 ((Go.IntKind.wrap Go.IntKind.i64 (x.2.1 + x.2.2.1)) - x.2.2.2.1)), (x.2.2.1, Unit.unit))) (fun y2 => (Option.bind (Go.Ev.Pre.f28 ((Go.IntKind.wrap Go.IntKind.i64 ((Go.IntKind.wrap Go.IntKind.i64 (x.2.1 + x.2.2.1)) - x.2.2.2.1)), (x.2.2.2.1, Unit.unit))) (fun y3 => (if ((decide (y1.1 ≤ (Min.min y2.1 y3.1))) = true) then (some (x.2.1, Unit.unit))
   else (Option.bind (Go.Ev.Pre.f28 ((Go.IntKind.wrap Go.IntKind.i64 ((Go.IntKind.wrap Go.IntKind.i64 (x.2.1 + x.2.2.1)) - x.2.2.2.1)), (x.2.2.1, Unit.unit))) (fun y4 => (Option.bind (Go.Ev.Pre.f28 ((Go.IntKind.wrap Go.IntKind.i64 ((Go.IntKind.wrap Go.IntKind.i64 (x.2.1 + x.2.2.1)) - x.2.2.2.1)), (x.2.2.2.1, Unit.unit))) (fun y5 => (if ((decide (y4.1 > y5.1)) = true) then (some (x.2.2.2.1, Unit.unit))
   else (some (x.2.2.1, Unit.unit))))))))))))))
   else (if ((x.1 == (2 : Int)) = true) then (some (x.2.2.1, Unit.unit))
   else (if ((x.1 == (3 : Int)) = true) then (some ((Go.IntKind.wrap Go.IntKind.i64 (Int.tdiv (Go.IntKind.wrap Go.IntKind.i64 (x.2.1 + x.2.2.1)) (2 : Int))), Unit.unit))
   else (if ((x.1 == (1 : Int)) = true) then (some (x.2.1, Unit.unit))
   else (some ((0 : Int), Unit.unit))))))
theorem f21_eq (x : gi21.D) : f21 x = evF P (T28.orc _) Go.Proofs.Try.f21.ntmps fx21 c21 (planAt 64 []) gi21 x (fnK fx21 [go21]) := by kernel_rfl
theorem f21_ok : EntOk P 21 ⟨gi21, [go21], f21⟩ :=
  ent_ok (fn := Go.Proofs.Try.f21) (gi := gi21) (gos := [go21]) (f := f21) (c := c21) (fx := fx21) ⟨Go.Proofs.Try.func21, by kernel_rfl, rfl, by decide +kernel, rfl, rfl⟩ (by kernel_rfl) (Table.ok T28_ok _) hmix (planAt_ok (P := P) (n := Go.Proofs.Try.f21.ntmps) (fx := fx21) (any := true) (c := c21) (d := 64) (l := []) trivial) f21_eq
noncomputable def T21 : Table := T28.add 21 [⟨gi21, [go21], f21⟩] []
theorem T21_ok : TableOk P T21 := Table.plus T28_ok (es := [⟨gi21, [go21], f21⟩]) ⟨f21_ok, trivial⟩ []

/-! ## 8: erasure/predict.Undo -/
noncomputable def c8 : Code := Func.code Go.Proofs.Try.f8
abbrev gi8 : Sg := ⟨[0, 1], [.agg [.lf (.int .i64), .lf (.int .i64), .lf (.int .i64), .lf (.int .i64)], .lf (.sl (.int .u8))], []⟩
abbrev go8 : Sg := ⟨[0, 0], [.lf (.gr (.int .u8) 0), .lf (.int .i64)], [some (.arr true (.int .u8))]⟩
def fx8 : List Bool := []
def fy8_2 : List Bool := [true, true, true, true, true, true, true, false, false, false, false, false]
abbrev g8_4 : Sg := ⟨[9, 10, 11, 13, 14, 61, 62, 63], [.lf (.ptr 4 0), .lf (.ptr 5 0), .lf (.ptr 6 0), .lf (.int .i64), .lf (.gr (.int .u8) 12), .lf (.sl (.int .u8)), .lf (.int .i64), .lf (.int .i64)], [some (.box true [.lf (.gr (.int .u8) 13)]), some (.box true [.lf (.int .i64)]), some (.box true [.lf (.int .i64)]), some (.box true [.lf (.int .i64)]), some (.box true [.lf (.int .i64)]), some (.box true [.lf (.gr (.int .u8) 14)]), some (.box true [.lf (.gr (.int .u8) 15)]), none, none, none, none, none, some (.arr true (.int .u8)), some (.arr true (.int .u8)), some (.arr true (.int .u8)), some (.arr true (.int .u8))]⟩
abbrev o8_4 : Outs := [(.exit 2, ⟨[10, 11, 14], [.lf (.ptr 5 0), .lf (.ptr 6 0), .lf (.gr (.int .u8) 12)], [some (.box true [.lf (.gr (.int .u8) 13)]), some (.box true [.lf (.int .i64)]), some (.box true [.lf (.int .i64)]), some (.box true [.lf (.int .i64)]), some (.box true [.lf (.int .i64)]), some (.box true [.lf (.gr (.int .u8) 14)]), some (.box true [.lf (.gr (.int .u8) 15)]), none, none, none, none, none, some (.arr true (.int .u8)), some (.arr true (.int .u8)), some (.arr true (.int .u8)), some (.arr true (.int .u8))]⟩)]
noncomputable def b8_4 (x : g8_4.D) : Option (outD ((.normal, g8_4) :: o8_4)) :=
  (if ((decide (x.2.2.2.1 < x.2.2.1)) = true) then (if ((0 : Int) ≤ x.2.2.2.1) then (if (x.2.2.2.1 < (((List.length x.2.1) : Nat) : Int)) then (Option.bind (Go.Ev.Pre.f22 ((List.take (List.length x.2.2.2.2.2.2.2.2.1) (List.drop (0 : Nat) x.2.2.2.2.2.2.2.2.1)), ((Go.IntKind.wrap Go.IntKind.i64 (x.2.2.2.1 - x.2.2.2.2.2.2.2.1)), Unit.unit))) (fun y1 => (Option.bind (Go.Ev.Pre.f22 ((List.take (List.length x.2.2.2.2.2.2.2.2.2.2.2.1) (List.drop (0 : Nat) x.2.2.2.2.2.2.2.2.2.2.2.1)), (x.2.2.2.1, Unit.unit))) (fun y2 => (Option.bind (Go.Ev.Pre.f22 ((List.take (List.length x.2.2.2.2.2.2.2.2.2.2.2.1) (List.drop (0 : Nat) x.2.2.2.2.2.2.2.2.2.2.2.1)), ((Go.IntKind.wrap Go.IntKind.i64 (x.2.2.2.1 - x.2.2.2.2.2.2.2.1)), Unit.unit))) (fun y3 => (Option.bind (Go.Ev.Pre.f21 (x.1, (y1.1, (y2.1, (y3.1, Unit.unit))))) (fun y4 => (if (((List.length (List.take (List.length x.2.2.2.2.2.2.2.2.1) (List.drop (0 : Nat) x.2.2.2.2.2.2.2.2.1))) + (List.length (List.take (1 : Nat) (List.drop (0 : Nat) (List.set (List.replicate (1 : Nat) (0 : Int)) (0 : Nat) (Go.IntKind.wrap Go.IntKind.u8 ((List.getD x.2.1 (Int.toNat x.2.2.2.1) (0 : Int)) + (Go.IntKind.wrap Go.IntKind.u8 y4.1)))))))) ≤ (140737488355328 : Nat)) then (if ((List.length ((List.take (List.length x.2.2.2.2.2.2.2.2.1) (List.drop (0 : Nat) x.2.2.2.2.2.2.2.2.1)) ++ (List.take (1 : Nat) (List.drop (0 : Nat) (List.set (List.replicate (1 : Nat) (0 : Int)) (0 : Nat) (Go.IntKind.wrap Go.IntKind.u8 ((List.getD x.2.1 (Int.toNat x.2.2.2.1) (0 : Int)) + (Go.IntKind.wrap Go.IntKind.u8 y4.1)))))))) = (List.length ((List.take (List.length x.2.2.2.2.2.2.2.2.1) (List.drop (0 : Nat) x.2.2.2.2.2.2.2.2.1)) ++ (List.take (1 : Nat) (List.drop (0 : Nat) (List.set (List.replicate (1 : Nat) (0 : Int)) (0 : Nat) (Go.IntKind.wrap Go.IntKind.u8 ((List.getD x.2.1 (Int.toNat x.2.2.2.1) (0 : Int)) + (Go.IntKind.wrap Go.IntKind.u8 y4.1))))))))) then (if ((List.length x.2.2.2.2.2.2.2.2.2.1) = (List.length x.2.2.2.2.2.2.2.2.2.1)) then (if ((List.length x.2.2.2.2.2.2.2.2.2.2.1) = (List.length x.2.2.2.2.2.2.2.2.2.2.1)) then (if ((List.length x.2.2.2.2.2.2.2.2.2.2.2.1) = (List.length x.2.2.2.2.2.2.2.2.2.2.2.1)) then (some (Sum.inl (x.1, (x.2.1, (x.2.2.1, ((Go.IntKind.wrap Go.IntKind.i64 (x.2.2.2.1 + (1 : Int))), (x.2.2.2.2.1, (x.2.2.2.2.2.1, (x.2.2.2.2.2.2.1, (x.2.2.2.2.2.2.2.1, (((List.take (List.length x.2.2.2.2.2.2.2.2.1) (List.drop (0 : Nat) x.2.2.2.2.2.2.2.2.1)) ++ (List.take (1 : Nat) (List.drop (0 : Nat) (List.set (List.replicate (1 : Nat) (0 : Int)) (0 : Nat) (Go.IntKind.wrap Go.IntKind.u8 ((List.getD x.2.1 (Int.toNat x.2.2.2.1) (0 : Int)) + (Go.IntKind.wrap Go.IntKind.u8 y4.1))))))), (x.2.2.2.2.2.2.2.2.2.1, (x.2.2.2.2.2.2.2.2.2.2.1, (x.2.2.2.2.2.2.2.2.2.2.2.1, Unit.unit))))))))))))))
   else none)
   else none)
   else none)
   else none)
   else none)))))))))
   else none)
   else none)
   else (if ((List.length x.2.2.2.2.2.2.2.2.1) = (List.length x.2.2.2.2.2.2.2.2.1)) then (if ((List.length x.2.2.2.2.2.2.2.2.2.1) = (List.length x.2.2.2.2.2.2.2.2.2.1)) then (if ((List.length x.2.2.2.2.2.2.2.2.2.2.1) = (List.length x.2.2.2.2.2.2.2.2.2.2.1)) then (if ((List.length x.2.2.2.2.2.2.2.2.2.2.2.1) = (List.length x.2.2.2.2.2.2.2.2.2.2.2.1)) then (some (Sum.inr (Sum.inl (x.2.2.2.2.1, (x.2.2.2.2.2.1, (x.2.2.2.2.2.2.1, (x.2.2.2.2.2.2.2.1, (x.2.2.2.2.2.2.2.2.1, (x.2.2.2.2.2.2.2.2.2.1, (x.2.2.2.2.2.2.2.2.2.2.1, (x.2.2.2.2.2.2.2.2.2.2.2.1, Unit.unit)))))))))))
   else none)
   else none)
   else none)
   else none))
theorem b8_4_eq (x : g8_4.D) : b8_4 x = evF P (T21.orc _) Go.Proofs.Try.f8.ntmps fy8_2 (Code.at [true, true, true, true, true, true, true, false, true, false, false, false, true, true, true, true, false, true, false, false] c8) (planAt 64 []) g8_4 x (injK fy8_2 ((.normal, g8_4) :: o8_4) some) := by kernel_rfl
noncomputable def l8_4 : g8_4.D → Option (outD o8_4) := loopN g8_4 o8_4 b8_4 18446744073709551616
theorem at8_4 : Code.at [true, true, true, true, true, true, true, false, true, false, false, false, true, true, true, true, false, true, false] c8 = .loop (Code.at [true, true, true, true, true, true, true, false, true, false, false, false, true, true, true, true, false, true, false, false] c8) := by kernel_rfl
theorem s8_4_ok : SubOk P Go.Proofs.Try.f8.ntmps fy8_2 (Code.at [true, true, true, true, true, true, true, false, true, false, false, false, true, true, true, true, false, true, false] c8) ⟨g8_4, o8_4, l8_4⟩ true := by
  rw [at8_4]
  exact loop_ok (sub_ok (g := g8_4) (outs := ((.normal, g8_4) :: o8_4)) (f := b8_4) (Table.ok T21_ok _) hmix (planAt_ok (P := P) (n := Go.Proofs.Try.f8.ntmps) (fx := fy8_2) (any := true) (c := (Code.at [true, true, true, true, true, true, true, false, true, false, false, false, true, true, true, true, false, true, false, false] c8)) (d := 64) (l := []) trivial) b8_4_eq) rfl _
abbrev g8_3 : Sg := ⟨[4, 5, 6, 7, 9, 10, 11, 12, 13], [.lf (.ptr 0 0), .lf (.ptr 1 0), .lf (.ptr 2 0), .lf (.ptr 3 0), .lf (.ptr 4 0), .lf (.ptr 5 0), .lf (.ptr 6 0), .lf (.sl (.int .u8)), .lf (.int .i64)], [some (.box true [.lf (.gr (.int .u8) 12)]), some (.box true [.lf (.int .i64)]), some (.box true [.lf (.int .i64)]), some (.box true [.lf (.int .i64)]), some (.box true [.lf (.int .i64)]), some (.box true [.lf (.gr (.int .u8) 13)]), some (.box true [.lf (.gr (.int .u8) 14)]), none, none, none, none, none, some (.arr true (.int .u8)), some (.arr true (.int .u8)), some (.arr true (.int .u8))]⟩
abbrev o8_3 : Outs := [(.normal, ⟨[4, 5, 6, 7, 9, 10, 11, 12, 13], [.lf (.ptr 0 0), .lf (.ptr 1 0), .lf (.ptr 2 0), .lf (.ptr 3 0), .lf (.ptr 4 0), .lf (.ptr 5 0), .lf (.ptr 6 0), .lf (.sl (.int .u8)), .lf (.int .i64)], [some (.box true [.lf (.gr (.int .u8) 12)]), some (.box true [.lf (.int .i64)]), some (.box true [.lf (.int .i64)]), some (.box true [.lf (.int .i64)]), some (.box true [.lf (.int .i64)]), some (.box true [.lf (.gr (.int .u8) 13)]), some (.box true [.lf (.gr (.int .u8) 14)]), none, none, none, none, none, some (.arr true (.int .u8)), some (.arr true (.int .u8)), some (.arr true (.int .u8))]⟩)]
noncomputable def b8_3 (x : g8_3.D) : Option (outD o8_3) :=
  (if ((x.2.2.2.2.1 == (1 : Int)) = true) then (if ((0 : Int) < (((List.length x.1) : Nat) : Int)) then (if ((List.length x.2.2.2.2.2.2.1) = (List.length x.2.2.2.2.2.2.1)) then (if ((List.length x.2.2.2.2.2.2.2.1) = (List.length x.2.2.2.2.2.2.2.1)) then (if ((List.length x.2.2.2.2.2.2.2.2.1) = (List.length x.2.2.2.2.2.2.2.2.1)) then (some (Sum.inl (x.1, ((Go.IntKind.wrap Go.IntKind.i64 (List.getD x.1 (0 : Nat) (0 : Int))), (x.2.2.1, (x.2.2.2.1, (x.2.2.2.2.1, (x.2.2.2.2.2.1, (x.2.2.2.2.2.2.1, (x.2.2.2.2.2.2.2.1, (x.2.2.2.2.2.2.2.2.1, Unit.unit)))))))))))
   else none)
   else none)
   else none)
   else none)
   else (if ((List.length x.2.2.2.2.2.2.1) = (List.length x.2.2.2.2.2.2.1)) then (if ((List.length x.2.2.2.2.2.2.2.1) = (List.length x.2.2.2.2.2.2.2.1)) then (if ((List.length x.2.2.2.2.2.2.2.2.1) = (List.length x.2.2.2.2.2.2.2.2.1)) then (some (Sum.inl (x.1, (x.2.1, (x.2.2.1, (x.2.2.2.1, (x.2.2.2.2.1, (x.2.2.2.2.2.1, (x.2.2.2.2.2.2.1, (x.2.2.2.2.2.2.2.1, (x.2.2.2.2.2.2.2.2.1, Unit.unit)))))))))))
   else none)
   else none)
   else none))
theorem b8_3_eq (x : g8_3.D) : b8_3 x = evF P (T21.orc _) Go.Proofs.Try.f8.ntmps fy8_2 (Code.at [true, true, true, true, true, true, true, false, true, false, false, false, true, false] c8) (planAt 64 []) g8_3 x (injK fy8_2 o8_3 some) := by kernel_rfl
theorem s8_3_ok : SubOk P Go.Proofs.Try.f8.ntmps fy8_2 (Code.at [true, true, true, true, true, true, true, false, true, false, false, false, true, false] c8) ⟨g8_3, o8_3, b8_3⟩ true :=
  sub_ok (g := g8_3) (outs := o8_3) (f := b8_3) (Table.ok T21_ok _) hmix (planAt_ok (P := P) (n := Go.Proofs.Try.f8.ntmps) (fx := fy8_2) (any := true) (c := (Code.at [true, true, true, true, true, true, true, false, true, false, false, false, true, false] c8)) (d := 64) (l := []) trivial) b8_3_eq
abbrev g8_2 : Sg := ⟨[4, 5, 6, 7, 9, 10, 11, 47], [.lf (.ptr 0 0), .lf (.ptr 1 0), .lf (.ptr 2 0), .lf (.ptr 3 0), .lf (.ptr 4 0), .lf (.ptr 5 0), .lf (.ptr 6 0), .lf (.fnc 27 [(.ptr 10 0), (.ptr 11 0)])], [some (.box true [.lf (.gr (.int .u8) 7)]), some (.box true [.lf (.int .i64)]), some (.box true [.lf (.int .i64)]), some (.box true [.lf (.int .i64)]), some (.box true [.lf (.int .i64)]), some (.box true [.lf (.gr (.int .u8) 8)]), some (.box true [.lf (.gr (.int .u8) 9)]), some (.arr true (.int .u8)), some (.arr true (.int .u8)), some (.arr true (.int .u8)), some (.box true [.lf (.sl (.int .u8))]), some (.box true [.lf (.int .i64)])]⟩
abbrev r8_2 : Sg := ⟨[4, 5, 6, 7, 9, 10, 11], [.lf (.ptr 0 0), .lf (.ptr 1 0), .lf (.ptr 2 0), .lf (.ptr 3 0), .lf (.ptr 4 0), .lf (.ptr 5 0), .lf (.ptr 6 0)], [some (.box true [.lf (.gr (.int .u8) 7)]), some (.box true [.lf (.int .i64)]), some (.box true [.lf (.int .i64)]), some (.box true [.lf (.int .i64)]), some (.box true [.lf (.int .i64)]), some (.box true [.lf (.gr (.int .u8) 8)]), some (.box true [.lf (.gr (.int .u8) 9)]), some (.arr true (.int .u8)), some (.arr true (.int .u8)), some (.arr true (.int .u8)), none, none]⟩
abbrev o8_2 : Outs := [(.ret, ⟨[4, 5], [.lf (.ptr 0 0), .lf (.ptr 1 0)], [some (.box true [.lf (.gr (.int .u8) 2)]), some (.box true [.lf (.int .i64)]), some (.arr true (.int .u8))]⟩)]
abbrev ow8_2 : Outs := (.normal, r8_2) :: o8_2
noncomputable def b8_2 (x : r8_2.D × List Int) : Option (outD ow8_2) :=
  (if ((List.length x.1.2.2.2.2.1) = (List.length x.1.2.2.2.2.1)) then (if ((List.length x.1.2.2.2.2.2.1) = (List.length x.1.2.2.2.2.2.1)) then (if ((List.length x.1.2.2.2.2.2.2.1) = (List.length x.1.2.2.2.2.2.2.1)) then (Option.bind (Go.Ev.Pre.b8_3 (x.2, ((1 : Int), (x.1.1, (x.1.2.1, (x.1.2.2.1, (x.1.2.2.2.1, (x.1.2.2.2.2.1, (x.1.2.2.2.2.2.1, (x.1.2.2.2.2.2.2.1, Unit.unit)))))))))) (Sum.elim (fun y1 => (if ((decide (y1.2.1 > (4 : Int))) = true) then (some (Sum.inr (Sum.inl ((4 : Int), ([], Unit.unit)))))
   else (if ((0 : Int) ≤ y1.2.2.2.1) then (if (y1.2.2.2.1 ≤ (281474976710656 : Int)) then (if ((0 : Int) ≤ y1.2.2.2.2.1) then (if (y1.2.2.2.2.1 ≤ (((List.length y1.1) : Nat) : Int)) then (if ((List.length y1.2.2.2.2.2.2.1) = (List.length y1.2.2.2.2.2.2.1)) then (if ((List.length y1.2.2.2.2.2.2.2.1) = (List.length y1.2.2.2.2.2.2.2.1)) then (if ((List.length y1.2.2.2.2.2.2.2.2.1) = (List.length y1.2.2.2.2.2.2.2.2.1)) then (Option.bind (Go.Ev.Pre.l8_4 (y1.2.1, ((List.drop (Int.toNat y1.2.2.2.2.1) y1.1), ((((List.length (List.drop (Int.toNat y1.2.2.2.2.1) y1.1)) : Nat) : Int), ((0 : Int), (y1.2.2.1, (y1.2.2.2.1, (y1.2.2.2.2.1, (y1.2.2.2.2.2.1, ((List.replicate (0 : Nat) (0 : Int)), (y1.2.2.2.2.2.2.1, (y1.2.2.2.2.2.2.2.1, (y1.2.2.2.2.2.2.2.2.1, Unit.unit))))))))))))) (Sum.elim (fun y2 => (if (((List.length (List.take (List.length y2.2.2.2.2.2.2.1) (List.drop (0 : Nat) y2.2.2.2.2.2.2.1))) + (List.length (List.take (List.length y2.2.2.2.2.1) (List.drop (0 : Nat) y2.2.2.2.2.1)))) ≤ (140737488355328 : Nat)) then (if ((List.length y2.2.2.2.2.2.1) = (List.length y2.2.2.2.2.2.1)) then (if ((List.length ((List.take (List.length y2.2.2.2.2.2.2.1) (List.drop (0 : Nat) y2.2.2.2.2.2.2.1)) ++ (List.take (List.length y2.2.2.2.2.1) (List.drop (0 : Nat) y2.2.2.2.2.1)))) = (List.length ((List.take (List.length y2.2.2.2.2.2.2.1) (List.drop (0 : Nat) y2.2.2.2.2.2.2.1)) ++ (List.take (List.length y2.2.2.2.2.1) (List.drop (0 : Nat) y2.2.2.2.2.1))))) then (if ((List.length y2.2.2.2.2.1) = (List.length y2.2.2.2.2.1)) then (some (Sum.inl (y2.1, (y2.2.1, (y2.2.2.1, (y2.2.2.2.1, (y2.2.2.2.2.2.1, (((List.take (List.length y2.2.2.2.2.2.2.1) (List.drop (0 : Nat) y2.2.2.2.2.2.2.1)) ++ (List.take (List.length y2.2.2.2.2.1) (List.drop (0 : Nat) y2.2.2.2.2.1))), (y2.2.2.2.2.1, Unit.unit)))))))))
   else none)
   else none)
   else none)
   else none)) Empty.elim))
   else none)
   else none)
   else none)
   else none)
   else none)
   else none)
   else none))) Empty.elim))
   else none)
   else none)
   else none)
theorem b8_2_eq (x : r8_2.D × List Int) : b8_2 x = rndF P (T21.orc _) Go.Proofs.Try.f8.ntmps fx8 fy8_2 (Code.at [true, true, true, true, true, true, true, false, true, false, false] c8) (planAt 64 [([false, true, false], ⟨g8_3, o8_3, b8_3⟩), ([false, true, true, true, true, false, true, false], ⟨g8_4, o8_4, l8_4⟩)]) 48 12 x.1 (.lf (.sl (.int .u8) x.2 none)) := by kernel_rfl
noncomputable def l8_2 : g8_2.D → Option (outD ow8_2) := rangeF g8_2 r8_2 o8_2 (fun x c => b8_2 (x, c)) (fun x => (x.1, x.2.1, x.2.2.1, x.2.2.2.1, x.2.2.2.2.1, x.2.2.2.2.2.1, x.2.2.2.2.2.2.1, ())) (fun x => x.2.2.2.2.2.2.2.1) (fun x => x.2.2.2.2.2.2.2.2.1)
theorem p8_2 : AllSub P Go.Proofs.Try.f8.ntmps fy8_2 true (Code.at [true, true, true, true, true, true, true, false, true, false, false] c8) [([false, true, false], ⟨g8_3, o8_3, b8_3⟩), ([false, true, true, true, true, false, true, false], ⟨g8_4, o8_4, l8_4⟩)] := And.intro s8_3_ok (And.intro s8_4_ok (trivial))
theorem q8_2 : PlanOk P Go.Proofs.Try.f8.ntmps fy8_2 true (planAt 64 [([false, true, false], ⟨g8_3, o8_3, b8_3⟩), ([false, true, true, true, true, false, true, false], ⟨g8_4, o8_4, l8_4⟩)]) (Code.at [true, true, true, true, true, true, true, false, true, false, false] c8) := planAt_ok p8_2
theorem at8_2 : Code.at [true, true, true, true, true, true, true, false, true, false] c8 = .rangeFunc (.tmp 47) #[48] (asg 12 24 "predict.go:111" 48 12) (Code.at [true, true, true, true, true, true, true, false, true, false, false] c8) := by kernel_rfl
theorem s8_2_ok : SubOk P Go.Proofs.Try.f8.ntmps fx8 (Code.at [true, true, true, true, true, true, true, false, true, false] c8) ⟨g8_2, ow8_2, l8_2⟩ false := by
  rw [at8_2]
  exact range_ok (gin := g8_2) (gi := r8_2) (outs := o8_2) (Table.ok T21_ok _) hmix (by kernel_rfl : subB fx8 fy8_2 = true) (q8_2) (by decide +kernel) (by decide +kernel) rfl (fun x c => b8_2_eq (x, c)) chunk27_iter (pj := (fun x => (x.1, x.2.1, x.2.2.1, x.2.2.2.1, x.2.2.2.2.1, x.2.2.2.2.2.1, x.2.2.2.2.2.2.1, ()))) (xs := (fun x => x.2.2.2.2.2.2.2.1)) (nn := (fun x => x.2.2.2.2.2.2.2.2.1)) (own1 := true) (own2 := true) (k1 := 10) rfl rfl rfl rfl (fun _ => by kernel_rfl) (fun y => ⟨(r8_2.objs ((fun x => (x.1, x.2.1, x.2.2.1, x.2.2.2.1, x.2.2.2.2.1, x.2.2.2.2.2.1, x.2.2.2.2.2.2.1, ())) y)).take 10, by kernel_rfl, by kernel_rfl, by kernel_rfl⟩)
abbrev g8_1 : Sg := ⟨[1, 2, 4, 5, 6, 7], [.lf (.sl (.int .u8)), .lf (.ptr 0 0), .lf (.ptr 1 0), .lf (.ptr 2 0), .lf (.ptr 3 0), .lf (.ptr 4 0)], [some (.box true [.lf (.int .i64), .lf (.int .i64), .lf (.int .i64), .lf (.int .i64)]), some (.box true [.lf (.gr (.int .u8) 5)]), some (.box true [.lf (.int .i64)]), some (.box true [.lf (.int .i64)]), some (.box true [.lf (.int .i64)]), some (.arr true (.int .u8))]⟩
abbrev o8_1 : Outs := [(.normal, ⟨[1, 2, 4, 5, 6, 7], [.lf (.sl (.int .u8)), .lf (.ptr 0 0), .lf (.ptr 1 0), .lf (.ptr 2 0), .lf (.ptr 3 0), .lf (.ptr 4 0)], [some (.box true [.lf (.int .i64), .lf (.int .i64), .lf (.int .i64), .lf (.int .i64)]), some (.box true [.lf (.gr (.int .u8) 5)]), some (.box true [.lf (.int .i64)]), some (.box true [.lf (.int .i64)]), some (.box true [.lf (.int .i64)]), some (.arr true (.int .u8))]⟩)]
noncomputable def b8_1 (x : g8_1.D) : Option (outD o8_1) :=
  (if ((decide (x.2.1 ≥ (10 : Int))) = true) then (if ((List.length x.2.2.2.2.2.2.2.2.1) = (List.length x.2.2.2.2.2.2.2.2.1)) then (some (Sum.inl (x.1, (x.2.1, (x.2.2.1, (x.2.2.2.1, (x.2.2.2.2.1, (x.2.2.2.2.2.1, (x.2.2.2.2.2.2.1, ((1 : Int), (x.2.2.2.2.2.2.2.2.1, Unit.unit)))))))))))
   else none)
   else (if ((List.length x.2.2.2.2.2.2.2.2.1) = (List.length x.2.2.2.2.2.2.2.2.1)) then (some (Sum.inl (x.1, (x.2.1, (x.2.2.1, (x.2.2.2.1, (x.2.2.2.2.1, (x.2.2.2.2.2.1, (x.2.2.2.2.2.2.1, (x.2.2.2.2.2.2.2.1, (x.2.2.2.2.2.2.2.2.1, Unit.unit)))))))))))
   else none))
theorem b8_1_eq (x : g8_1.D) : b8_1 x = evF P (T21.orc _) Go.Proofs.Try.f8.ntmps fx8 (Code.at [true, true, false] c8) (planAt 64 []) g8_1 x (injK fx8 o8_1 some) := by kernel_rfl
theorem s8_1_ok : SubOk P Go.Proofs.Try.f8.ntmps fx8 (Code.at [true, true, false] c8) ⟨g8_1, o8_1, b8_1⟩ false :=
  sub_ok (g := g8_1) (outs := o8_1) (f := b8_1) (Table.ok T21_ok _) hmix (planAt_ok (P := P) (n := Go.Proofs.Try.f8.ntmps) (fx := fx8) (any := false) (c := (Code.at [true, true, false] c8)) (d := 64) (l := []) trivial) b8_1_eq
noncomputable def f8 (x : gi8.D) : Option go8.D :=
  (Option.bind (Go.Ev.Pre.f15 (x.1, (x.2.1, (x.2.2.1, (x.2.2.2.1, Unit.unit))))) (fun y1 => (Option.bind (Go.Ev.Pre.b8_1 (x.2.2.2.2.1, (x.1, (x.2.1, (x.2.2.1, (x.2.2.2.1, ((0 : Int), (y1.1, ((0 : Int), ([], Unit.unit)))))))))) (Sum.elim (fun y2 => (Option.bind (Go.Ev.Pre.f17 (y2.2.1, (y2.2.2.1, (y2.2.2.2.1, (y2.2.2.2.2.1, (y2.1, ((Max.max (Go.IntKind.wrap Go.IntKind.i64 (y2.2.2.2.2.2.2.1 + y2.2.2.2.2.2.2.2.1)) (1 : Int)), Unit.unit))))))) (fun y3 => (if ((y3.1 != (0 : Int)) = true) then (some (y3.1, ([], Unit.unit)))
   else (if ((y2.2.1 == (1 : Int)) = true) then (Option.bind (Go.Ev.Pre.f18 (y2.1, Unit.unit)) (fun y4 => (if ((List.length y4.1) = (List.length y4.1)) then (some ((0 : Int), (y4.1, Unit.unit)))
   else none)))
   else (Option.bind (Go.Ev.Pre.f19 ((Go.IntKind.wrap Go.IntKind.i64 (y2.2.2.1 * y2.2.2.2.1)), Unit.unit)) (fun y4 => (Option.bind (Go.Ev.Pre.f20 (y2.1, ((Go.IntKind.wrap Go.IntKind.i64 (y2.2.2.2.2.2.2.1 + y2.2.2.2.2.2.2.2.1)), Unit.unit))) (fun y5 => (if ((List.length y2.2.2.2.2.2.2.2.2.1) = (List.length y2.2.2.2.2.2.2.2.2.1)) then (Option.bind (Go.Ev.Pre.l8_2 (y2.2.2.2.2.2.1, (y2.2.2.2.2.2.2.1, (y2.2.2.2.2.2.2.2.1, (y4.1, (y2.2.2.2.2.2.2.2.2.1, ([], ([], (y5.1, (y5.2.1, Unit.unit)))))))))) (Sum.elim (fun y6 => (if ((List.length y6.2.2.2.2.2.1) = (List.length y6.2.2.2.2.2.1)) then (some ((0 : Int), (y6.2.2.2.2.2.1, Unit.unit)))
   else none)) (Sum.elim (fun y6 => (if ((List.length y6.2.1) = (List.length y6.2.1)) then (some (y6.1, (y6.2.1, Unit.unit)))
   else none)) Empty.elim)))
   else none)))))))))) Empty.elim))))
theorem f8_eq (x : gi8.D) : f8 x = evF P (T21.orc _) Go.Proofs.Try.f8.ntmps fx8 c8 (planAt 64 [([true, true, false], ⟨g8_1, o8_1, b8_1⟩), ([true, true, true, true, true, true, true, false, true, false], ⟨g8_2, ow8_2, l8_2⟩)]) gi8 x (fnKR P Go.Proofs.Try.f8 fx8 [go8]) := by kernel_rfl
theorem pf8 : AllSub P Go.Proofs.Try.f8.ntmps fx8 false c8 [([true, true, false], ⟨g8_1, o8_1, b8_1⟩), ([true, true, true, true, true, true, true, false, true, false], ⟨g8_2, ow8_2, l8_2⟩)] := And.intro s8_1_ok (And.intro s8_2_ok (trivial))
theorem qf8 : PlanOk P Go.Proofs.Try.f8.ntmps fx8 false (planAt 64 [([true, true, false], ⟨g8_1, o8_1, b8_1⟩), ([true, true, true, true, true, true, true, false, true, false], ⟨g8_2, ow8_2, l8_2⟩)]) c8 := planAt_ok pf8
theorem f8_ok : EntOk P 8 ⟨gi8, [go8], f8⟩ :=
  ent_okR (fn := Go.Proofs.Try.f8) (gi := gi8) (gos := [go8]) (f := f8) (c := c8) (fx := fx8) ⟨Go.Proofs.Try.func8, by kernel_rfl, rfl, by decide +kernel, rfl, rfl⟩ (Table.ok T21_ok _) hmix (qf8) f8_eq
noncomputable def T8 : Table := T21.add 8 [⟨gi8, [go8], f8⟩] []
theorem T8_ok : TableOk P T8 := Table.plus T21_ok (es := [⟨gi8, [go8], f8⟩]) ⟨f8_ok, trivial⟩ []

/-! ## 14: erasure/erasureref09.Check -/
noncomputable def c14 : Code := Func.code Go.Proofs.Try.f14
abbrev gi14 : Sg := ⟨[0], [.agg [.lf (.int .i64), .lf (.int .i64), .lf (.int .i64), .lf (.int .i64)]], []⟩
abbrev go14 : Sg := ⟨[2], [.lf (.int .i64)], []⟩
def fx14 : List Bool := []
abbrev g14_2 : Sg := ⟨[1, 3], [.lf (.ptr 0 0), .lf .bool], [some (.box true [.lf (.int .i64), .lf (.int .i64), .lf (.int .i64), .lf (.int .i64)])]⟩
abbrev o14_2 : Outs := [(.normal, ⟨[1, 3, 4], [.lf (.ptr 0 0), .lf .bool, .lf .bool], [some (.box true [.lf (.int .i64), .lf (.int .i64), .lf (.int .i64), .lf (.int .i64)])]⟩)]
noncomputable def b14_2 (x : g14_2.D) : Option (outD o14_2) :=
  (if ((x.2.2.2.1 == (1 : Int)) = true) then (some (Sum.inl (x.1, (true, (x.2.1, (x.2.2.1, (x.2.2.2.1, (x.2.2.2.2.1, Unit.unit))))))))
   else (if ((x.2.2.2.1 == (2 : Int)) = true) then (some (Sum.inl (x.1, (true, (x.2.1, (x.2.2.1, (x.2.2.2.1, (x.2.2.2.2.1, Unit.unit))))))))
   else (if ((x.2.2.2.1 == (4 : Int)) = true) then (some (Sum.inl (x.1, (true, (x.2.1, (x.2.2.1, (x.2.2.2.1, (x.2.2.2.2.1, Unit.unit))))))))
   else (if ((x.2.2.2.1 == (8 : Int)) = true) then (some (Sum.inl (x.1, (true, (x.2.1, (x.2.2.1, (x.2.2.2.1, (x.2.2.2.2.1, Unit.unit))))))))
   else (some (Sum.inl (x.1, ((x.2.2.2.1 == (16 : Int)), (x.2.1, (x.2.2.1, (x.2.2.2.1, (x.2.2.2.2.1, Unit.unit))))))))))))
theorem b14_2_eq (x : g14_2.D) : b14_2 x = evF P (T8.orc _) Go.Proofs.Try.f14.ntmps fx14 (Code.at [true, true, false] c14) (planAt 64 []) g14_2 x (injK fx14 o14_2 some) := by kernel_rfl
theorem s14_2_ok : SubOk P Go.Proofs.Try.f14.ntmps fx14 (Code.at [true, true, false] c14) ⟨g14_2, o14_2, b14_2⟩ :=
  sub_ok (g := g14_2) (outs := o14_2) (f := b14_2) (Table.ok T8_ok _) hmix (planAt_ok (P := P) (n := Go.Proofs.Try.f14.ntmps) (fx := fx14) (any := true) (c := (Code.at [true, true, false] c14)) (d := 64) (l := []) trivial) b14_2_eq
abbrev g14_1 : Sg := ⟨[1], [.lf (.ptr 0 0)], [some (.box true [.lf (.int .i64), .lf (.int .i64), .lf (.int .i64), .lf (.int .i64)])]⟩
abbrev o14_1 : Outs := [(.normal, ⟨[1, 3], [.lf (.ptr 0 0), .lf .bool], [some (.box true [.lf (.int .i64), .lf (.int .i64), .lf (.int .i64), .lf (.int .i64)])]⟩)]
noncomputable def b14_1 (x : g14_1.D) : Option (outD o14_1) :=
  (if ((x.1 == (1 : Int)) = true) then (some (Sum.inl (true, (x.1, (x.2.1, (x.2.2.1, (x.2.2.2.1, Unit.unit)))))))
   else (if ((x.1 == (2 : Int)) = true) then (some (Sum.inl (true, (x.1, (x.2.1, (x.2.2.1, (x.2.2.2.1, Unit.unit)))))))
   else (if ((decide (x.1 ≥ (10 : Int))) = true) then (some (Sum.inl ((decide (x.1 ≤ (15 : Int))), (x.1, (x.2.1, (x.2.2.1, (x.2.2.2.1, Unit.unit)))))))
   else (some (Sum.inl (false, (x.1, (x.2.1, (x.2.2.1, (x.2.2.2.1, Unit.unit))))))))))
theorem b14_1_eq (x : g14_1.D) : b14_1 x = evF P (T8.orc _) Go.Proofs.Try.f14.ntmps fx14 (Code.at [true, false] c14) (planAt 64 []) g14_1 x (injK fx14 o14_1 some) := by kernel_rfl
theorem s14_1_ok : SubOk P Go.Proofs.Try.f14.ntmps fx14 (Code.at [true, false] c14) ⟨g14_1, o14_1, b14_1⟩ :=
  sub_ok (g := g14_1) (outs := o14_1) (f := b14_1) (Table.ok T8_ok _) hmix (planAt_ok (P := P) (n := Go.Proofs.Try.f14.ntmps) (fx := fx14) (any := true) (c := (Code.at [true, false] c14)) (d := 64) (l := []) trivial) b14_1_eq
noncomputable def f14 (x : gi14.D) : Option go14.D :=
  (Option.bind (Go.Ev.Pre.b14_1 (x.1, (x.2.1, (x.2.2.1, (x.2.2.2.1, Unit.unit))))) (Sum.elim (fun y1 => (Option.bind (Go.Ev.Pre.b14_2 (y1.1, (y1.2.1, (y1.2.2.1, (y1.2.2.2.1, (y1.2.2.2.2.1, Unit.unit)))))) (Sum.elim (fun y2 => (if ((Bool.not y2.1) = true) then (some ((1 : Int), Unit.unit))
   else (if ((Bool.not y2.2.1) = true) then (some ((1 : Int), Unit.unit))
   else (if ((decide (y2.2.2.2.1 < (1 : Int))) = true) then (some ((1 : Int), Unit.unit))
   else (if ((decide (y2.2.2.2.1 > (32 : Int))) = true) then (some ((1 : Int), Unit.unit))
   else (if ((decide (y2.2.2.2.2.2.1 < (1 : Int))) = true) then (some ((1 : Int), Unit.unit))
   else (if ((decide (y2.2.2.2.2.2.1 > (65536 : Int))) = true) then (some ((1 : Int), Unit.unit))
   else (if ((y2.2.2.1 == (2 : Int)) = true) then (if ((y2.2.2.2.2.1 != (8 : Int)) = true) then (some ((9 : Int), Unit.unit))
   else (some ((0 : Int), Unit.unit)))
   else (some ((0 : Int), Unit.unit)))))))))) Empty.elim))) Empty.elim))
theorem f14_eq (x : gi14.D) : f14 x = evF P (T8.orc _) Go.Proofs.Try.f14.ntmps fx14 c14 (planAt 64 [([true, false], ⟨g14_1, o14_1, b14_1⟩), ([true, true, false], ⟨g14_2, o14_2, b14_2⟩)]) gi14 x (fnK fx14 [go14]) := by kernel_rfl
theorem pf14 : AllSub P Go.Proofs.Try.f14.ntmps fx14 true c14 [([true, false], ⟨g14_1, o14_1, b14_1⟩), ([true, true, false], ⟨g14_2, o14_2, b14_2⟩)] := And.intro s14_1_ok (And.intro s14_2_ok (trivial))
theorem qf14 : PlanOk P Go.Proofs.Try.f14.ntmps fx14 true (planAt 64 [([true, false], ⟨g14_1, o14_1, b14_1⟩), ([true, true, false], ⟨g14_2, o14_2, b14_2⟩)]) c14 := planAt_ok pf14
theorem f14_ok : EntOk P 14 ⟨gi14, [go14], f14⟩ :=
  ent_ok (fn := Go.Proofs.Try.f14) (gi := gi14) (gos := [go14]) (f := f14) (c := c14) (fx := fx14) ⟨Go.Proofs.Try.func14, by kernel_rfl, rfl, by decide +kernel, rfl, rfl⟩ (by kernel_rfl) (Table.ok T8_ok _) hmix (qf14) f14_eq
noncomputable def T14 : Table := T8.add 14 [⟨gi14, [go14], f14⟩] []
theorem T14_ok : TableOk P T14 := Table.plus T8_ok (es := [⟨gi14, [go14], f14⟩]) ⟨f14_ok, trivial⟩ []

/-! ## 16: erasure/erasureref09.Row -/
noncomputable def c16 : Code := Func.code Go.Proofs.Try.f16
abbrev gi16 : Sg := ⟨[0], [.agg [.lf (.int .i64), .lf (.int .i64), .lf (.int .i64), .lf (.int .i64)]], []⟩
abbrev go16 : Sg := ⟨[2], [.lf (.int .i64)], []⟩
def fx16 : List Bool := []
noncomputable def f16 (x : gi16.D) : Option go16.D :=
  (Option.bind (Go.Ev.Pre.f14 (x.1, (x.2.1, (x.2.2.1, (x.2.2.2.1, Unit.unit))))) (fun y1 => (if ((y1.1 == (1 : Int)) = true) then (some ((0 : Int), Unit.unit))
   else (some ((Go.IntKind.wrap Go.IntKind.i64 (Int.tdiv (Go.IntKind.wrap Go.IntKind.i64 ((Go.IntKind.wrap Go.IntKind.i64 ((Go.IntKind.wrap Go.IntKind.i64 (x.2.1 * x.2.2.1)) * x.2.2.2.1)) + (7 : Int))) (8 : Int))), Unit.unit)))))
theorem f16_eq (x : gi16.D) : f16 x = evF P (T14.orc _) Go.Proofs.Try.f16.ntmps fx16 c16 (planAt 64 []) gi16 x (fnK fx16 [go16]) := by kernel_rfl
theorem f16_ok : EntOk P 16 ⟨gi16, [go16], f16⟩ :=
  ent_ok (fn := Go.Proofs.Try.f16) (gi := gi16) (gos := [go16]) (f := f16) (c := c16) (fx := fx16) ⟨Go.Proofs.Try.func16, by kernel_rfl, rfl, by decide +kernel, rfl, rfl⟩ (by kernel_rfl) (Table.ok T14_ok _) hmix (planAt_ok (P := P) (n := Go.Proofs.Try.f16.ntmps) (fx := fx16) (any := true) (c := c16) (d := 64) (l := []) trivial) f16_eq
noncomputable def T16 : Table := T14.add 16 [⟨gi16, [go16], f16⟩] []
theorem T16_ok : TableOk P T16 := Table.plus T14_ok (es := [⟨gi16, [go16], f16⟩]) ⟨f16_ok, trivial⟩ []

/-! ## 23: erasure/erasureref09.step -/
noncomputable def c23 : Code := Func.code Go.Proofs.Try.f23
abbrev gi23 : Sg := ⟨[0], [.agg [.lf (.int .i64), .lf (.int .i64), .lf (.int .i64), .lf (.int .i64)]], []⟩
abbrev go23 : Sg := ⟨[2], [.lf (.int .i64)], []⟩
def fx23 : List Bool := []
noncomputable def f23 (x : gi23.D) : Option go23.D :=
  (some ((Go.IntKind.wrap Go.IntKind.i64 (Int.tdiv (Go.IntKind.wrap Go.IntKind.i64 ((Go.IntKind.wrap Go.IntKind.i64 (x.2.1 * x.2.2.1)) + (7 : Int))) (8 : Int))), Unit.unit))
theorem f23_eq (x : gi23.D) : f23 x = evF P (T16.orc _) Go.Proofs.Try.f23.ntmps fx23 c23 (planAt 64 []) gi23 x (fnK fx23 [go23]) := by kernel_rfl
theorem f23_ok : EntOk P 23 ⟨gi23, [go23], f23⟩ :=
  ent_ok (fn := Go.Proofs.Try.f23) (gi := gi23) (gos := [go23]) (f := f23) (c := c23) (fx := fx23) ⟨Go.Proofs.Try.func23, by kernel_rfl, rfl, by decide +kernel, rfl, rfl⟩ (by kernel_rfl) (Table.ok T16_ok _) hmix (planAt_ok (P := P) (n := Go.Proofs.Try.f23.ntmps) (fx := fx23) (any := true) (c := c23) (d := 64) (l := []) trivial) f23_eq
noncomputable def T23 : Table := T16.add 23 [⟨gi23, [go23], f23⟩] []
theorem T23_ok : TableOk P T23 := Table.plus T16_ok (es := [⟨gi23, [go23], f23⟩]) ⟨f23_ok, trivial⟩ []

/-! ## 25: erasure/erasureref09.at -/
noncomputable def c25 : Code := Func.code Go.Proofs.Try.f25
abbrev gi25 : Sg := ⟨[0, 1], [.lf (.sl (.int .u8)), .lf (.int .i64)], []⟩
abbrev go25 : Sg := ⟨[4], [.lf (.int .i64)], []⟩
def fx25 : List Bool := []
noncomputable def f25 (x : gi25.D) : Option go25.D :=
  (if ((decide (x.2.1 < (0 : Int))) = true) then (some ((0 : Int), Unit.unit))
   else (if ((decide (x.2.1 ≥ (((List.length x.1) : Nat) : Int))) = true) then (some ((0 : Int), Unit.unit))
   else (if ((0 : Int) ≤ x.2.1) then (if (x.2.1 < (((List.length x.1) : Nat) : Int)) then (some ((Go.IntKind.wrap Go.IntKind.i64 (List.getD x.1 (Int.toNat x.2.1) (0 : Int))), Unit.unit))
   else none)
   else none)))
theorem f25_eq (x : gi25.D) : f25 x = evF P (T23.orc _) Go.Proofs.Try.f25.ntmps fx25 c25 (planAt 64 []) gi25 x (fnK fx25 [go25]) := by kernel_rfl
theorem f25_ok : EntOk P 25 ⟨gi25, [go25], f25⟩ :=
  ent_ok (fn := Go.Proofs.Try.f25) (gi := gi25) (gos := [go25]) (f := f25) (c := c25) (fx := fx25) ⟨Go.Proofs.Try.func25, by kernel_rfl, rfl, by decide +kernel, rfl, rfl⟩ (by kernel_rfl) (Table.ok T23_ok _) hmix (planAt_ok (P := P) (n := Go.Proofs.Try.f25.ntmps) (fx := fx25) (any := true) (c := c25) (d := 64) (l := []) trivial) f25_eq
noncomputable def T25 : Table := T23.add 25 [⟨gi25, [go25], f25⟩] []
theorem T25_ok : TableOk P T25 := Table.plus T23_ok (es := [⟨gi25, [go25], f25⟩]) ⟨f25_ok, trivial⟩ []

/-! ## 29: erasure/erasureref09.far -/
noncomputable def c29 : Code := Func.code Go.Proofs.Try.f29
abbrev gi29 : Sg := ⟨[0, 1], [.lf (.int .i64), .lf (.int .i64)], []⟩
abbrev go29 : Sg := ⟨[4], [.lf (.int .i64)], []⟩
def fx29 : List Bool := []
noncomputable def f29 (x : gi29.D) : Option go29.D :=
  (some ((Max.max (Go.IntKind.wrap Go.IntKind.i64 (x.1 - x.2.1)) (Go.IntKind.wrap Go.IntKind.i64 (x.2.1 - x.1))), Unit.unit))
theorem f29_eq (x : gi29.D) : f29 x = evF P (T25.orc _) Go.Proofs.Try.f29.ntmps fx29 c29 (planAt 64 []) gi29 x (fnK fx29 [go29]) := by kernel_rfl
theorem f29_ok : EntOk P 29 ⟨gi29, [go29], f29⟩ :=
  ent_ok (fn := Go.Proofs.Try.f29) (gi := gi29) (gos := [go29]) (f := f29) (c := c29) (fx := fx29) ⟨Go.Proofs.Try.func29, by kernel_rfl, rfl, by decide +kernel, rfl, rfl⟩ (by kernel_rfl) (Table.ok T25_ok _) hmix (planAt_ok (P := P) (n := Go.Proofs.Try.f29.ntmps) (fx := fx29) (any := true) (c := c29) (d := 64) (l := []) trivial) f29_eq
noncomputable def T29 : Table := T25.add 29 [⟨gi29, [go29], f29⟩] []
theorem T29_ok : TableOk P T29 := Table.plus T25_ok (es := [⟨gi29, [go29], f29⟩]) ⟨f29_ok, trivial⟩ []

/-! ## 24: erasure/erasureref09.tells -/
noncomputable def c24 : Code := Func.code Go.Proofs.Try.f24
abbrev gi24 : Sg := ⟨[0, 1, 2, 3], [.lf (.int .i64), .lf (.int .i64), .lf (.int .i64), .lf (.int .i64)], []⟩
abbrev go24 : Sg := ⟨[8], [.lf (.int .i64)], []⟩
def fx24 : List Bool := []
noncomputable def f24 (x : gi24.D) : Option go24.D :=
  (if ((x.1 == (1 : Int)) = true) then (some (x.2.1, Unit.unit))
   else (if ((x.1 == (2 : Int)) = true) then (some (x.2.2.1, Unit.unit))
   else (if ((x.1 == (3 : Int)) = true) then (some ((Go.IntKind.wrap Go.IntKind.i64 (Int.tdiv (Go.IntKind.wrap Go.IntKind.i64 (x.2.1 + x.2.2.1)) (2 : Int))), Unit.unit))
   else (if ((x.1 == (4 : Int)) = true) then (Option.bind (Go.Ev.Pre.f29 ((Go.IntKind.wrap Go.IntKind.i64 ((Go.IntKind.wrap Go.IntKind.i64 (x.2.1 + x.2.2.1)) - x.2.2.2.1)), (x.2.1, Unit.unit))) (fun y1 => (Option.bind (Go.Ev.Pre.f29 ((Go.IntKind.wrap Go.IntKind.i64 ((Go.IntKind.wrap Go.IntKind.i64 (x.2.1 + x.2.2.1)) - x.2.2.2.1)), (x.2.2.1, Unit.unit))) (fun y2 => (if ((decide (y1.1 ≤ y2.1)) = true) then (Option.bind (Go.Ev.Pre.f29 ((Go.IntKind.wrap Go.IntKind.i64 ((Go.IntKind.wrap Go.IntKind.i64 (x.2.1 + x.2.2.1)) - x.2.2.2.1)), (x.2.1, Unit.unit))) (fun y3 => (Option.bind (Go.Ev.Pre.f29 ((Go.IntKind.wrap Go.IntKind.i64 ((Go.IntKind.wrap Go.IntKind.i64 (x.2.1 + x.2.2.1)) - x.2.2.2.1)), (x.2.2.2.1, Unit.unit))) (fun y4 => (if ((decide (y3.1 ≤ y4.1)) = true) then (some (x.2.1, Unit.unit))
   else (Option.bind (Go.Ev.Pre.f29 ((Go.IntKind.wrap Go.IntKind.i64 ((Go.IntKind.wrap Go.IntKind.i64 (x.2.1 + x.2.2.1)) - x.2.2.2.1)), (x.2.2.1, Unit.unit))) (fun y5 => (Option.bind (Go.Ev.Pre.f29 ((Go.IntKind.wrap Go.IntKind.i64 ((Go.IntKind.wrap Go.IntKind.i64 (x.2.1 + x.2.2.1)) - x.2.2.2.1)), (x.2.2.2.1, Unit.unit))) (fun y6 => (if ((decide (y5.1 ≤ y6.1)) = true) then (some (x.2.2.1, Unit.unit))
   else (some (x.2.2.2.1, Unit.unit))))))))))))
   else (Option.bind (Go.Ev.Pre.f29 ((Go.IntKind.wrap Go.IntKind.i64 ((Go.IntKind.wrap Go.IntKind.i64 (x.2.1 + x.2.2.1)) - x.2.2.2.1)), (x.2.2.1, Unit.unit))) (fun y3 => (Option.bind (Go.Ev.Pre.f29 ((Go.IntKind.wrap Go.IntKind.i64 ((Go.IntKind.wrap Go.IntKind.i64 (x.2.1 + x.2.2.1)) - x.2.2.2.1)), (x.2.2.2.1, Unit.unit))) (fun y4 => (if ((decide (y3.1 ≤ y4.1)) = true) then (some (x.2.2.1, Unit.unit))
   else (some (x.2.2.2.1, Unit.unit))))))))))))
   else (some ((0 : Int), Unit.unit))))))
theorem f24_eq (x : gi24.D) : f24 x = evF P (T29.orc _) Go.Proofs.Try.f24.ntmps fx24 c24 (planAt 64 []) gi24 x (fnK fx24 [go24]) := by kernel_rfl
theorem f24_ok : EntOk P 24 ⟨gi24, [go24], f24⟩ :=
  ent_ok (fn := Go.Proofs.Try.f24) (gi := gi24) (gos := [go24]) (f := f24) (c := c24) (fx := fx24) ⟨Go.Proofs.Try.func24, by kernel_rfl, rfl, by decide +kernel, rfl, rfl⟩ (by kernel_rfl) (Table.ok T29_ok _) hmix (planAt_ok (P := P) (n := Go.Proofs.Try.f24.ntmps) (fx := fx24) (any := true) (c := c24) (d := 64) (l := []) trivial) f24_eq
noncomputable def T24 : Table := T29.add 24 [⟨gi24, [go24], f24⟩] []
theorem T24_ok : TableOk P T24 := Table.plus T29_ok (es := [⟨gi24, [go24], f24⟩]) ⟨f24_ok, trivial⟩ []

/-! ## 9: erasure/erasureref09.Undo -/
noncomputable def c9 : Code := Func.code Go.Proofs.Try.f9
abbrev gi9 : Sg := ⟨[0, 1], [.agg [.lf (.int .i64), .lf (.int .i64), .lf (.int .i64), .lf (.int .i64)], .lf (.sl (.int .u8))], []⟩
abbrev go9 : Sg := ⟨[4, 5], [.lf (.sl (.int .u8)), .lf (.int .i64)], []⟩
def fx9 : List Bool := []
abbrev g9_4 : Sg := ⟨[1, 7, 8, 9, 10, 11, 12, 13, 14, 15], [.lf (.sl (.int .u8)), .lf (.int .i64), .lf (.int .i64), .lf (.int .i64), .lf (.gr (.int .u8) 0), .lf (.gr (.int .u8) 1), .lf (.int .i64), .lf (.int .i64), .lf (.gr (.int .u8) 2), .lf (.int .i64)], [some (.arr true (.int .u8)), some (.arr true (.int .u8)), some (.arr true (.int .u8))]⟩
abbrev o9_4 : Outs := [(.exit 2, ⟨[1, 7, 8, 9, 10, 12, 14], [.lf (.sl (.int .u8)), .lf (.int .i64), .lf (.int .i64), .lf (.int .i64), .lf (.gr (.int .u8) 0), .lf (.int .i64), .lf (.gr (.int .u8) 1)], [some (.arr true (.int .u8)), some (.arr true (.int .u8))]⟩)]
noncomputable def b9_4 (x : g9_4.D) : Option (outD ((.normal, g9_4) :: o9_4)) :=
  (if ((decide (x.2.2.2.2.2.2.1 < x.2.1)) = true) then (if ((0 : Int) ≤ (Go.IntKind.wrap Go.IntKind.i64 ((Go.IntKind.wrap Go.IntKind.i64 (x.2.2.2.2.1 + x.2.2.2.1)) + x.2.2.2.2.2.2.1))) then (if ((Go.IntKind.wrap Go.IntKind.i64 ((Go.IntKind.wrap Go.IntKind.i64 (x.2.2.2.2.1 + x.2.2.2.1)) + x.2.2.2.2.2.2.1)) < (((List.length x.1) : Nat) : Int)) then (Option.bind (Go.Ev.Pre.f25 ((List.take (List.length x.2.2.2.2.2.2.2.2.2.1) (List.drop (0 : Nat) x.2.2.2.2.2.2.2.2.2.1)), ((Go.IntKind.wrap Go.IntKind.i64 (x.2.2.2.2.2.2.1 - x.2.2.1)), Unit.unit))) (fun y1 => (Option.bind (Go.Ev.Pre.f25 ((List.take (List.length x.2.2.2.2.2.2.2.2.1) (List.drop (0 : Nat) x.2.2.2.2.2.2.2.2.1)), (x.2.2.2.2.2.2.1, Unit.unit))) (fun y2 => (Option.bind (Go.Ev.Pre.f25 ((List.take (List.length x.2.2.2.2.2.2.2.2.1) (List.drop (0 : Nat) x.2.2.2.2.2.2.2.2.1)), ((Go.IntKind.wrap Go.IntKind.i64 (x.2.2.2.2.2.2.1 - x.2.2.1)), Unit.unit))) (fun y3 => (Option.bind (Go.Ev.Pre.f24 (x.2.2.2.2.2.1, (y1.1, (y2.1, (y3.1, Unit.unit))))) (fun y4 => (if (((List.length (List.take (List.length x.2.2.2.2.2.2.2.2.2.1) (List.drop (0 : Nat) x.2.2.2.2.2.2.2.2.2.1))) + (List.length (List.take (1 : Nat) (List.drop (0 : Nat) (List.set (List.replicate (1 : Nat) (0 : Int)) (0 : Nat) (Go.IntKind.wrap Go.IntKind.u8 (Int.tmod (Go.IntKind.wrap Go.IntKind.i64 ((Go.IntKind.wrap Go.IntKind.i64 (List.getD x.1 (Int.toNat (Go.IntKind.wrap Go.IntKind.i64 ((Go.IntKind.wrap Go.IntKind.i64 (x.2.2.2.2.1 + x.2.2.2.1)) + x.2.2.2.2.2.2.1))) (0 : Int))) + y4.1)) (256 : Int)))))))) ≤ (140737488355328 : Nat)) then (if ((List.length x.2.2.2.2.2.2.2.1) = (List.length x.2.2.2.2.2.2.2.1)) then (if ((List.length x.2.2.2.2.2.2.2.2.1) = (List.length x.2.2.2.2.2.2.2.2.1)) then (if ((List.length ((List.take (List.length x.2.2.2.2.2.2.2.2.2.1) (List.drop (0 : Nat) x.2.2.2.2.2.2.2.2.2.1)) ++ (List.take (1 : Nat) (List.drop (0 : Nat) (List.set (List.replicate (1 : Nat) (0 : Int)) (0 : Nat) (Go.IntKind.wrap Go.IntKind.u8 (Int.tmod (Go.IntKind.wrap Go.IntKind.i64 ((Go.IntKind.wrap Go.IntKind.i64 (List.getD x.1 (Int.toNat (Go.IntKind.wrap Go.IntKind.i64 ((Go.IntKind.wrap Go.IntKind.i64 (x.2.2.2.2.1 + x.2.2.2.1)) + x.2.2.2.2.2.2.1))) (0 : Int))) + y4.1)) (256 : Int)))))))) = (List.length ((List.take (List.length x.2.2.2.2.2.2.2.2.2.1) (List.drop (0 : Nat) x.2.2.2.2.2.2.2.2.2.1)) ++ (List.take (1 : Nat) (List.drop (0 : Nat) (List.set (List.replicate (1 : Nat) (0 : Int)) (0 : Nat) (Go.IntKind.wrap Go.IntKind.u8 (Int.tmod (Go.IntKind.wrap Go.IntKind.i64 ((Go.IntKind.wrap Go.IntKind.i64 (List.getD x.1 (Int.toNat (Go.IntKind.wrap Go.IntKind.i64 ((Go.IntKind.wrap Go.IntKind.i64 (x.2.2.2.2.1 + x.2.2.2.1)) + x.2.2.2.2.2.2.1))) (0 : Int))) + y4.1)) (256 : Int))))))))) then (some (Sum.inl (x.1, (x.2.1, (x.2.2.1, (x.2.2.2.1, (x.2.2.2.2.1, (x.2.2.2.2.2.1, ((Go.IntKind.wrap Go.IntKind.i64 (x.2.2.2.2.2.2.1 + (1 : Int))), (x.2.2.2.2.2.2.2.1, (x.2.2.2.2.2.2.2.2.1, (((List.take (List.length x.2.2.2.2.2.2.2.2.2.1) (List.drop (0 : Nat) x.2.2.2.2.2.2.2.2.2.1)) ++ (List.take (1 : Nat) (List.drop (0 : Nat) (List.set (List.replicate (1 : Nat) (0 : Int)) (0 : Nat) (Go.IntKind.wrap Go.IntKind.u8 (Int.tmod (Go.IntKind.wrap Go.IntKind.i64 ((Go.IntKind.wrap Go.IntKind.i64 (List.getD x.1 (Int.toNat (Go.IntKind.wrap Go.IntKind.i64 ((Go.IntKind.wrap Go.IntKind.i64 (x.2.2.2.2.1 + x.2.2.2.1)) + x.2.2.2.2.2.2.1))) (0 : Int))) + y4.1)) (256 : Int))))))), Unit.unit))))))))))))
   else none)
   else none)
   else none)
   else none)))))))))
   else none)
   else none)
   else (if ((List.length x.2.2.2.2.2.2.2.1) = (List.length x.2.2.2.2.2.2.2.1)) then (if ((List.length x.2.2.2.2.2.2.2.2.2.1) = (List.length x.2.2.2.2.2.2.2.2.2.1)) then (some (Sum.inr (Sum.inl (x.1, (x.2.1, (x.2.2.1, (x.2.2.2.1, (x.2.2.2.2.1, (x.2.2.2.2.2.2.2.1, (x.2.2.2.2.2.2.2.2.2.1, Unit.unit))))))))))
   else none)
   else none))
theorem b9_4_eq (x : g9_4.D) : b9_4 x = evF P (T24.orc _) Go.Proofs.Try.f9.ntmps fx9 (Code.at [true, true, true, true, true, true, true, true, true, true, true, true, false, true, false, false, true, false, false, true, true, true, true, false, true, false, false] c9) (planAt 64 []) g9_4 x (injK fx9 ((.normal, g9_4) :: o9_4) some) := by kernel_rfl
noncomputable def l9_4 : g9_4.D → Option (outD o9_4) := loopN g9_4 o9_4 b9_4 18446744073709551616
theorem at9_4 : Code.at [true, true, true, true, true, true, true, true, true, true, true, true, false, true, false, false, true, false, false, true, true, true, true, false, true, false] c9 = .loop (Code.at [true, true, true, true, true, true, true, true, true, true, true, true, false, true, false, false, true, false, false, true, true, true, true, false, true, false, false] c9) := by kernel_rfl
theorem s9_4_ok : SubOk P Go.Proofs.Try.f9.ntmps fx9 (Code.at [true, true, true, true, true, true, true, true, true, true, true, true, false, true, false, false, true, false, false, true, true, true, true, false, true, false] c9) ⟨g9_4, o9_4, l9_4⟩ := by
  rw [at9_4]
  exact loop_ok (sub_ok (g := g9_4) (outs := ((.normal, g9_4) :: o9_4)) (f := b9_4) (Table.ok T24_ok _) hmix (planAt_ok (P := P) (n := Go.Proofs.Try.f9.ntmps) (fx := fx9) (any := true) (c := (Code.at [true, true, true, true, true, true, true, true, true, true, true, true, false, true, false, false, true, false, false, true, true, true, true, false, true, false, false] c9)) (d := 64) (l := []) trivial) b9_4_eq) rfl _
abbrev g9_3 : Sg := ⟨[1, 7, 8, 9, 10, 11, 12, 13], [.lf (.sl (.int .u8)), .lf (.int .i64), .lf (.int .i64), .lf (.int .i64), .lf (.gr (.int .u8) 0), .lf (.gr (.int .u8) 1), .lf (.int .i64), .lf (.int .i64)], [some (.arr true (.int .u8)), some (.arr true (.int .u8))]⟩
abbrev o9_3 : Outs := [(.normal, ⟨[1, 7, 8, 9, 10, 11, 12, 13], [.lf (.sl (.int .u8)), .lf (.int .i64), .lf (.int .i64), .lf (.int .i64), .lf (.gr (.int .u8) 0), .lf (.gr (.int .u8) 1), .lf (.int .i64), .lf (.int .i64)], [some (.arr true (.int .u8)), some (.arr true (.int .u8))]⟩)]
noncomputable def b9_3 (x : g9_3.D) : Option (outD o9_3) :=
  (if ((x.2.2.2.1 == (1 : Int)) = true) then (if ((0 : Int) ≤ x.2.2.2.2.1) then (if (x.2.2.2.2.1 < (((List.length x.1) : Nat) : Int)) then (if ((List.length x.2.2.2.2.2.2.1) = (List.length x.2.2.2.2.2.2.1)) then (if ((List.length x.2.2.2.2.2.2.2.1) = (List.length x.2.2.2.2.2.2.2.1)) then (some (Sum.inl (x.1, (x.2.1, (x.2.2.1, (x.2.2.2.1, (x.2.2.2.2.1, ((Go.IntKind.wrap Go.IntKind.i64 (List.getD x.1 (Int.toNat x.2.2.2.2.1) (0 : Int))), (x.2.2.2.2.2.2.1, (x.2.2.2.2.2.2.2.1, Unit.unit))))))))))
   else none)
   else none)
   else none)
   else none)
   else (if ((List.length x.2.2.2.2.2.2.1) = (List.length x.2.2.2.2.2.2.1)) then (if ((List.length x.2.2.2.2.2.2.2.1) = (List.length x.2.2.2.2.2.2.2.1)) then (some (Sum.inl (x.1, (x.2.1, (x.2.2.1, (x.2.2.2.1, (x.2.2.2.2.1, (x.2.2.2.2.2.1, (x.2.2.2.2.2.2.1, (x.2.2.2.2.2.2.2.1, Unit.unit))))))))))
   else none)
   else none))
theorem b9_3_eq (x : g9_3.D) : b9_3 x = evF P (T24.orc _) Go.Proofs.Try.f9.ntmps fx9 (Code.at [true, true, true, true, true, true, true, true, true, true, true, true, false, true, false, false, true, false, false, true, false] c9) (planAt 64 []) g9_3 x (injK fx9 o9_3 some) := by kernel_rfl
theorem s9_3_ok : SubOk P Go.Proofs.Try.f9.ntmps fx9 (Code.at [true, true, true, true, true, true, true, true, true, true, true, true, false, true, false, false, true, false, false, true, false] c9) ⟨g9_3, o9_3, b9_3⟩ :=
  sub_ok (g := g9_3) (outs := o9_3) (f := b9_3) (Table.ok T24_ok _) hmix (planAt_ok (P := P) (n := Go.Proofs.Try.f9.ntmps) (fx := fx9) (any := true) (c := (Code.at [true, true, true, true, true, true, true, true, true, true, true, true, false, true, false, false, true, false, false, true, false] c9)) (d := 64) (l := []) trivial) b9_3_eq
abbrev g9_2 : Sg := ⟨[1, 7, 8, 9, 10, 11, 12], [.lf (.sl (.int .u8)), .lf (.int .i64), .lf (.int .i64), .lf (.int .i64), .lf (.gr (.int .u8) 0), .lf (.gr (.int .u8) 1), .lf (.int .i64)], [some (.arr true (.int .u8)), some (.arr true (.int .u8))]⟩
abbrev o9_2 : Outs := [(.exit 0, ⟨[10], [.lf (.gr (.int .u8) 0)], [some (.arr true (.int .u8))]⟩), (.ret, ⟨[4, 5], [.lf (.sl (.int .u8)), .lf (.int .i64)], []⟩)]
noncomputable def b9_2 (x : g9_2.D) : Option (outD ((.normal, g9_2) :: o9_2)) :=
  (if ((decide (x.2.2.2.2.1 < (((List.length x.1) : Nat) : Int))) = true) then (if ((List.length x.2.2.2.2.2.1) = (List.length x.2.2.2.2.2.1)) then (if ((List.length x.2.2.2.2.2.2.1) = (List.length x.2.2.2.2.2.2.1)) then (Option.bind (Go.Ev.Pre.b9_3 (x.1, (x.2.1, (x.2.2.1, (x.2.2.2.1, (x.2.2.2.2.1, ((1 : Int), (x.2.2.2.2.2.1, (x.2.2.2.2.2.2.1, Unit.unit))))))))) (Sum.elim (fun y1 => (if ((decide (y1.2.2.2.2.2.1 > (4 : Int))) = true) then (some (Sum.inr (Sum.inr (Sum.inl ([], ((4 : Int), Unit.unit))))))
   else (if ((List.length y1.2.2.2.2.2.2.1) = (List.length y1.2.2.2.2.2.2.1)) then (if ((List.length y1.2.2.2.2.2.2.2.1) = (List.length y1.2.2.2.2.2.2.2.1)) then (Option.bind (Go.Ev.Pre.l9_4 (y1.1, (y1.2.1, (y1.2.2.1, (y1.2.2.2.1, (y1.2.2.2.2.1, (y1.2.2.2.2.2.1, ((0 : Int), (y1.2.2.2.2.2.2.1, (y1.2.2.2.2.2.2.2.1, ([], Unit.unit))))))))))) (Sum.elim (fun y2 => (if (((List.length (List.take (List.length y2.2.2.2.2.2.1) (List.drop (0 : Nat) y2.2.2.2.2.2.1))) + (List.length (List.take (List.length y2.2.2.2.2.2.2.1) (List.drop (0 : Nat) y2.2.2.2.2.2.2.1)))) ≤ (140737488355328 : Nat)) then (if ((List.length ((List.take (List.length y2.2.2.2.2.2.1) (List.drop (0 : Nat) y2.2.2.2.2.2.1)) ++ (List.take (List.length y2.2.2.2.2.2.2.1) (List.drop (0 : Nat) y2.2.2.2.2.2.2.1)))) = (List.length ((List.take (List.length y2.2.2.2.2.2.1) (List.drop (0 : Nat) y2.2.2.2.2.2.1)) ++ (List.take (List.length y2.2.2.2.2.2.2.1) (List.drop (0 : Nat) y2.2.2.2.2.2.2.1))))) then (if ((List.length y2.2.2.2.2.2.2.1) = (List.length y2.2.2.2.2.2.2.1)) then (some (Sum.inl (y2.1, (y2.2.1, (y2.2.2.1, (y2.2.2.2.1, ((Go.IntKind.wrap Go.IntKind.i64 ((Go.IntKind.wrap Go.IntKind.i64 (y2.2.2.2.2.1 + y2.2.1)) + y2.2.2.2.1)), (((List.take (List.length y2.2.2.2.2.2.1) (List.drop (0 : Nat) y2.2.2.2.2.2.1)) ++ (List.take (List.length y2.2.2.2.2.2.2.1) (List.drop (0 : Nat) y2.2.2.2.2.2.2.1))), (y2.2.2.2.2.2.2.1, Unit.unit)))))))))
   else none)
   else none)
   else none)) Empty.elim))
   else none)
   else none))) Empty.elim))
   else none)
   else none)
   else (if ((List.length x.2.2.2.2.2.1) = (List.length x.2.2.2.2.2.1)) then (some (Sum.inr (Sum.inl (x.2.2.2.2.2.1, Unit.unit))))
   else none))
theorem b9_2_eq (x : g9_2.D) : b9_2 x = evF P (T24.orc _) Go.Proofs.Try.f9.ntmps fx9 (Code.at [true, true, true, true, true, true, true, true, true, true, true, true, false, true, false, false] c9) (planAt 64 [([true, false, false, true, false], ⟨g9_3, o9_3, b9_3⟩), ([true, false, false, true, true, true, true, false, true, false], ⟨g9_4, o9_4, l9_4⟩)]) g9_2 x (injK fx9 ((.normal, g9_2) :: o9_2) some) := by kernel_rfl
noncomputable def l9_2 : g9_2.D → Option (outD o9_2) := loopN g9_2 o9_2 b9_2 18446744073709551616
theorem p9_2 : AllSub P Go.Proofs.Try.f9.ntmps fx9 true (Code.at [true, true, true, true, true, true, true, true, true, true, true, true, false, true, false, false] c9) [([true, false, false, true, false], ⟨g9_3, o9_3, b9_3⟩), ([true, false, false, true, true, true, true, false, true, false], ⟨g9_4, o9_4, l9_4⟩)] := And.intro s9_3_ok (And.intro s9_4_ok (trivial))
theorem q9_2 : PlanOk P Go.Proofs.Try.f9.ntmps fx9 true (planAt 64 [([true, false, false, true, false], ⟨g9_3, o9_3, b9_3⟩), ([true, false, false, true, true, true, true, false, true, false], ⟨g9_4, o9_4, l9_4⟩)]) (Code.at [true, true, true, true, true, true, true, true, true, true, true, true, false, true, false, false] c9) := planAt_ok p9_2
theorem at9_2 : Code.at [true, true, true, true, true, true, true, true, true, true, true, true, false, true, false] c9 = .loop (Code.at [true, true, true, true, true, true, true, true, true, true, true, true, false, true, false, false] c9) := by kernel_rfl
theorem s9_2_ok : SubOk P Go.Proofs.Try.f9.ntmps fx9 (Code.at [true, true, true, true, true, true, true, true, true, true, true, true, false, true, false] c9) ⟨g9_2, o9_2, l9_2⟩ := by
  rw [at9_2]
  exact loop_ok (sub_ok (g := g9_2) (outs := ((.normal, g9_2) :: o9_2)) (f := b9_2) (Table.ok T24_ok _) hmix (q9_2) b9_2_eq) rfl _
abbrev g9_1 : Sg := ⟨[1, 2, 7, 8, 9], [.lf (.sl (.int .u8)), .lf (.ptr 0 0), .lf (.int .i64), .lf (.int .i64), .lf (.int .i64)], [some (.box true [.lf (.int .i64), .lf (.int .i64), .lf (.int .i64), .lf (.int .i64)])]⟩
abbrev o9_1 : Outs := [(.normal, ⟨[1, 7, 8, 9], [.lf (.sl (.int .u8)), .lf (.int .i64), .lf (.int .i64), .lf (.int .i64)], []⟩)]
noncomputable def b9_1 (x : g9_1.D) : Option (outD o9_1) :=
  (if ((x.2.2.2.2.1 == (2 : Int)) = true) then (some (Sum.inl (x.1, (x.2.1, (x.2.2.1, ((0 : Int), Unit.unit))))))
   else (some (Sum.inl (x.1, (x.2.1, (x.2.2.1, (x.2.2.2.1, Unit.unit)))))))
theorem b9_1_eq (x : g9_1.D) : b9_1 x = evF P (T24.orc _) Go.Proofs.Try.f9.ntmps fx9 (Code.at [true, true, true, true, true, true, true, true, false] c9) (planAt 64 []) g9_1 x (injK fx9 o9_1 some) := by kernel_rfl
theorem s9_1_ok : SubOk P Go.Proofs.Try.f9.ntmps fx9 (Code.at [true, true, true, true, true, true, true, true, false] c9) ⟨g9_1, o9_1, b9_1⟩ :=
  sub_ok (g := g9_1) (outs := o9_1) (f := b9_1) (Table.ok T24_ok _) hmix (planAt_ok (P := P) (n := Go.Proofs.Try.f9.ntmps) (fx := fx9) (any := true) (c := (Code.at [true, true, true, true, true, true, true, true, false] c9)) (d := 64) (l := []) trivial) b9_1_eq
noncomputable def f9 (x : gi9.D) : Option go9.D :=
  (Option.bind (Go.Ev.Pre.f14 (x.1, (x.2.1, (x.2.2.1, (x.2.2.2.1, Unit.unit))))) (fun y1 => (if ((y1.1 != (0 : Int)) = true) then (some ([], (y1.1, Unit.unit)))
   else (if ((decide ((((List.length x.2.2.2.2.1) : Nat) : Int) > (1048576 : Int))) = true) then (some ([], ((2 : Int), Unit.unit)))
   else (if ((x.1 == (1 : Int)) = true) then (Option.bind (Go.Ev.Pre.f7 (x.2.2.2.2.1, Unit.unit)) (fun y2 => (some ((List.take (List.length y2.1) (List.drop (0 : Nat) y2.1)), ((0 : Int), Unit.unit)))))
   else (Option.bind (Go.Ev.Pre.f16 (x.1, (x.2.1, (x.2.2.1, (x.2.2.2.1, Unit.unit))))) (fun y2 => (Option.bind (Go.Ev.Pre.f23 (x.1, (x.2.1, (x.2.2.1, (x.2.2.2.1, Unit.unit))))) (fun y3 => (Option.bind (Go.Ev.Pre.b9_1 (x.2.2.2.2.1, (y2.1, (y3.1, ((1 : Int), (x.1, (x.2.1, (x.2.2.1, (x.2.2.2.1, Unit.unit))))))))) (Sum.elim (fun y4 => (if ((Go.IntKind.wrap Go.IntKind.i64 (y4.2.1 + y4.2.2.2.1)) = (0 : Int)) then none
   else (if (((Int.tmod (((List.length y4.1) : Nat) : Int) (Go.IntKind.wrap Go.IntKind.i64 (y4.2.1 + y4.2.2.2.1))) != (0 : Int)) = true) then (some ([], ((4 : Int), Unit.unit)))
   else (Option.bind (Go.Ev.Pre.l9_2 (y4.1, (y4.2.1, (y4.2.2.1, (y4.2.2.2.1, ((0 : Int), ([], ([], Unit.unit)))))))) (Sum.elim (fun y5 => (some ((List.take (List.length y5.1) (List.drop (0 : Nat) y5.1)), ((0 : Int), Unit.unit)))) (Sum.elim (fun y5 => (some (y5.1, (y5.2.1, Unit.unit)))) Empty.elim)))))) Empty.elim)))))))))))
theorem f9_eq (x : gi9.D) : f9 x = evF P (T24.orc _) Go.Proofs.Try.f9.ntmps fx9 c9 (planAt 64 [([true, true, true, true, true, true, true, true, false], ⟨g9_1, o9_1, b9_1⟩), ([true, true, true, true, true, true, true, true, true, true, true, true, false, true, false], ⟨g9_2, o9_2, l9_2⟩)]) gi9 x (fnK fx9 [go9]) := by kernel_rfl
theorem pf9 : AllSub P Go.Proofs.Try.f9.ntmps fx9 true c9 [([true, true, true, true, true, true, true, true, false], ⟨g9_1, o9_1, b9_1⟩), ([true, true, true, true, true, true, true, true, true, true, true, true, false, true, false], ⟨g9_2, o9_2, l9_2⟩)] := And.intro s9_1_ok (And.intro s9_2_ok (trivial))
theorem qf9 : PlanOk P Go.Proofs.Try.f9.ntmps fx9 true (planAt 64 [([true, true, true, true, true, true, true, true, false], ⟨g9_1, o9_1, b9_1⟩), ([true, true, true, true, true, true, true, true, true, true, true, true, false, true, false], ⟨g9_2, o9_2, l9_2⟩)]) c9 := planAt_ok pf9
theorem f9_ok : EntOk P 9 ⟨gi9, [go9], f9⟩ :=
  ent_ok (fn := Go.Proofs.Try.f9) (gi := gi9) (gos := [go9]) (f := f9) (c := c9) (fx := fx9) ⟨Go.Proofs.Try.func9, by kernel_rfl, rfl, by decide +kernel, rfl, rfl⟩ (by kernel_rfl) (Table.ok T24_ok _) hmix (qf9) f9_eq
noncomputable def T9 : Table := T24.add 9 [⟨gi9, [go9], f9⟩] []
theorem T9_ok : TableOk P T9 := Table.plus T24_ok (es := [⟨gi9, [go9], f9⟩]) ⟨f9_ok, trivial⟩ []

/-! ## 10: erasure/predict.Do -/
noncomputable def c10 : Code := Func.code Go.Proofs.Try.f10
abbrev gi10 : Sg := ⟨[0, 1, 2], [.agg [.lf (.int .i64), .lf (.int .i64), .lf (.int .i64), .lf (.int .i64)], .lf (.int .i64), .lf (.sl (.int .u8))], []⟩
abbrev go10 : Sg := ⟨[6, 7], [.lf (.gr (.int .u8) 0), .lf (.int .i64)], [some (.arr true (.int .u8))]⟩
def fx10 : List Bool := []
def fy10_4 : List Bool := [true, true, true, true, true, false, false, false]
abbrev g10_6 : Sg := ⟨[10, 11, 12, 13, 14, 64, 65, 66], [.lf (.ptr 2 0), .lf (.ptr 3 0), .lf (.ptr 4 0), .lf (.sl (.int .u8)), .lf (.int .i64), .lf (.sl (.int .u8)), .lf (.int .i64), .lf (.int .i64)], [some (.box true [.lf (.int .i64), .lf (.int .i64), .lf (.int .i64), .lf (.int .i64)]), some (.box true [.lf (.int .i64)]), some (.box true [.lf (.int .i64)]), some (.box true [.lf (.gr (.int .u8) 8)]), some (.box true [.lf (.sl (.int .u8))]), none, none, none, some (.arr true (.int .u8))]⟩
abbrev o10_6 : Outs := [(.exit 2, ⟨[12, 13], [.lf (.ptr 4 0), .lf (.sl (.int .u8))], [some (.box true [.lf (.int .i64), .lf (.int .i64), .lf (.int .i64), .lf (.int .i64)]), some (.box true [.lf (.int .i64)]), some (.box true [.lf (.int .i64)]), some (.box true [.lf (.gr (.int .u8) 8)]), some (.box true [.lf (.sl (.int .u8))]), none, none, none, some (.arr true (.int .u8))]⟩)]
noncomputable def b10_6 (x : g10_6.D) : Option (outD ((.normal, g10_6) :: o10_6)) :=
  (if ((decide (x.2.2.2.2.1 < x.2.2.2.1)) = true) then (if ((0 : Int) ≤ x.2.2.2.2.1) then (if (x.2.2.2.2.1 < (((List.length x.2.2.1) : Nat) : Int)) then (Option.bind (Go.Ev.Pre.f22 (x.1, ((Go.IntKind.wrap Go.IntKind.i64 (x.2.2.2.2.1 - x.2.2.2.2.2.2.2.2.2.2.1)), Unit.unit))) (fun y1 => (Option.bind (Go.Ev.Pre.f22 (x.2.2.2.2.2.2.2.2.2.2.2.1, (x.2.2.2.2.1, Unit.unit))) (fun y2 => (Option.bind (Go.Ev.Pre.f22 (x.2.2.2.2.2.2.2.2.2.2.2.1, ((Go.IntKind.wrap Go.IntKind.i64 (x.2.2.2.2.1 - x.2.2.2.2.2.2.2.2.2.2.1)), Unit.unit))) (fun y3 => (Option.bind (Go.Ev.Pre.f21 (x.2.1, (y1.1, (y2.1, (y3.1, Unit.unit))))) (fun y4 => (if (((List.length (List.take (List.length x.2.2.2.2.2.2.2.2.2.2.2.2.1) (List.drop (0 : Nat) x.2.2.2.2.2.2.2.2.2.2.2.2.1))) + (List.length (List.take (1 : Nat) (List.drop (0 : Nat) (List.set (List.replicate (1 : Nat) (0 : Int)) (0 : Nat) (Go.IntKind.wrap Go.IntKind.u8 ((List.getD x.2.2.1 (Int.toNat x.2.2.2.2.1) (0 : Int)) - (Go.IntKind.wrap Go.IntKind.u8 y4.1)))))))) ≤ (140737488355328 : Nat)) then (if ((List.length ((List.take (List.length x.2.2.2.2.2.2.2.2.2.2.2.2.1) (List.drop (0 : Nat) x.2.2.2.2.2.2.2.2.2.2.2.2.1)) ++ (List.take (1 : Nat) (List.drop (0 : Nat) (List.set (List.replicate (1 : Nat) (0 : Int)) (0 : Nat) (Go.IntKind.wrap Go.IntKind.u8 ((List.getD x.2.2.1 (Int.toNat x.2.2.2.2.1) (0 : Int)) - (Go.IntKind.wrap Go.IntKind.u8 y4.1)))))))) = (List.length ((List.take (List.length x.2.2.2.2.2.2.2.2.2.2.2.2.1) (List.drop (0 : Nat) x.2.2.2.2.2.2.2.2.2.2.2.2.1)) ++ (List.take (1 : Nat) (List.drop (0 : Nat) (List.set (List.replicate (1 : Nat) (0 : Int)) (0 : Nat) (Go.IntKind.wrap Go.IntKind.u8 ((List.getD x.2.2.1 (Int.toNat x.2.2.2.2.1) (0 : Int)) - (Go.IntKind.wrap Go.IntKind.u8 y4.1))))))))) then (some (Sum.inl (x.1, (x.2.1, (x.2.2.1, (x.2.2.2.1, ((Go.IntKind.wrap Go.IntKind.i64 (x.2.2.2.2.1 + (1 : Int))), (x.2.2.2.2.2.1, (x.2.2.2.2.2.2.1, (x.2.2.2.2.2.2.2.1, (x.2.2.2.2.2.2.2.2.1, (x.2.2.2.2.2.2.2.2.2.1, (x.2.2.2.2.2.2.2.2.2.2.1, (x.2.2.2.2.2.2.2.2.2.2.2.1, (((List.take (List.length x.2.2.2.2.2.2.2.2.2.2.2.2.1) (List.drop (0 : Nat) x.2.2.2.2.2.2.2.2.2.2.2.2.1)) ++ (List.take (1 : Nat) (List.drop (0 : Nat) (List.set (List.replicate (1 : Nat) (0 : Int)) (0 : Nat) (Go.IntKind.wrap Go.IntKind.u8 ((List.getD x.2.2.1 (Int.toNat x.2.2.2.2.1) (0 : Int)) - (Go.IntKind.wrap Go.IntKind.u8 y4.1))))))), Unit.unit)))))))))))))))
   else none)
   else none)))))))))
   else none)
   else none)
   else (if ((List.length x.2.2.2.2.2.2.2.2.2.2.2.2.1) = (List.length x.2.2.2.2.2.2.2.2.2.2.2.2.1)) then (some (Sum.inr (Sum.inl (x.1, (x.2.2.2.2.2.1, (x.2.2.2.2.2.2.1, (x.2.2.2.2.2.2.2.1, (x.2.2.2.2.2.2.2.2.1, (x.2.2.2.2.2.2.2.2.2.1, (x.2.2.2.2.2.2.2.2.2.2.1, (x.2.2.2.2.2.2.2.2.2.2.2.1, (x.2.2.2.2.2.2.2.2.2.2.2.2.1, Unit.unit))))))))))))
   else none))
theorem b10_6_eq (x : g10_6.D) : b10_6 x = evF P (T9.orc _) Go.Proofs.Try.f10.ntmps fy10_4 (Code.at [true, true, true, true, true, true, true, true, true, false, true, false, false, false, true, true, false, true, false, false] c10) (planAt 64 []) g10_6 x (injK fy10_4 ((.normal, g10_6) :: o10_6) some) := by kernel_rfl
noncomputable def l10_6 : g10_6.D → Option (outD o10_6) := loopN g10_6 o10_6 b10_6 18446744073709551616
theorem at10_6 : Code.at [true, true, true, true, true, true, true, true, true, false, true, false, false, false, true, true, false, true, false] c10 = .loop (Code.at [true, true, true, true, true, true, true, true, true, false, true, false, false, false, true, true, false, true, false, false] c10) := by kernel_rfl
theorem s10_6_ok : SubOk P Go.Proofs.Try.f10.ntmps fy10_4 (Code.at [true, true, true, true, true, true, true, true, true, false, true, false, false, false, true, true, false, true, false] c10) ⟨g10_6, o10_6, l10_6⟩ true := by
  rw [at10_6]
  exact loop_ok (sub_ok (g := g10_6) (outs := ((.normal, g10_6) :: o10_6)) (f := b10_6) (Table.ok T9_ok _) hmix (planAt_ok (P := P) (n := Go.Proofs.Try.f10.ntmps) (fx := fy10_4) (any := true) (c := (Code.at [true, true, true, true, true, true, true, true, true, false, true, false, false, false, true, true, false, true, false, false] c10)) (d := 64) (l := []) trivial) b10_6_eq) rfl _
abbrev g10_5 : Sg := ⟨[3, 4, 10, 11, 12, 13, 14], [.lf (.ptr 0 0), .lf (.ptr 1 0), .lf (.ptr 2 0), .lf (.ptr 3 0), .lf (.ptr 4 0), .lf (.sl (.int .u8)), .lf (.int .i64)], [some (.box true [.lf (.int .i64), .lf (.int .i64), .lf (.int .i64), .lf (.int .i64)]), some (.box true [.lf (.int .i64)]), some (.box true [.lf (.int .i64)]), some (.box true [.lf (.gr (.int .u8) 8)]), some (.box true [.lf (.sl (.int .u8))]), none, none, none, some (.arr true (.int .u8))]⟩
abbrev o10_5 : Outs := [(.normal, ⟨[10, 11, 12, 13, 14], [.lf (.ptr 2 0), .lf (.ptr 3 0), .lf (.ptr 4 0), .lf (.sl (.int .u8)), .lf (.int .i64)], [some (.box true [.lf (.int .i64), .lf (.int .i64), .lf (.int .i64), .lf (.int .i64)]), some (.box true [.lf (.int .i64)]), some (.box true [.lf (.int .i64)]), some (.box true [.lf (.gr (.int .u8) 8)]), some (.box true [.lf (.sl (.int .u8))]), none, none, none, some (.arr true (.int .u8))]⟩)]
noncomputable def b10_5 (x : g10_5.D) : Option (outD o10_5) :=
  (if ((decide (x.2.2.1 ≥ (10 : Int))) = true) then (if (((List.length (List.take (List.length x.2.2.2.2.2.2.2.2.2.1) (List.drop (0 : Nat) x.2.2.2.2.2.2.2.2.2.1))) + (List.length (List.take (1 : Nat) (List.drop (0 : Nat) (List.set (List.replicate (1 : Nat) (0 : Int)) (0 : Nat) (Go.IntKind.wrap Go.IntKind.u8 x.2.2.2.2.2.2.1)))))) ≤ (140737488355328 : Nat)) then (if ((List.length ((List.take (List.length x.2.2.2.2.2.2.2.2.2.1) (List.drop (0 : Nat) x.2.2.2.2.2.2.2.2.2.1)) ++ (List.take (1 : Nat) (List.drop (0 : Nat) (List.set (List.replicate (1 : Nat) (0 : Int)) (0 : Nat) (Go.IntKind.wrap Go.IntKind.u8 x.2.2.2.2.2.2.1)))))) = (List.length ((List.take (List.length x.2.2.2.2.2.2.2.2.2.1) (List.drop (0 : Nat) x.2.2.2.2.2.2.2.2.2.1)) ++ (List.take (1 : Nat) (List.drop (0 : Nat) (List.set (List.replicate (1 : Nat) (0 : Int)) (0 : Nat) (Go.IntKind.wrap Go.IntKind.u8 x.2.2.2.2.2.2.1))))))) then (some (Sum.inl (x.1, (x.2.2.2.2.2.2.1, (x.2.2.1, (x.2.2.2.1, (x.2.2.2.2.1, (x.2.2.2.2.2.1, (x.2.2.2.2.2.2.1, (x.2.2.2.2.2.2.2.1, (x.2.2.2.2.2.2.2.2.1, (((List.take (List.length x.2.2.2.2.2.2.2.2.2.1) (List.drop (0 : Nat) x.2.2.2.2.2.2.2.2.2.1)) ++ (List.take (1 : Nat) (List.drop (0 : Nat) (List.set (List.replicate (1 : Nat) (0 : Int)) (0 : Nat) (Go.IntKind.wrap Go.IntKind.u8 x.2.2.2.2.2.2.1))))), Unit.unit))))))))))))
   else none)
   else none)
   else (if ((List.length x.2.2.2.2.2.2.2.2.2.1) = (List.length x.2.2.2.2.2.2.2.2.2.1)) then (some (Sum.inl (x.1, (x.2.1, (x.2.2.1, (x.2.2.2.1, (x.2.2.2.2.1, (x.2.2.2.2.2.1, (x.2.2.2.2.2.2.1, (x.2.2.2.2.2.2.2.1, (x.2.2.2.2.2.2.2.2.1, (x.2.2.2.2.2.2.2.2.2.1, Unit.unit))))))))))))
   else none))
theorem b10_5_eq (x : g10_5.D) : b10_5 x = evF P (T9.orc _) Go.Proofs.Try.f10.ntmps fy10_4 (Code.at [true, true, true, true, true, true, true, true, true, false, true, false, false, false, true, false] c10) (planAt 64 []) g10_5 x (injK fy10_4 o10_5 some) := by kernel_rfl
theorem s10_5_ok : SubOk P Go.Proofs.Try.f10.ntmps fy10_4 (Code.at [true, true, true, true, true, true, true, true, true, false, true, false, false, false, true, false] c10) ⟨g10_5, o10_5, b10_5⟩ true :=
  sub_ok (g := g10_5) (outs := o10_5) (f := b10_5) (Table.ok T9_ok _) hmix (planAt_ok (P := P) (n := Go.Proofs.Try.f10.ntmps) (fx := fy10_4) (any := true) (c := (Code.at [true, true, true, true, true, true, true, true, true, false, true, false, false, false, true, false] c10)) (d := 64) (l := []) trivial) b10_5_eq
abbrev g10_4 : Sg := ⟨[3, 4, 10, 11, 12, 53], [.lf (.ptr 0 0), .lf (.ptr 1 0), .lf (.ptr 2 0), .lf (.ptr 3 0), .lf (.ptr 4 0), .lf (.fnc 27 [(.ptr 6 0), (.ptr 7 0)])], [some (.box true [.lf (.int .i64), .lf (.int .i64), .lf (.int .i64), .lf (.int .i64)]), some (.box true [.lf (.int .i64)]), some (.box true [.lf (.int .i64)]), some (.box true [.lf (.gr (.int .u8) 5)]), some (.box true [.lf (.sl (.int .u8))]), some (.arr true (.int .u8)), some (.box true [.lf (.sl (.int .u8))]), some (.box true [.lf (.int .i64)])]⟩
abbrev r10_4 : Sg := ⟨[3, 4, 10, 11, 12], [.lf (.ptr 0 0), .lf (.ptr 1 0), .lf (.ptr 2 0), .lf (.ptr 3 0), .lf (.ptr 4 0)], [some (.box true [.lf (.int .i64), .lf (.int .i64), .lf (.int .i64), .lf (.int .i64)]), some (.box true [.lf (.int .i64)]), some (.box true [.lf (.int .i64)]), some (.box true [.lf (.gr (.int .u8) 5)]), some (.box true [.lf (.sl (.int .u8))]), some (.arr true (.int .u8)), none, none]⟩
abbrev o10_4 : Outs := []
abbrev ow10_4 : Outs := (.normal, r10_4) :: o10_4
noncomputable def b10_4 (x : r10_4.D × List Int) : Option (outD ow10_4) :=
  (if ((List.length x.1.2.2.2.2.2.2.2.1) = (List.length x.1.2.2.2.2.2.2.2.1)) then (Option.bind (Go.Ev.Pre.b10_5 (x.2, ((1 : Int), (x.1.1, (x.1.2.1, (x.1.2.2.1, (x.1.2.2.2.1, (x.1.2.2.2.2.1, (x.1.2.2.2.2.2.1, (x.1.2.2.2.2.2.2.1, (x.1.2.2.2.2.2.2.2.1, Unit.unit))))))))))) (Sum.elim (fun y1 => (if ((List.length y1.2.2.2.2.2.2.2.2.2.1) = (List.length y1.2.2.2.2.2.2.2.2.2.1)) then (Option.bind (Go.Ev.Pre.l10_6 (y1.1, (y1.2.1, (y1.1, ((((List.length y1.1) : Nat) : Int), ((0 : Int), (y1.2.2.1, (y1.2.2.2.1, (y1.2.2.2.2.1, (y1.2.2.2.2.2.1, (y1.2.2.2.2.2.2.1, (y1.2.2.2.2.2.2.2.1, (y1.2.2.2.2.2.2.2.2.1, (y1.2.2.2.2.2.2.2.2.2.1, Unit.unit)))))))))))))) (Sum.elim (fun y2 => (if ((List.length y2.2.2.2.2.2.2.2.2.1) = (List.length y2.2.2.2.2.2.2.2.2.1)) then (some (Sum.inl (y2.2.1, (y2.2.2.1, (y2.2.2.2.1, (y2.2.2.2.2.1, (y2.2.2.2.2.2.1, (y2.2.2.2.2.2.2.1, (y2.1, (y2.2.2.2.2.2.2.2.2.1, Unit.unit))))))))))
   else none)) Empty.elim))
   else none)) Empty.elim))
   else none)
theorem b10_4_eq (x : r10_4.D × List Int) : b10_4 x = rndF P (T9.orc _) Go.Proofs.Try.f10.ntmps fx10 fy10_4 (Code.at [true, true, true, true, true, true, true, true, true, false, true, false, false] c10) (planAt 64 [([false, true, false], ⟨g10_5, o10_5, b10_5⟩), ([false, true, true, false, true, false], ⟨g10_6, o10_6, l10_6⟩)]) 54 13 x.1 (.lf (.sl (.int .u8) x.2 none)) := by kernel_rfl
noncomputable def l10_4 : g10_4.D → Option (outD ow10_4) := rangeF g10_4 r10_4 o10_4 (fun x c => b10_4 (x, c)) (fun x => (x.1, x.2.1, x.2.2.1, x.2.2.2.1, x.2.2.2.2.1, x.2.2.2.2.2.1, x.2.2.2.2.2.2.1, x.2.2.2.2.2.2.2.1, ())) (fun x => x.2.2.2.2.2.2.2.2.1) (fun x => x.2.2.2.2.2.2.2.2.2.1)
theorem p10_4 : AllSub P Go.Proofs.Try.f10.ntmps fy10_4 true (Code.at [true, true, true, true, true, true, true, true, true, false, true, false, false] c10) [([false, true, false], ⟨g10_5, o10_5, b10_5⟩), ([false, true, true, false, true, false], ⟨g10_6, o10_6, l10_6⟩)] := And.intro s10_5_ok (And.intro s10_6_ok (trivial))
theorem q10_4 : PlanOk P Go.Proofs.Try.f10.ntmps fy10_4 true (planAt 64 [([false, true, false], ⟨g10_5, o10_5, b10_5⟩), ([false, true, true, false, true, false], ⟨g10_6, o10_6, l10_6⟩)]) (Code.at [true, true, true, true, true, true, true, true, true, false, true, false, false] c10) := planAt_ok p10_4
theorem at10_4 : Code.at [true, true, true, true, true, true, true, true, true, false, true, false] c10 = .rangeFunc (.tmp 53) #[54] (asg 14 24 "predict.go:147" 54 13) (Code.at [true, true, true, true, true, true, true, true, true, false, true, false, false] c10) := by kernel_rfl
theorem s10_4_ok : SubOk P Go.Proofs.Try.f10.ntmps fx10 (Code.at [true, true, true, true, true, true, true, true, true, false, true, false] c10) ⟨g10_4, ow10_4, l10_4⟩ false := by
  rw [at10_4]
  exact range_ok (gin := g10_4) (gi := r10_4) (outs := o10_4) (Table.ok T9_ok _) hmix (by kernel_rfl : subB fx10 fy10_4 = true) (q10_4) (by decide +kernel) (by decide +kernel) rfl (fun x c => b10_4_eq (x, c)) chunk27_iter (pj := (fun x => (x.1, x.2.1, x.2.2.1, x.2.2.2.1, x.2.2.2.2.1, x.2.2.2.2.2.1, x.2.2.2.2.2.2.1, x.2.2.2.2.2.2.2.1, ()))) (xs := (fun x => x.2.2.2.2.2.2.2.2.1)) (nn := (fun x => x.2.2.2.2.2.2.2.2.2.1)) (own1 := true) (own2 := true) (k1 := 6) rfl rfl rfl rfl (fun _ => by kernel_rfl) (fun y => ⟨(r10_4.objs ((fun x => (x.1, x.2.1, x.2.2.1, x.2.2.2.1, x.2.2.2.2.1, x.2.2.2.2.2.1, x.2.2.2.2.2.2.1, x.2.2.2.2.2.2.2.1, ())) y)).take 6, by kernel_rfl, by kernel_rfl, by kernel_rfl⟩)
abbrev g10_3 : Sg := ⟨[2, 3, 4, 8, 9], [.lf (.sl (.int .u8)), .lf (.ptr 0 0), .lf (.ptr 1 0), .lf (.int .i64), .lf (.int .i64)], [some (.box true [.lf (.int .i64), .lf (.int .i64), .lf (.int .i64), .lf (.int .i64)]), some (.box true [.lf (.int .i64)])]⟩
abbrev o10_3 : Outs := [(.normal, ⟨[2, 3, 4, 8, 9], [.lf (.sl (.int .u8)), .lf (.ptr 0 0), .lf (.ptr 1 0), .lf (.int .i64), .lf (.int .i64)], [some (.box true [.lf (.int .i64), .lf (.int .i64), .lf (.int .i64), .lf (.int .i64)]), some (.box true [.lf (.int .i64)])]⟩)]
noncomputable def b10_3 (x : g10_3.D) : Option (outD o10_3) :=
  (if ((x.2.1 == (0 : Int)) = true) then (Option.bind (Go.Ev.Pre.f17 (x.2.2.2.1, (x.2.2.2.2.1, (x.2.2.2.2.2.1, (x.2.2.2.2.2.2.1, (x.1, (x.2.2.1, Unit.unit))))))) (fun y1 => (some (Sum.inl (x.1, (y1.1, (x.2.2.1, (x.2.2.2.1, (x.2.2.2.2.1, (x.2.2.2.2.2.1, (x.2.2.2.2.2.2.1, (x.2.2.2.2.2.2.2.1, Unit.unit))))))))))))
   else (some (Sum.inl (x.1, (x.2.1, (x.2.2.1, (x.2.2.2.1, (x.2.2.2.2.1, (x.2.2.2.2.2.1, (x.2.2.2.2.2.2.1, (x.2.2.2.2.2.2.2.1, Unit.unit)))))))))))
theorem b10_3_eq (x : g10_3.D) : b10_3 x = evF P (T9.orc _) Go.Proofs.Try.f10.ntmps fx10 (Code.at [true, true, true, true, false] c10) (planAt 64 []) g10_3 x (injK fx10 o10_3 some) := by kernel_rfl
theorem s10_3_ok : SubOk P Go.Proofs.Try.f10.ntmps fx10 (Code.at [true, true, true, true, false] c10) ⟨g10_3, o10_3, b10_3⟩ false :=
  sub_ok (g := g10_3) (outs := o10_3) (f := b10_3) (Table.ok T9_ok _) hmix (planAt_ok (P := P) (n := Go.Proofs.Try.f10.ntmps) (fx := fx10) (any := false) (c := (Code.at [true, true, true, true, false] c10)) (d := 64) (l := []) trivial) b10_3_eq
abbrev g10_2 : Sg := ⟨[2, 3, 4, 8], [.lf (.sl (.int .u8)), .lf (.ptr 0 0), .lf (.ptr 1 0), .lf (.int .i64)], [some (.box true [.lf (.int .i64), .lf (.int .i64), .lf (.int .i64), .lf (.int .i64)]), some (.box true [.lf (.int .i64)])]⟩
abbrev o10_2 : Outs := [(.normal, ⟨[2, 3, 4, 8, 28], [.lf (.sl (.int .u8)), .lf (.ptr 0 0), .lf (.ptr 1 0), .lf (.int .i64), .lf .bool], [some (.box true [.lf (.int .i64), .lf (.int .i64), .lf (.int .i64), .lf (.int .i64)]), some (.box true [.lf (.int .i64)])]⟩)]
noncomputable def b10_2 (x : g10_2.D) : Option (outD o10_2) :=
  (if ((x.2.1 == (0 : Int)) = true) then (if ((decide (x.2.2.2.2.2.2.1 < (0 : Int))) = true) then (some (Sum.inl (x.1, (x.2.1, (true, (x.2.2.1, (x.2.2.2.1, (x.2.2.2.2.1, (x.2.2.2.2.2.1, (x.2.2.2.2.2.2.1, Unit.unit))))))))))
   else (some (Sum.inl (x.1, (x.2.1, ((decide (x.2.2.2.2.2.2.1 > (4 : Int))), (x.2.2.1, (x.2.2.2.1, (x.2.2.2.2.1, (x.2.2.2.2.2.1, (x.2.2.2.2.2.2.1, Unit.unit)))))))))))
   else (some (Sum.inl (x.1, (x.2.1, (false, (x.2.2.1, (x.2.2.2.1, (x.2.2.2.2.1, (x.2.2.2.2.2.1, (x.2.2.2.2.2.2.1, Unit.unit)))))))))))
theorem b10_2_eq (x : g10_2.D) : b10_2 x = evF P (T9.orc _) Go.Proofs.Try.f10.ntmps fx10 (Code.at [true, true, false, false] c10) (planAt 64 []) g10_2 x (injK fx10 o10_2 some) := by kernel_rfl
theorem s10_2_ok : SubOk P Go.Proofs.Try.f10.ntmps fx10 (Code.at [true, true, false, false] c10) ⟨g10_2, o10_2, b10_2⟩ false :=
  sub_ok (g := g10_2) (outs := o10_2) (f := b10_2) (Table.ok T9_ok _) hmix (planAt_ok (P := P) (n := Go.Proofs.Try.f10.ntmps) (fx := fx10) (any := false) (c := (Code.at [true, true, false, false] c10)) (d := 64) (l := []) trivial) b10_2_eq
abbrev g10_1 : Sg := ⟨[2, 3, 4, 8], [.lf (.sl (.int .u8)), .lf (.ptr 0 0), .lf (.ptr 1 0), .lf (.int .i64)], [some (.box true [.lf (.int .i64), .lf (.int .i64), .lf (.int .i64), .lf (.int .i64)]), some (.box true [.lf (.int .i64)])]⟩
abbrev o10_1 : Outs := [(.normal, ⟨[2, 3, 4, 8], [.lf (.sl (.int .u8)), .lf (.ptr 0 0), .lf (.ptr 1 0), .lf (.int .i64)], [some (.box true [.lf (.int .i64), .lf (.int .i64), .lf (.int .i64), .lf (.int .i64)]), some (.box true [.lf (.int .i64)])]⟩)]
noncomputable def b10_1 (x : g10_1.D) : Option (outD o10_1) :=
  (Option.bind (Go.Ev.Pre.b10_2 (x.1, (x.2.1, (x.2.2.1, (x.2.2.2.1, (x.2.2.2.2.1, (x.2.2.2.2.2.1, (x.2.2.2.2.2.2.1, Unit.unit)))))))) (Sum.elim (fun y1 => (if (y1.2.2.1 = true) then (some (Sum.inl (y1.1, ((1 : Int), (y1.2.2.2.1, (y1.2.2.2.2.1, (y1.2.2.2.2.2.1, (y1.2.2.2.2.2.2.1, (y1.2.2.2.2.2.2.2.1, Unit.unit)))))))))
   else (some (Sum.inl (y1.1, (y1.2.1, (y1.2.2.2.1, (y1.2.2.2.2.1, (y1.2.2.2.2.2.1, (y1.2.2.2.2.2.2.1, (y1.2.2.2.2.2.2.2.1, Unit.unit))))))))))) Empty.elim))
theorem b10_1_eq (x : g10_1.D) : b10_1 x = evF P (T9.orc _) Go.Proofs.Try.f10.ntmps fx10 (Code.at [true, true, false] c10) (planAt 64 [([false], ⟨g10_2, o10_2, b10_2⟩)]) g10_1 x (injK fx10 o10_1 some) := by kernel_rfl
theorem p10_1 : AllSub P Go.Proofs.Try.f10.ntmps fx10 false (Code.at [true, true, false] c10) [([false], ⟨g10_2, o10_2, b10_2⟩)] := And.intro s10_2_ok (trivial)
theorem q10_1 : PlanOk P Go.Proofs.Try.f10.ntmps fx10 false (planAt 64 [([false], ⟨g10_2, o10_2, b10_2⟩)]) (Code.at [true, true, false] c10) := planAt_ok p10_1
theorem s10_1_ok : SubOk P Go.Proofs.Try.f10.ntmps fx10 (Code.at [true, true, false] c10) ⟨g10_1, o10_1, b10_1⟩ false :=
  sub_ok (g := g10_1) (outs := o10_1) (f := b10_1) (Table.ok T9_ok _) hmix (q10_1) b10_1_eq
noncomputable def f10 (x : gi10.D) : Option go10.D :=
  (Option.bind (Go.Ev.Pre.f13 (x.1, (x.2.1, (x.2.2.1, (x.2.2.2.1, Unit.unit))))) (fun y1 => (Option.bind (Go.Ev.Pre.b10_1 (x.2.2.2.2.2.1, (y1.1, (x.1, (x.2.1, (x.2.2.1, (x.2.2.2.1, (x.2.2.2.2.1, Unit.unit)))))))) (Sum.elim (fun y2 => (Option.bind (Go.Ev.Pre.f15 (y2.2.2.1, (y2.2.2.2.1, (y2.2.2.2.2.1, (y2.2.2.2.2.2.1, Unit.unit))))) (fun y3 => (Option.bind (Go.Ev.Pre.b10_3 (y2.1, (y2.2.1, (y3.1, (y2.2.2.1, (y2.2.2.2.1, (y2.2.2.2.2.1, (y2.2.2.2.2.2.1, (y2.2.2.2.2.2.2.1, Unit.unit))))))))) (Sum.elim (fun y4 => (if ((y4.2.1 != (0 : Int)) = true) then (some (y4.2.1, ([], Unit.unit)))
   else (if ((y4.2.2.2.1 == (1 : Int)) = true) then (Option.bind (Go.Ev.Pre.f18 (y4.1, Unit.unit)) (fun y5 => (if ((List.length y5.1) = (List.length y5.1)) then (some ((0 : Int), (y5.1, Unit.unit)))
   else none)))
   else (Option.bind (Go.Ev.Pre.f19 ((Go.IntKind.wrap Go.IntKind.i64 (y4.2.2.2.2.1 * y4.2.2.2.2.2.1)), Unit.unit)) (fun y5 => (Option.bind (Go.Ev.Pre.f20 (y4.1, (y4.2.2.1, Unit.unit))) (fun y6 => (Option.bind (Go.Ev.Pre.l10_4 (y4.2.2.2.1, (y4.2.2.2.2.1, (y4.2.2.2.2.2.1, (y4.2.2.2.2.2.2.1, (y4.2.2.2.2.2.2.2.1, (y5.1, ([], ([], (y6.1, (y6.2.1, Unit.unit))))))))))) (Sum.elim (fun y7 => (if ((List.length y7.2.2.2.2.2.2.2.1) = (List.length y7.2.2.2.2.2.2.2.1)) then (some ((0 : Int), (y7.2.2.2.2.2.2.2.1, Unit.unit)))
   else none)) Empty.elim))))))))) Empty.elim))))) Empty.elim))))
theorem f10_eq (x : gi10.D) : f10 x = evF P (T9.orc _) Go.Proofs.Try.f10.ntmps fx10 c10 (planAt 64 [([true, true, false], ⟨g10_1, o10_1, b10_1⟩), ([true, true, true, true, false], ⟨g10_3, o10_3, b10_3⟩), ([true, true, true, true, true, true, true, true, true, false, true, false], ⟨g10_4, ow10_4, l10_4⟩)]) gi10 x (fnK fx10 [go10]) := by kernel_rfl
theorem pf10 : AllSub P Go.Proofs.Try.f10.ntmps fx10 false c10 [([true, true, false], ⟨g10_1, o10_1, b10_1⟩), ([true, true, true, true, false], ⟨g10_3, o10_3, b10_3⟩), ([true, true, true, true, true, true, true, true, true, false, true, false], ⟨g10_4, ow10_4, l10_4⟩)] := And.intro s10_1_ok (And.intro s10_3_ok (And.intro s10_4_ok (trivial)))
theorem qf10 : PlanOk P Go.Proofs.Try.f10.ntmps fx10 false (planAt 64 [([true, true, false], ⟨g10_1, o10_1, b10_1⟩), ([true, true, true, true, false], ⟨g10_3, o10_3, b10_3⟩), ([true, true, true, true, true, true, true, true, true, false, true, false], ⟨g10_4, ow10_4, l10_4⟩)]) c10 := planAt_ok pf10
theorem f10_ok : EntOk P 10 ⟨gi10, [go10], f10⟩ :=
  ent_ok (fn := Go.Proofs.Try.f10) (gi := gi10) (gos := [go10]) (f := f10) (c := c10) (fx := fx10) ⟨Go.Proofs.Try.func10, by kernel_rfl, rfl, by decide +kernel, rfl, rfl⟩ (by kernel_rfl) (Table.ok T9_ok _) hmix (qf10) f10_eq
noncomputable def T10 : Table := T9.add 10 [⟨gi10, [go10], f10⟩] []
theorem T10_ok : TableOk P T10 := Table.plus T9_ok (es := [⟨gi10, [go10], f10⟩]) ⟨f10_ok, trivial⟩ []

/-! ## 11: erasure/erasureref09.Do -/
noncomputable def c11 : Code := Func.code Go.Proofs.Try.f11
abbrev gi11 : Sg := ⟨[0, 1, 2], [.agg [.lf (.int .i64), .lf (.int .i64), .lf (.int .i64), .lf (.int .i64)], .lf (.int .i64), .lf (.sl (.int .u8))], []⟩
abbrev go11 : Sg := ⟨[6, 7], [.lf (.gr (.int .u8) 0), .lf (.int .i64)], [some (.arr true (.int .u8))]⟩
def fx11 : List Bool := []
abbrev g11_3 : Sg := ⟨[1, 2, 3, 9, 10, 11, 12, 13, 14, 15, 16], [.lf (.int .i64), .lf (.sl (.int .u8)), .lf (.ptr 0 0), .lf (.int .i64), .lf (.int .i64), .lf (.gr (.int .u8) 1), .lf (.sl (.int .u8)), .lf (.int .i64), .lf (.sl (.int .u8)), .lf (.int .i64), .lf (.int .i64)], [some (.box true [.lf (.int .i64), .lf (.int .i64), .lf (.int .i64), .lf (.int .i64)]), some (.arr true (.int .u8))]⟩
abbrev o11_3 : Outs := [(.exit 2, ⟨[1, 2, 3, 9, 10, 11, 13, 14], [.lf (.int .i64), .lf (.sl (.int .u8)), .lf (.ptr 0 0), .lf (.int .i64), .lf (.int .i64), .lf (.gr (.int .u8) 1), .lf (.int .i64), .lf (.sl (.int .u8))], [some (.box true [.lf (.int .i64), .lf (.int .i64), .lf (.int .i64), .lf (.int .i64)]), some (.arr true (.int .u8))]⟩)]
noncomputable def b11_3 (x : g11_3.D) : Option (outD ((.normal, g11_3) :: o11_3)) :=
  (if ((decide (x.2.2.2.2.2.2.2.2.1 < x.2.2.1)) = true) then (if ((0 : Int) ≤ x.2.2.2.2.2.2.2.2.1) then (if (x.2.2.2.2.2.2.2.2.1 < (((List.length x.2.2.2.2.2.2.1) : Nat) : Int)) then (Option.bind (Go.Ev.Pre.f25 (x.2.2.2.2.2.2.1, ((Go.IntKind.wrap Go.IntKind.i64 (x.2.2.2.2.2.2.2.2.1 - x.2.2.2.1)), Unit.unit))) (fun y1 => (Option.bind (Go.Ev.Pre.f25 (x.2.2.2.2.1, (x.2.2.2.2.2.2.2.2.1, Unit.unit))) (fun y2 => (Option.bind (Go.Ev.Pre.f25 (x.2.2.2.2.1, ((Go.IntKind.wrap Go.IntKind.i64 (x.2.2.2.2.2.2.2.2.1 - x.2.2.2.1)), Unit.unit))) (fun y3 => (Option.bind (Go.Ev.Pre.f24 (x.2.2.2.2.2.2.2.1, (y1.1, (y2.1, (y3.1, Unit.unit))))) (fun y4 => (if (((List.length (List.take (List.length x.2.2.2.2.2.2.2.2.2.2.2.2.2.1) (List.drop (0 : Nat) x.2.2.2.2.2.2.2.2.2.2.2.2.2.1))) + (List.length (List.take (1 : Nat) (List.drop (0 : Nat) (List.set (List.replicate (1 : Nat) (0 : Int)) (0 : Nat) (Go.IntKind.wrap Go.IntKind.u8 (Int.tmod (Go.IntKind.wrap Go.IntKind.i64 ((Go.IntKind.wrap Go.IntKind.i64 ((Go.IntKind.wrap Go.IntKind.i64 (List.getD x.2.2.2.2.2.2.1 (Int.toNat x.2.2.2.2.2.2.2.2.1) (0 : Int))) + (256 : Int))) - y4.1)) (256 : Int)))))))) ≤ (140737488355328 : Nat)) then (if ((List.length ((List.take (List.length x.2.2.2.2.2.2.2.2.2.2.2.2.2.1) (List.drop (0 : Nat) x.2.2.2.2.2.2.2.2.2.2.2.2.2.1)) ++ (List.take (1 : Nat) (List.drop (0 : Nat) (List.set (List.replicate (1 : Nat) (0 : Int)) (0 : Nat) (Go.IntKind.wrap Go.IntKind.u8 (Int.tmod (Go.IntKind.wrap Go.IntKind.i64 ((Go.IntKind.wrap Go.IntKind.i64 ((Go.IntKind.wrap Go.IntKind.i64 (List.getD x.2.2.2.2.2.2.1 (Int.toNat x.2.2.2.2.2.2.2.2.1) (0 : Int))) + (256 : Int))) - y4.1)) (256 : Int)))))))) = (List.length ((List.take (List.length x.2.2.2.2.2.2.2.2.2.2.2.2.2.1) (List.drop (0 : Nat) x.2.2.2.2.2.2.2.2.2.2.2.2.2.1)) ++ (List.take (1 : Nat) (List.drop (0 : Nat) (List.set (List.replicate (1 : Nat) (0 : Int)) (0 : Nat) (Go.IntKind.wrap Go.IntKind.u8 (Int.tmod (Go.IntKind.wrap Go.IntKind.i64 ((Go.IntKind.wrap Go.IntKind.i64 ((Go.IntKind.wrap Go.IntKind.i64 (List.getD x.2.2.2.2.2.2.1 (Int.toNat x.2.2.2.2.2.2.2.2.1) (0 : Int))) + (256 : Int))) - y4.1)) (256 : Int))))))))) then (some (Sum.inl (x.1, (x.2.1, (x.2.2.1, (x.2.2.2.1, (x.2.2.2.2.1, (x.2.2.2.2.2.1, (x.2.2.2.2.2.2.1, (x.2.2.2.2.2.2.2.1, ((Go.IntKind.wrap Go.IntKind.i64 (x.2.2.2.2.2.2.2.2.1 + (1 : Int))), (x.2.2.2.2.2.2.2.2.2.1, (x.2.2.2.2.2.2.2.2.2.2.1, (x.2.2.2.2.2.2.2.2.2.2.2.1, (x.2.2.2.2.2.2.2.2.2.2.2.2.1, (((List.take (List.length x.2.2.2.2.2.2.2.2.2.2.2.2.2.1) (List.drop (0 : Nat) x.2.2.2.2.2.2.2.2.2.2.2.2.2.1)) ++ (List.take (1 : Nat) (List.drop (0 : Nat) (List.set (List.replicate (1 : Nat) (0 : Int)) (0 : Nat) (Go.IntKind.wrap Go.IntKind.u8 (Int.tmod (Go.IntKind.wrap Go.IntKind.i64 ((Go.IntKind.wrap Go.IntKind.i64 ((Go.IntKind.wrap Go.IntKind.i64 (List.getD x.2.2.2.2.2.2.1 (Int.toNat x.2.2.2.2.2.2.2.2.1) (0 : Int))) + (256 : Int))) - y4.1)) (256 : Int))))))), Unit.unit))))))))))))))))
   else none)
   else none)))))))))
   else none)
   else none)
   else (if ((List.length x.2.2.2.2.2.2.2.2.2.2.2.2.2.1) = (List.length x.2.2.2.2.2.2.2.2.2.2.2.2.2.1)) then (some (Sum.inr (Sum.inl (x.1, (x.2.1, (x.2.2.1, (x.2.2.2.1, (x.2.2.2.2.2.1, (x.2.2.2.2.2.2.1, (x.2.2.2.2.2.2.2.2.2.1, (x.2.2.2.2.2.2.2.2.2.2.1, (x.2.2.2.2.2.2.2.2.2.2.2.1, (x.2.2.2.2.2.2.2.2.2.2.2.2.1, (x.2.2.2.2.2.2.2.2.2.2.2.2.2.1, Unit.unit))))))))))))))
   else none))
theorem b11_3_eq (x : g11_3.D) : b11_3 x = evF P (T10.orc _) Go.Proofs.Try.f11.ntmps fx11 (Code.at [true, true, true, true, true, true, true, true, true, true, true, false, true, false, false, true, false, false, true, true, true, false, true, false, false] c11) (planAt 64 []) g11_3 x (injK fx11 ((.normal, g11_3) :: o11_3) some) := by kernel_rfl
noncomputable def l11_3 : g11_3.D → Option (outD o11_3) := loopN g11_3 o11_3 b11_3 18446744073709551616
theorem at11_3 : Code.at [true, true, true, true, true, true, true, true, true, true, true, false, true, false, false, true, false, false, true, true, true, false, true, false] c11 = .loop (Code.at [true, true, true, true, true, true, true, true, true, true, true, false, true, false, false, true, false, false, true, true, true, false, true, false, false] c11) := by kernel_rfl
theorem s11_3_ok : SubOk P Go.Proofs.Try.f11.ntmps fx11 (Code.at [true, true, true, true, true, true, true, true, true, true, true, false, true, false, false, true, false, false, true, true, true, false, true, false] c11) ⟨g11_3, o11_3, l11_3⟩ := by
  rw [at11_3]
  exact loop_ok (sub_ok (g := g11_3) (outs := ((.normal, g11_3) :: o11_3)) (f := b11_3) (Table.ok T10_ok _) hmix (planAt_ok (P := P) (n := Go.Proofs.Try.f11.ntmps) (fx := fx11) (any := true) (c := (Code.at [true, true, true, true, true, true, true, true, true, true, true, false, true, false, false, true, false, false, true, true, true, false, true, false, false] c11)) (d := 64) (l := []) trivial) b11_3_eq) rfl _
abbrev g11_2 : Sg := ⟨[1, 2, 3, 9, 10, 11, 12, 13, 14, 15], [.lf (.int .i64), .lf (.sl (.int .u8)), .lf (.ptr 0 0), .lf (.int .i64), .lf (.int .i64), .lf (.gr (.int .u8) 1), .lf (.sl (.int .u8)), .lf (.int .i64), .lf (.sl (.int .u8)), .lf (.int .i64)], [some (.box true [.lf (.int .i64), .lf (.int .i64), .lf (.int .i64), .lf (.int .i64)]), some (.arr true (.int .u8))]⟩
abbrev o11_2 : Outs := [(.normal, ⟨[1, 2, 3, 9, 10, 11, 12, 13, 14, 15], [.lf (.int .i64), .lf (.sl (.int .u8)), .lf (.ptr 0 0), .lf (.int .i64), .lf (.int .i64), .lf (.gr (.int .u8) 1), .lf (.sl (.int .u8)), .lf (.int .i64), .lf (.sl (.int .u8)), .lf (.int .i64)], [some (.box true [.lf (.int .i64), .lf (.int .i64), .lf (.int .i64), .lf (.int .i64)]), some (.arr true (.int .u8))]⟩)]
noncomputable def b11_2 (x : g11_2.D) : Option (outD o11_2) :=
  (if ((decide (x.2.2.2.2.2.2.2.2.1 > (2 : Int))) = true) then (if (((List.length (List.take (List.length x.2.2.2.2.2.2.2.2.2.2.2.2.1) (List.drop (0 : Nat) x.2.2.2.2.2.2.2.2.2.2.2.2.1))) + (List.length (List.take (1 : Nat) (List.drop (0 : Nat) (List.set (List.replicate (1 : Nat) (0 : Int)) (0 : Nat) (Go.IntKind.wrap Go.IntKind.u8 x.1)))))) ≤ (140737488355328 : Nat)) then (if ((List.length ((List.take (List.length x.2.2.2.2.2.2.2.2.2.2.2.2.1) (List.drop (0 : Nat) x.2.2.2.2.2.2.2.2.2.2.2.2.1)) ++ (List.take (1 : Nat) (List.drop (0 : Nat) (List.set (List.replicate (1 : Nat) (0 : Int)) (0 : Nat) (Go.IntKind.wrap Go.IntKind.u8 x.1)))))) = (List.length ((List.take (List.length x.2.2.2.2.2.2.2.2.2.2.2.2.1) (List.drop (0 : Nat) x.2.2.2.2.2.2.2.2.2.2.2.2.1)) ++ (List.take (1 : Nat) (List.drop (0 : Nat) (List.set (List.replicate (1 : Nat) (0 : Int)) (0 : Nat) (Go.IntKind.wrap Go.IntKind.u8 x.1))))))) then (some (Sum.inl (x.1, (x.2.1, (x.2.2.1, (x.2.2.2.1, (x.2.2.2.2.1, (x.2.2.2.2.2.1, (x.2.2.2.2.2.2.1, (x.1, (x.2.2.2.2.2.2.2.2.1, (x.2.2.2.2.2.2.2.2.2.1, (x.2.2.2.2.2.2.2.2.2.2.1, (x.2.2.2.2.2.2.2.2.2.2.2.1, (((List.take (List.length x.2.2.2.2.2.2.2.2.2.2.2.2.1) (List.drop (0 : Nat) x.2.2.2.2.2.2.2.2.2.2.2.2.1)) ++ (List.take (1 : Nat) (List.drop (0 : Nat) (List.set (List.replicate (1 : Nat) (0 : Int)) (0 : Nat) (Go.IntKind.wrap Go.IntKind.u8 x.1))))), Unit.unit)))))))))))))))
   else none)
   else none)
   else (if ((List.length x.2.2.2.2.2.2.2.2.2.2.2.2.1) = (List.length x.2.2.2.2.2.2.2.2.2.2.2.2.1)) then (some (Sum.inl (x.1, (x.2.1, (x.2.2.1, (x.2.2.2.1, (x.2.2.2.2.1, (x.2.2.2.2.2.1, (x.2.2.2.2.2.2.1, (x.2.2.2.2.2.2.2.1, (x.2.2.2.2.2.2.2.2.1, (x.2.2.2.2.2.2.2.2.2.1, (x.2.2.2.2.2.2.2.2.2.2.1, (x.2.2.2.2.2.2.2.2.2.2.2.1, (x.2.2.2.2.2.2.2.2.2.2.2.2.1, Unit.unit)))))))))))))))
   else none))
theorem b11_2_eq (x : g11_2.D) : b11_2 x = evF P (T10.orc _) Go.Proofs.Try.f11.ntmps fx11 (Code.at [true, true, true, true, true, true, true, true, true, true, true, false, true, false, false, true, false, false, true, true, false] c11) (planAt 64 []) g11_2 x (injK fx11 o11_2 some) := by kernel_rfl
theorem s11_2_ok : SubOk P Go.Proofs.Try.f11.ntmps fx11 (Code.at [true, true, true, true, true, true, true, true, true, true, true, false, true, false, false, true, false, false, true, true, false] c11) ⟨g11_2, o11_2, b11_2⟩ :=
  sub_ok (g := g11_2) (outs := o11_2) (f := b11_2) (Table.ok T10_ok _) hmix (planAt_ok (P := P) (n := Go.Proofs.Try.f11.ntmps) (fx := fx11) (any := true) (c := (Code.at [true, true, true, true, true, true, true, true, true, true, true, false, true, false, false, true, false, false, true, true, false] c11)) (d := 64) (l := []) trivial) b11_2_eq
abbrev g11_1 : Sg := ⟨[1, 2, 3, 9, 10, 11, 12, 13], [.lf (.int .i64), .lf (.sl (.int .u8)), .lf (.ptr 0 0), .lf (.int .i64), .lf (.int .i64), .lf (.gr (.int .u8) 1), .lf (.sl (.int .u8)), .lf (.int .i64)], [some (.box true [.lf (.int .i64), .lf (.int .i64), .lf (.int .i64), .lf (.int .i64)]), some (.arr true (.int .u8))]⟩
abbrev o11_1 : Outs := [(.exit 0, ⟨[11], [.lf (.gr (.int .u8) 0)], [some (.arr true (.int .u8))]⟩)]
noncomputable def b11_1 (x : g11_1.D) : Option (outD ((.normal, g11_1) :: o11_1)) :=
  (if ((decide (x.2.2.2.2.2.1 < (((List.length x.2.1) : Nat) : Int))) = true) then (if ((0 : Int) ≤ (Go.IntKind.wrap Go.IntKind.i64 (x.2.2.2.2.2.1 + x.2.2.1))) then (if ((Go.IntKind.wrap Go.IntKind.i64 (x.2.2.2.2.2.1 + x.2.2.1)) ≤ (((List.length x.2.1) : Nat) : Int)) then (if ((0 : Int) ≤ x.2.2.2.2.2.1) then (if (x.2.2.2.2.2.1 ≤ (((Int.toNat (Go.IntKind.wrap Go.IntKind.i64 (x.2.2.2.2.2.1 + x.2.2.1))) : Nat) : Int)) then (if ((List.length x.2.2.2.2.2.2.2.2.2.2.1) = (List.length x.2.2.2.2.2.2.2.2.2.2.1)) then (Option.bind (Go.Ev.Pre.b11_2 (x.1, (x.2.1, (x.2.2.1, (x.2.2.2.1, (x.2.2.2.2.1, (x.2.2.2.2.2.1, ((List.drop (Int.toNat x.2.2.2.2.2.1) (List.take (Int.toNat (Go.IntKind.wrap Go.IntKind.i64 (x.2.2.2.2.2.1 + x.2.2.1))) x.2.1)), ((1 : Int), (x.2.2.2.2.2.2.1, (x.2.2.2.2.2.2.2.1, (x.2.2.2.2.2.2.2.2.1, (x.2.2.2.2.2.2.2.2.2.1, (x.2.2.2.2.2.2.2.2.2.2.1, Unit.unit)))))))))))))) (Sum.elim (fun y1 => (if ((List.length y1.2.2.2.2.2.2.2.2.2.2.2.2.1) = (List.length y1.2.2.2.2.2.2.2.2.2.2.2.2.1)) then (Option.bind (Go.Ev.Pre.l11_3 (y1.1, (y1.2.1, (y1.2.2.1, (y1.2.2.2.1, (y1.2.2.2.2.1, (y1.2.2.2.2.2.1, (y1.2.2.2.2.2.2.1, (y1.2.2.2.2.2.2.2.1, ((0 : Int), (y1.2.2.2.2.2.2.2.2.1, (y1.2.2.2.2.2.2.2.2.2.1, (y1.2.2.2.2.2.2.2.2.2.2.1, (y1.2.2.2.2.2.2.2.2.2.2.2.1, (y1.2.2.2.2.2.2.2.2.2.2.2.2.1, Unit.unit))))))))))))))) (Sum.elim (fun y2 => (if ((List.length y2.2.2.2.2.2.2.2.2.2.2.1) = (List.length y2.2.2.2.2.2.2.2.2.2.2.1)) then (some (Sum.inl (y2.1, (y2.2.1, (y2.2.2.1, (y2.2.2.2.1, (y2.2.2.2.2.2.1, ((Go.IntKind.wrap Go.IntKind.i64 (y2.2.2.2.2.1 + y2.2.2.1)), (y2.2.2.2.2.2.2.1, (y2.2.2.2.2.2.2.2.1, (y2.2.2.2.2.2.2.2.2.1, (y2.2.2.2.2.2.2.2.2.2.1, (y2.2.2.2.2.2.2.2.2.2.2.1, Unit.unit)))))))))))))
   else none)) Empty.elim))
   else none)) Empty.elim))
   else none)
   else none)
   else none)
   else none)
   else none)
   else (if ((List.length x.2.2.2.2.2.2.2.2.2.2.1) = (List.length x.2.2.2.2.2.2.2.2.2.2.1)) then (some (Sum.inr (Sum.inl (x.2.2.2.2.2.2.2.2.2.2.1, Unit.unit))))
   else none))
theorem b11_1_eq (x : g11_1.D) : b11_1 x = evF P (T10.orc _) Go.Proofs.Try.f11.ntmps fx11 (Code.at [true, true, true, true, true, true, true, true, true, true, true, false, true, false, false] c11) (planAt 64 [([true, false, false, true, true, false], ⟨g11_2, o11_2, b11_2⟩), ([true, false, false, true, true, true, false, true, false], ⟨g11_3, o11_3, l11_3⟩)]) g11_1 x (injK fx11 ((.normal, g11_1) :: o11_1) some) := by kernel_rfl
noncomputable def l11_1 : g11_1.D → Option (outD o11_1) := loopN g11_1 o11_1 b11_1 18446744073709551616
theorem p11_1 : AllSub P Go.Proofs.Try.f11.ntmps fx11 true (Code.at [true, true, true, true, true, true, true, true, true, true, true, false, true, false, false] c11) [([true, false, false, true, true, false], ⟨g11_2, o11_2, b11_2⟩), ([true, false, false, true, true, true, false, true, false], ⟨g11_3, o11_3, l11_3⟩)] := And.intro s11_2_ok (And.intro s11_3_ok (trivial))
theorem q11_1 : PlanOk P Go.Proofs.Try.f11.ntmps fx11 true (planAt 64 [([true, false, false, true, true, false], ⟨g11_2, o11_2, b11_2⟩), ([true, false, false, true, true, true, false, true, false], ⟨g11_3, o11_3, l11_3⟩)]) (Code.at [true, true, true, true, true, true, true, true, true, true, true, false, true, false, false] c11) := planAt_ok p11_1
theorem at11_1 : Code.at [true, true, true, true, true, true, true, true, true, true, true, false, true, false] c11 = .loop (Code.at [true, true, true, true, true, true, true, true, true, true, true, false, true, false, false] c11) := by kernel_rfl
theorem s11_1_ok : SubOk P Go.Proofs.Try.f11.ntmps fx11 (Code.at [true, true, true, true, true, true, true, true, true, true, true, false, true, false] c11) ⟨g11_1, o11_1, l11_1⟩ := by
  rw [at11_1]
  exact loop_ok (sub_ok (g := g11_1) (outs := ((.normal, g11_1) :: o11_1)) (f := b11_1) (Table.ok T10_ok _) hmix (q11_1) b11_1_eq) rfl _
noncomputable def f11 (x : gi11.D) : Option go11.D :=
  (Option.bind (Go.Ev.Pre.f14 (x.1, (x.2.1, (x.2.2.1, (x.2.2.2.1, Unit.unit))))) (fun y1 => (if ((y1.1 != (0 : Int)) = true) then (some (y1.1, ([], Unit.unit)))
   else (if ((decide (x.2.2.2.2.1 < (0 : Int))) = true) then (some ((1 : Int), ([], Unit.unit)))
   else (if ((decide (x.2.2.2.2.1 > (4 : Int))) = true) then (some ((1 : Int), ([], Unit.unit)))
   else (if ((decide ((((List.length x.2.2.2.2.2.1) : Nat) : Int) > (1048576 : Int))) = true) then (some ((2 : Int), ([], Unit.unit)))
   else (if ((x.1 == (1 : Int)) = true) then (Option.bind (Go.Ev.Pre.f7 (x.2.2.2.2.2.1, Unit.unit)) (fun y2 => (if ((List.length y2.1) = (List.length y2.1)) then (some ((0 : Int), (y2.1, Unit.unit)))
   else none)))
   else (Option.bind (Go.Ev.Pre.f16 (x.1, (x.2.1, (x.2.2.1, (x.2.2.2.1, Unit.unit))))) (fun y2 => (Option.bind (Go.Ev.Pre.f23 (x.1, (x.2.1, (x.2.2.1, (x.2.2.2.1, Unit.unit))))) (fun y3 => (if (y2.1 = (0 : Int)) then none
   else (if (((Int.tmod (((List.length x.2.2.2.2.2.1) : Nat) : Int) y2.1) != (0 : Int)) = true) then (some ((4 : Int), ([], Unit.unit)))
   else (Option.bind (Go.Ev.Pre.l11_1 (x.2.2.2.2.1, (x.2.2.2.2.2.1, (y2.1, (y3.1, ([], ((0 : Int), (x.1, (x.2.1, (x.2.2.1, (x.2.2.2.1, ([], Unit.unit)))))))))))) (Sum.elim (fun y4 => (if ((List.length y4.1) = (List.length y4.1)) then (some ((0 : Int), (y4.1, Unit.unit)))
   else none)) Empty.elim)))))))))))))))
theorem f11_eq (x : gi11.D) : f11 x = evF P (T10.orc _) Go.Proofs.Try.f11.ntmps fx11 c11 (planAt 64 [([true, true, true, true, true, true, true, true, true, true, true, false, true, false], ⟨g11_1, o11_1, l11_1⟩)]) gi11 x (fnK fx11 [go11]) := by kernel_rfl
theorem pf11 : AllSub P Go.Proofs.Try.f11.ntmps fx11 true c11 [([true, true, true, true, true, true, true, true, true, true, true, false, true, false], ⟨g11_1, o11_1, l11_1⟩)] := And.intro s11_1_ok (trivial)
theorem qf11 : PlanOk P Go.Proofs.Try.f11.ntmps fx11 true (planAt 64 [([true, true, true, true, true, true, true, true, true, true, true, false, true, false], ⟨g11_1, o11_1, l11_1⟩)]) c11 := planAt_ok pf11
theorem f11_ok : EntOk P 11 ⟨gi11, [go11], f11⟩ :=
  ent_ok (fn := Go.Proofs.Try.f11) (gi := gi11) (gos := [go11]) (f := f11) (c := c11) (fx := fx11) ⟨Go.Proofs.Try.func11, by kernel_rfl, rfl, by decide +kernel, rfl, rfl⟩ (by kernel_rfl) (Table.ok T10_ok _) hmix (qf11) f11_eq
noncomputable def T11 : Table := T10.add 11 [⟨gi11, [go11], f11⟩] []
theorem T11_ok : TableOk P T11 := Table.plus T10_ok (es := [⟨gi11, [go11], f11⟩]) ⟨f11_ok, trivial⟩ []

/-! ## 26: erasure/erasurelaw09.one -/
noncomputable def c26 : Code := Func.code Go.Proofs.Try.f26
abbrev gi26 : Sg := ⟨[], [], []⟩
abbrev go26 : Sg := ⟨[0], [.agg [.lf (.int .i64), .lf (.int .i64), .lf (.int .i64), .lf (.int .i64)]], []⟩
def fx26 : List Bool := []
noncomputable def f26 (_ : gi26.D) : Option go26.D :=
  (some ((12 : Int), ((1 : Int), ((8 : Int), ((2 : Int), Unit.unit)))))
theorem f26_eq (x : gi26.D) : f26 x = evF P (T11.orc _) Go.Proofs.Try.f26.ntmps fx26 c26 (planAt 64 []) gi26 x (fnKR P Go.Proofs.Try.f26 fx26 [go26]) := by kernel_rfl
theorem f26_ok : EntOk P 26 ⟨gi26, [go26], f26⟩ :=
  ent_okR (fn := Go.Proofs.Try.f26) (gi := gi26) (gos := [go26]) (f := f26) (c := c26) (fx := fx26) ⟨Go.Proofs.Try.func26, by kernel_rfl, rfl, by decide +kernel, rfl, rfl⟩ (Table.ok T11_ok _) hmix (planAt_ok (P := P) (n := Go.Proofs.Try.f26.ntmps) (fx := fx26) (any := true) (c := c26) (d := 64) (l := []) trivial) f26_eq
noncomputable def T26 : Table := T11.add 26 [⟨gi26, [go26], f26⟩] []
theorem T26_ok : TableOk P T26 := Table.plus T11_ok (es := [⟨gi26, [go26], f26⟩]) ⟨f26_ok, trivial⟩ []

/-! ## 12: erasure/erasurelaw09.awake -/
noncomputable def c12 : Code := Func.code Go.Proofs.Try.f12
abbrev gi12 : Sg := ⟨[], [], []⟩
abbrev go12 : Sg := ⟨[0], [.lf .bool], []⟩
def fx12 : List Bool := []
noncomputable def f12 (_ : gi12.D) : Option go12.D :=
  (Option.bind (Go.Ev.Pre.f26 Unit.unit) (fun y1 => (Option.bind (Go.Ev.Pre.f8 (y1.1, (y1.2.1, (y1.2.2.1, (y1.2.2.2.1, ((List.take (6 : Nat) (List.drop (0 : Nat) (List.set (List.set (List.set (List.set (List.set (List.set (List.replicate (6 : Nat) (0 : Int)) (0 : Nat) (2 : Int)) (1 : Nat) (1 : Int)) (2 : Nat) (2 : Int)) (3 : Nat) (1 : Int)) (4 : Nat) (5 : Int)) (5 : Nat) (1 : Int)))), Unit.unit)))))) (fun y2 => (if (((ByteArray.toList (ByteArray.mk (List.toArray (List.map (fun y3 => (UInt8.ofNat (Int.toNat y3))) (List.take (List.length y2.2.1) (List.drop (0 : Nat) y2.2.1)))))) == (ByteArray.toList (ByteArray.mk #[1, 2, 5, 6]))) = true) then (if ((y2.1 == (0 : Int)) = true) then (Option.bind (Go.Ev.Pre.f26 Unit.unit) (fun y3 => (Option.bind (Go.Ev.Pre.f15 (y3.1, (y3.2.1, (y3.2.2.1, (y3.2.2.2.1, Unit.unit))))) (fun y4 => (some ((y4.1 == (2 : Int)), Unit.unit))))))
   else (some (false, Unit.unit)))
   else (some (false, Unit.unit)))))))
theorem f12_eq (x : gi12.D) : f12 x = evF P (T26.orc _) Go.Proofs.Try.f12.ntmps fx12 c12 (planAt 64 []) gi12 x (fnK fx12 [go12]) := by kernel_rfl
theorem f12_ok : EntOk P 12 ⟨gi12, [go12], f12⟩ :=
  ent_ok (fn := Go.Proofs.Try.f12) (gi := gi12) (gos := [go12]) (f := f12) (c := c12) (fx := fx12) ⟨Go.Proofs.Try.func12, by kernel_rfl, rfl, by decide +kernel, rfl, rfl⟩ (by kernel_rfl) (Table.ok T26_ok _) hmix (planAt_ok (P := P) (n := Go.Proofs.Try.f12.ntmps) (fx := fx12) (any := true) (c := c12) (d := 64) (l := []) trivial) f12_eq
noncomputable def T12 : Table := T26.add 12 [⟨gi12, [go12], f12⟩] []
theorem T12_ok : TableOk P T12 := Table.plus T26_ok (es := [⟨gi12, [go12], f12⟩]) ⟨f12_ok, trivial⟩ []

/-! ## 3: erasure/erasurelaw09.PredictDoes -/
noncomputable def c3 : Code := Func.code Go.Proofs.Try.f3
abbrev gi3 : Sg := ⟨[0, 1, 2], [.agg [.lf (.int .i64), .lf (.int .i64), .lf (.int .i64), .lf (.int .i64)], .lf (.int .i64), .lf (.sl (.int .u8))], []⟩
abbrev go3 : Sg := ⟨[6], [.lf .bool], []⟩
def fx3 : List Bool := []
noncomputable def f3 (x : gi3.D) : Option go3.D :=
  (if ((decide ((((List.length x.2.2.2.2.2.1) : Nat) : Int) > (500 : Int))) = true) then (some (true, Unit.unit))
   else (Option.bind (Go.Ev.Pre.f7 (x.2.2.2.2.2.1, Unit.unit)) (fun y1 => (Option.bind (Go.Ev.Pre.f8 (x.1, (x.2.1, (x.2.2.1, (x.2.2.2.1, ((List.take (List.length y1.1) (List.drop (0 : Nat) y1.1)), Unit.unit)))))) (fun y2 => (Option.bind (Go.Ev.Pre.f9 (x.1, (x.2.1, (x.2.2.1, (x.2.2.2.1, (x.2.2.2.2.2.1, Unit.unit)))))) (fun y3 => (Option.bind (Go.Ev.Pre.f10 (x.1, (x.2.1, (x.2.2.1, (x.2.2.2.1, (x.2.2.2.2.1, ((List.take (List.length y1.1) (List.drop (0 : Nat) y1.1)), Unit.unit))))))) (fun y4 => (Option.bind (Go.Ev.Pre.f11 (x.1, (x.2.1, (x.2.2.1, (x.2.2.2.1, (x.2.2.2.2.1, (x.2.2.2.2.2.1, Unit.unit))))))) (fun y5 => (Option.bind (Go.Ev.Pre.f12 Unit.unit) (fun y6 => (if (y6.1 = true) then (if (((ByteArray.toList (ByteArray.mk (List.toArray (List.map (fun y7 => (UInt8.ofNat (Int.toNat y7))) (List.take (List.length y1.1) (List.drop (0 : Nat) y1.1)))))) == (ByteArray.toList (ByteArray.mk (List.toArray (List.map (fun y7 => (UInt8.ofNat (Int.toNat y7))) x.2.2.2.2.2.1))))) = true) then (Option.bind (Go.Ev.Pre.f13 (x.1, (x.2.1, (x.2.2.1, (x.2.2.2.1, Unit.unit))))) (fun y7 => (Option.bind (Go.Ev.Pre.f14 (x.1, (x.2.1, (x.2.2.1, (x.2.2.2.1, Unit.unit))))) (fun y8 => (if ((y7.1 == y8.1) = true) then (Option.bind (Go.Ev.Pre.f15 (x.1, (x.2.1, (x.2.2.1, (x.2.2.2.1, Unit.unit))))) (fun y9 => (Option.bind (Go.Ev.Pre.f16 (x.1, (x.2.1, (x.2.2.1, (x.2.2.2.1, Unit.unit))))) (fun y10 => (if ((y9.1 == y10.1) = true) then (if (((ByteArray.toList (ByteArray.mk (List.toArray (List.map (fun y11 => (UInt8.ofNat (Int.toNat y11))) (List.take (List.length y2.2.1) (List.drop (0 : Nat) y2.2.1)))))) == (ByteArray.toList (ByteArray.mk (List.toArray (List.map (fun y11 => (UInt8.ofNat (Int.toNat y11))) y3.1))))) = true) then (if ((y2.1 == y3.2.1) = true) then (if (((ByteArray.toList (ByteArray.mk (List.toArray (List.map (fun y11 => (UInt8.ofNat (Int.toNat y11))) (List.take (List.length y4.2.1) (List.drop (0 : Nat) y4.2.1)))))) == (ByteArray.toList (ByteArray.mk (List.toArray (List.map (fun y11 => (UInt8.ofNat (Int.toNat y11))) (List.take (List.length y5.2.1) (List.drop (0 : Nat) y5.2.1))))))) = true) then (some ((y4.1 == y5.1), Unit.unit))
   else (some (false, Unit.unit)))
   else (some (false, Unit.unit)))
   else (some (false, Unit.unit)))
   else (some (false, Unit.unit)))))))
   else (some (false, Unit.unit)))))))
   else (some (false, Unit.unit)))
   else (some (false, Unit.unit))))))))))))))))
theorem f3_eq (x : gi3.D) : f3 x = evF P (T12.orc _) Go.Proofs.Try.f3.ntmps fx3 c3 (planAt 64 []) gi3 x (fnK fx3 [go3]) := by kernel_rfl
theorem f3_ok : EntOk P 3 ⟨gi3, [go3], f3⟩ :=
  ent_ok (fn := Go.Proofs.Try.f3) (gi := gi3) (gos := [go3]) (f := f3) (c := c3) (fx := fx3) ⟨Go.Proofs.Try.func3, by kernel_rfl, rfl, by decide +kernel, rfl, rfl⟩ (by kernel_rfl) (Table.ok T12_ok _) hmix (planAt_ok (P := P) (n := Go.Proofs.Try.f3.ntmps) (fx := fx3) (any := true) (c := c3) (d := 64) (l := []) trivial) f3_eq
noncomputable def T3 : Table := T12.add 3 [⟨gi3, [go3], f3⟩] []
theorem T3_ok : TableOk P T3 := Table.plus T12_ok (es := [⟨gi3, [go3], f3⟩]) ⟨f3_ok, trivial⟩ []

/-! ## 4: erasure/erasurelaw09.PredictBack -/
noncomputable def c4 : Code := Func.code Go.Proofs.Try.f4
abbrev gi4 : Sg := ⟨[0, 1, 2], [.agg [.lf (.int .i64), .lf (.int .i64), .lf (.int .i64), .lf (.int .i64)], .lf (.int .i64), .lf (.sl (.int .u8))], []⟩
abbrev go4 : Sg := ⟨[6], [.lf .bool], []⟩
def fx4 : List Bool := []
abbrev g4_3 : Sg := ⟨[1, 2, 3, 13, 14, 15, 16], [.lf (.int .i64), .lf (.sl (.int .u8)), .lf (.ptr 0 0), .lf (.sl (.int .u8)), .lf (.int .i64), .lf (.int .i64), .lf (.int .i64)], [some (.box true [.lf (.int .i64), .lf (.int .i64), .lf (.int .i64), .lf (.int .i64)])]⟩
abbrev o4_3 : Outs := [(.exit 0, ⟨[2, 13, 14], [.lf (.sl (.int .u8)), .lf (.sl (.int .u8)), .lf (.int .i64)], []⟩), (.ret, ⟨[6], [.lf .bool], []⟩)]
noncomputable def b4_3 (x : g4_3.D) : Option (outD ((.normal, g4_3) :: o4_3)) :=
  (if ((decide (x.2.2.2.2.2.1 < (((List.length x.2.1) : Nat) : Int))) = true) then (if ((decide (x.2.2.2.2.2.2.1 > (2 : Int))) = true) then (if ((decide (x.2.2.2.2.1 < (2 : Int))) = true) then (Option.bind (Go.Ev.Pre.f12 Unit.unit) (fun y1 => (if (y1.1 = true) then (if ((x.2.2.2.1 == (0 : Int)) = true) then (some (Sum.inr (Sum.inr (Sum.inl ((decide (x.2.2.2.2.1 ≥ (2 : Int))), Unit.unit)))))
   else (some (Sum.inr (Sum.inr (Sum.inl (false, Unit.unit))))))
   else (some (Sum.inr (Sum.inr (Sum.inl (false, Unit.unit))))))))
   else (if ((0 : Int) ≤ x.2.2.2.2.2.1) then (if (x.2.2.2.2.2.1 < (((List.length x.2.1) : Nat) : Int)) then (if (((Go.IntKind.wrap Go.IntKind.i64 (List.getD x.2.1 (Int.toNat x.2.2.2.2.2.1) (0 : Int))) != (Max.max (0 : Int) (Min.min x.1 (4 : Int)))) = true) then (Option.bind (Go.Ev.Pre.f12 Unit.unit) (fun y1 => (if (y1.1 = true) then (if ((x.2.2.2.1 == (0 : Int)) = true) then (some (Sum.inr (Sum.inr (Sum.inl ((decide (x.2.2.2.2.1 ≥ (2 : Int))), Unit.unit)))))
   else (some (Sum.inr (Sum.inr (Sum.inl (false, Unit.unit))))))
   else (some (Sum.inr (Sum.inr (Sum.inl (false, Unit.unit))))))))
   else (some (Sum.inl (x.1, (x.2.1, (x.2.2.1, (x.2.2.2.1, (x.2.2.2.2.1, ((Go.IntKind.wrap Go.IntKind.i64 (x.2.2.2.2.2.1 + x.2.2.2.2.1)), (x.2.2.2.2.2.2.1, (x.2.2.2.2.2.2.2.1, (x.2.2.2.2.2.2.2.2.1, (x.2.2.2.2.2.2.2.2.2.1, Unit.unit)))))))))))))
   else none)
   else none))
   else (some (Sum.inr (Sum.inl (x.2.1, (x.2.2.1, (x.2.2.2.1, Unit.unit)))))))
   else (some (Sum.inr (Sum.inl (x.2.1, (x.2.2.1, (x.2.2.2.1, Unit.unit)))))))
theorem b4_3_eq (x : g4_3.D) : b4_3 x = evF P (T3.orc _) Go.Proofs.Try.f4.ntmps fx4 (Code.at [true, true, true, true, true, true, true, true, true, false, true, false, false] c4) (planAt 64 []) g4_3 x (injK fx4 ((.normal, g4_3) :: o4_3) some) := by kernel_rfl
noncomputable def l4_3 : g4_3.D → Option (outD o4_3) := loopN g4_3 o4_3 b4_3 18446744073709551616
theorem at4_3 : Code.at [true, true, true, true, true, true, true, true, true, false, true, false] c4 = .loop (Code.at [true, true, true, true, true, true, true, true, true, false, true, false, false] c4) := by kernel_rfl
theorem s4_3_ok : SubOk P Go.Proofs.Try.f4.ntmps fx4 (Code.at [true, true, true, true, true, true, true, true, true, false, true, false] c4) ⟨g4_3, o4_3, l4_3⟩ := by
  rw [at4_3]
  exact loop_ok (sub_ok (g := g4_3) (outs := ((.normal, g4_3) :: o4_3)) (f := b4_3) (Table.ok T3_ok _) hmix (planAt_ok (P := P) (n := Go.Proofs.Try.f4.ntmps) (fx := fx4) (any := true) (c := (Code.at [true, true, true, true, true, true, true, true, true, false, true, false, false] c4)) (d := 64) (l := []) trivial) b4_3_eq) rfl _
abbrev g4_2 : Sg := ⟨[11], [.lf (.sl (.int .u8))], []⟩
abbrev o4_2 : Outs := [(.normal, ⟨[6], [.lf .bool], []⟩)]
noncomputable def b4_2 (x : g4_2.D) : Option (outD o4_2) :=
  (Option.bind (Go.Ev.Pre.f12 Unit.unit) (fun y1 => (if (y1.1 = true) then (some (Sum.inl (((((List.length x.1) : Nat) : Int) == (0 : Int)), Unit.unit)))
   else (some (Sum.inl (false, Unit.unit))))))
theorem b4_2_eq (x : g4_2.D) : b4_2 x = evF P (T3.orc _) Go.Proofs.Try.f4.ntmps fx4 (Code.at [true, true, true, true, true, true, false, true, false, false] c4) (planAt 64 []) g4_2 x (injK fx4 o4_2 some) := by kernel_rfl
theorem s4_2_ok : SubOk P Go.Proofs.Try.f4.ntmps fx4 (Code.at [true, true, true, true, true, true, false, true, false, false] c4) ⟨g4_2, o4_2, b4_2⟩ :=
  sub_ok (g := g4_2) (outs := o4_2) (f := b4_2) (Table.ok T3_ok _) hmix (planAt_ok (P := P) (n := Go.Proofs.Try.f4.ntmps) (fx := fx4) (any := true) (c := (Code.at [true, true, true, true, true, true, false, true, false, false] c4)) (d := 64) (l := []) trivial) b4_2_eq
abbrev g4_1 : Sg := ⟨[1, 2, 3, 8, 9, 10], [.lf (.int .i64), .lf (.sl (.int .u8)), .lf (.ptr 0 0), .lf (.int .i64), .lf (.sl (.int .u8)), .lf (.int .i64)], [some (.box true [.lf (.int .i64), .lf (.int .i64), .lf (.int .i64), .lf (.int .i64)])]⟩
abbrev o4_1 : Outs := [(.normal, ⟨[1, 2, 3, 45], [.lf (.int .i64), .lf (.sl (.int .u8)), .lf (.ptr 0 0), .lf .bool], [some (.box true [.lf (.int .i64), .lf (.int .i64), .lf (.int .i64), .lf (.int .i64)])]⟩)]
noncomputable def b4_1 (x : g4_1.D) : Option (outD o4_1) :=
  (if ((x.2.2.1 == (0 : Int)) = true) then (if ((x.2.2.2.2.1 != (0 : Int)) = true) then (some (Sum.inl (x.1, (x.2.1, (true, (x.2.2.2.2.2.1, (x.2.2.2.2.2.2.1, (x.2.2.2.2.2.2.2.1, (x.2.2.2.2.2.2.2.2.1, Unit.unit)))))))))
   else (some (Sum.inl (x.1, (x.2.1, ((Bool.not ((ByteArray.toList (ByteArray.mk (List.toArray (List.map (fun y1 => (UInt8.ofNat (Int.toNat y1))) x.2.2.2.1)))) == (ByteArray.toList (ByteArray.mk (List.toArray (List.map (fun y1 => (UInt8.ofNat (Int.toNat y1))) x.2.1)))))), (x.2.2.2.2.2.1, (x.2.2.2.2.2.2.1, (x.2.2.2.2.2.2.2.1, (x.2.2.2.2.2.2.2.2.1, Unit.unit))))))))))
   else (some (Sum.inl (x.1, (x.2.1, (false, (x.2.2.2.2.2.1, (x.2.2.2.2.2.2.1, (x.2.2.2.2.2.2.2.1, (x.2.2.2.2.2.2.2.2.1, Unit.unit))))))))))
theorem b4_1_eq (x : g4_1.D) : b4_1 x = evF P (T3.orc _) Go.Proofs.Try.f4.ntmps fx4 (Code.at [true, true, true, true, false, false] c4) (planAt 64 []) g4_1 x (injK fx4 o4_1 some) := by kernel_rfl
theorem s4_1_ok : SubOk P Go.Proofs.Try.f4.ntmps fx4 (Code.at [true, true, true, true, false, false] c4) ⟨g4_1, o4_1, b4_1⟩ :=
  sub_ok (g := g4_1) (outs := o4_1) (f := b4_1) (Table.ok T3_ok _) hmix (planAt_ok (P := P) (n := Go.Proofs.Try.f4.ntmps) (fx := fx4) (any := true) (c := (Code.at [true, true, true, true, false, false] c4)) (d := 64) (l := []) trivial) b4_1_eq
noncomputable def f4 (x : gi4.D) : Option go4.D :=
  (if ((decide ((((List.length x.2.2.2.2.2.1) : Nat) : Int) > (2000 : Int))) = true) then (some (true, Unit.unit))
   else (Option.bind (Go.Ev.Pre.f10 (x.1, (x.2.1, (x.2.2.1, (x.2.2.2.1, (x.2.2.2.2.1, (x.2.2.2.2.2.1, Unit.unit))))))) (fun y1 => (Option.bind (Go.Ev.Pre.f8 (x.1, (x.2.1, (x.2.2.1, (x.2.2.2.1, ((List.take (List.length y1.2.1) (List.drop (0 : Nat) y1.2.1)), Unit.unit)))))) (fun y2 => (Option.bind (Go.Ev.Pre.b4_1 (x.2.2.2.2.1, (x.2.2.2.2.2.1, (y1.1, ((List.take (List.length y2.2.1) (List.drop (0 : Nat) y2.2.1)), (y2.1, (x.1, (x.2.1, (x.2.2.1, (x.2.2.2.1, Unit.unit)))))))))) (Sum.elim (fun y3 => (if (y3.2.2.1 = true) then (some (false, Unit.unit))
   else (Option.bind (Go.Ev.Pre.f8 (y3.2.2.2.1, (y3.2.2.2.2.1, (y3.2.2.2.2.2.1, (y3.2.2.2.2.2.2.1, (y3.2.1, Unit.unit)))))) (fun y4 => (if ((y4.1 != (0 : Int)) = true) then (Option.bind (Go.Ev.Pre.b4_2 ((List.take (List.length y4.2.1) (List.drop (0 : Nat) y4.2.1)), Unit.unit)) (Sum.elim (fun y5 => (some (y5.1, Unit.unit))) Empty.elim))
   else (Option.bind (Go.Ev.Pre.f10 (y3.2.2.2.1, (y3.2.2.2.2.1, (y3.2.2.2.2.2.1, (y3.2.2.2.2.2.2.1, ((Max.max (0 : Int) (Min.min y3.1 (4 : Int))), ((List.take (List.length y4.2.1) (List.drop (0 : Nat) y4.2.1)), Unit.unit))))))) (fun y5 => (Option.bind (Go.Ev.Pre.f15 (y3.2.2.2.1, (y3.2.2.2.2.1, (y3.2.2.2.2.2.1, (y3.2.2.2.2.2.2.1, Unit.unit))))) (fun y6 => (Option.bind (Go.Ev.Pre.l4_3 (y3.1, (y3.2.1, ((List.take (List.length y5.2.1) (List.drop (0 : Nat) y5.2.1)), (y5.1, ((Go.IntKind.wrap Go.IntKind.i64 (y6.1 + (1 : Int))), ((0 : Int), (y3.2.2.2.1, (y3.2.2.2.2.1, (y3.2.2.2.2.2.1, (y3.2.2.2.2.2.2.1, Unit.unit))))))))))) (Sum.elim (fun y7 => (Option.bind (Go.Ev.Pre.f12 Unit.unit) (fun y8 => (if (y8.1 = true) then (if ((y7.2.2.1 == (0 : Int)) = true) then (some (((ByteArray.toList (ByteArray.mk (List.toArray (List.map (fun y9 => (UInt8.ofNat (Int.toNat y9))) y7.2.1)))) == (ByteArray.toList (ByteArray.mk (List.toArray (List.map (fun y9 => (UInt8.ofNat (Int.toNat y9))) y7.1))))), Unit.unit))
   else (some (false, Unit.unit)))
   else (some (false, Unit.unit)))))) (Sum.elim (fun y7 => (some (y7.1, Unit.unit))) Empty.elim)))))))))))) Empty.elim)))))))
theorem f4_eq (x : gi4.D) : f4 x = evF P (T3.orc _) Go.Proofs.Try.f4.ntmps fx4 c4 (planAt 64 [([true, true, true, true, false, false], ⟨g4_1, o4_1, b4_1⟩), ([true, true, true, true, true, true, false, true, false, false], ⟨g4_2, o4_2, b4_2⟩), ([true, true, true, true, true, true, true, true, true, false, true, false], ⟨g4_3, o4_3, l4_3⟩)]) gi4 x (fnK fx4 [go4]) := by kernel_rfl
theorem pf4 : AllSub P Go.Proofs.Try.f4.ntmps fx4 true c4 [([true, true, true, true, false, false], ⟨g4_1, o4_1, b4_1⟩), ([true, true, true, true, true, true, false, true, false, false], ⟨g4_2, o4_2, b4_2⟩), ([true, true, true, true, true, true, true, true, true, false, true, false], ⟨g4_3, o4_3, l4_3⟩)] := And.intro s4_1_ok (And.intro s4_2_ok (And.intro s4_3_ok (trivial)))
theorem qf4 : PlanOk P Go.Proofs.Try.f4.ntmps fx4 true (planAt 64 [([true, true, true, true, false, false], ⟨g4_1, o4_1, b4_1⟩), ([true, true, true, true, true, true, false, true, false, false], ⟨g4_2, o4_2, b4_2⟩), ([true, true, true, true, true, true, true, true, true, false, true, false], ⟨g4_3, o4_3, l4_3⟩)]) c4 := planAt_ok pf4
theorem f4_ok : EntOk P 4 ⟨gi4, [go4], f4⟩ :=
  ent_ok (fn := Go.Proofs.Try.f4) (gi := gi4) (gos := [go4]) (f := f4) (c := c4) (fx := fx4) ⟨Go.Proofs.Try.func4, by kernel_rfl, rfl, by decide +kernel, rfl, rfl⟩ (by kernel_rfl) (Table.ok T3_ok _) hmix (qf4) f4_eq
noncomputable def T4 : Table := T3.add 4 [⟨gi4, [go4], f4⟩] []
theorem T4_ok : TableOk P T4 := Table.plus T3_ok (es := [⟨gi4, [go4], f4⟩]) ⟨f4_ok, trivial⟩ []

/-! ## 5: erasure/erasurelaw09.PredictPlain -/
noncomputable def c5 : Code := Func.code Go.Proofs.Try.f5
abbrev gi5 : Sg := ⟨[0, 1, 2, 3], [.agg [.lf (.int .i64), .lf (.int .i64), .lf (.int .i64), .lf (.int .i64)], .lf (.sl (.int .u8)), .lf (.int .i64), .lf (.int .i64)], []⟩
abbrev go5 : Sg := ⟨[8], [.lf .bool], []⟩
def fx5 : List Bool := []
abbrev g5_1 : Sg := ⟨[1, 2, 3, 9, 11, 12, 13, 14, 15, 16, 17], [.lf (.sl (.int .u8)), .lf (.int .i64), .lf (.int .i64), .lf (.int .i64), .lf (.sl (.int .u8)), .lf (.int .i64), .lf (.sl (.int .u8)), .lf (.int .i64), .lf (.sl (.int .u8)), .lf (.int .i64), .lf (.int .i64)], []⟩
abbrev o5_1 : Outs := [(.exit 0, ⟨[1, 2, 9, 11, 12, 13, 14, 15, 16], [.lf (.sl (.int .u8)), .lf (.int .i64), .lf (.int .i64), .lf (.sl (.int .u8)), .lf (.int .i64), .lf (.sl (.int .u8)), .lf (.int .i64), .lf (.sl (.int .u8)), .lf (.int .i64)], []⟩), (.ret, ⟨[8], [.lf .bool], []⟩)]
noncomputable def b5_1 (x : g5_1.D) : Option (outD ((.normal, g5_1) :: o5_1)) :=
  (if ((decide (x.2.2.2.2.2.2.2.2.2.2.1 < (((List.length x.2.2.2.2.2.2.1) : Nat) : Int))) = true) then (if ((decide (x.2.2.2.2.2.2.2.2.2.2.1 < (((List.length x.2.2.2.2.2.2.2.2.1) : Nat) : Int))) = true) then (if ((0 : Int) ≤ x.2.2.2.2.2.2.2.2.2.2.1) then (if (x.2.2.2.2.2.2.2.2.2.2.1 < (((List.length x.2.2.2.2.2.2.1) : Nat) : Int)) then (if (((List.getD x.2.2.2.2.2.2.1 (Int.toNat x.2.2.2.2.2.2.2.2.2.2.1) (0 : Int)) != (0 : Int)) = true) then (some (Sum.inr (Sum.inr (Sum.inl (false, Unit.unit)))))
   else (if ((0 : Int) ≤ x.2.2.2.2.2.2.2.2.2.2.1) then (if (x.2.2.2.2.2.2.2.2.2.2.1 < (((List.length x.2.2.2.2.2.2.2.2.1) : Nat) : Int)) then (if (((List.getD x.2.2.2.2.2.2.2.2.1 (Int.toNat x.2.2.2.2.2.2.2.2.2.2.1) (0 : Int)) != (0 : Int)) = true) then (if ((Go.IntKind.wrap Go.IntKind.i64 (x.2.2.2.1 + (1 : Int))) = (0 : Int)) then none
   else (if (((Int.tmod x.2.2.2.2.2.2.2.2.2.2.1 (Go.IntKind.wrap Go.IntKind.i64 (x.2.2.2.1 + (1 : Int)))) != (0 : Int)) = true) then (some (Sum.inr (Sum.inr (Sum.inl (false, Unit.unit)))))
   else (if ((0 : Int) ≤ x.2.2.2.2.2.2.2.2.2.2.1) then (if (x.2.2.2.2.2.2.2.2.2.2.1 < (((List.length x.2.2.2.2.2.2.2.2.1) : Nat) : Int)) then (if (((Go.IntKind.wrap Go.IntKind.i64 (List.getD x.2.2.2.2.2.2.2.2.1 (Int.toNat x.2.2.2.2.2.2.2.2.2.2.1) (0 : Int))) != x.2.2.1) = true) then (some (Sum.inr (Sum.inr (Sum.inl (false, Unit.unit)))))
   else (some (Sum.inl (x.1, (x.2.1, (x.2.2.1, (x.2.2.2.1, (x.2.2.2.2.1, (x.2.2.2.2.2.1, (x.2.2.2.2.2.2.1, (x.2.2.2.2.2.2.2.1, (x.2.2.2.2.2.2.2.2.1, (x.2.2.2.2.2.2.2.2.2.1, ((Go.IntKind.wrap Go.IntKind.i64 (x.2.2.2.2.2.2.2.2.2.2.1 + (1 : Int))), Unit.unit))))))))))))))
   else none)
   else none)))
   else (some (Sum.inl (x.1, (x.2.1, (x.2.2.1, (x.2.2.2.1, (x.2.2.2.2.1, (x.2.2.2.2.2.1, (x.2.2.2.2.2.2.1, (x.2.2.2.2.2.2.2.1, (x.2.2.2.2.2.2.2.2.1, (x.2.2.2.2.2.2.2.2.2.1, ((Go.IntKind.wrap Go.IntKind.i64 (x.2.2.2.2.2.2.2.2.2.2.1 + (1 : Int))), Unit.unit))))))))))))))
   else none)
   else none))
   else none)
   else none)
   else (some (Sum.inr (Sum.inl (x.1, (x.2.1, (x.2.2.2.1, (x.2.2.2.2.1, (x.2.2.2.2.2.1, (x.2.2.2.2.2.2.1, (x.2.2.2.2.2.2.2.1, (x.2.2.2.2.2.2.2.2.1, (x.2.2.2.2.2.2.2.2.2.1, Unit.unit)))))))))))))
   else (some (Sum.inr (Sum.inl (x.1, (x.2.1, (x.2.2.2.1, (x.2.2.2.2.1, (x.2.2.2.2.2.1, (x.2.2.2.2.2.2.1, (x.2.2.2.2.2.2.2.1, (x.2.2.2.2.2.2.2.2.1, (x.2.2.2.2.2.2.2.2.2.1, Unit.unit)))))))))))))
theorem b5_1_eq (x : g5_1.D) : b5_1 x = evF P (T4.orc _) Go.Proofs.Try.f5.ntmps fx5 (Code.at [true, true, true, true, true, true, true, true, true, false, true, false, false] c5) (planAt 64 []) g5_1 x (injK fx5 ((.normal, g5_1) :: o5_1) some) := by kernel_rfl
noncomputable def l5_1 : g5_1.D → Option (outD o5_1) := loopN g5_1 o5_1 b5_1 18446744073709551616
theorem at5_1 : Code.at [true, true, true, true, true, true, true, true, true, false, true, false] c5 = .loop (Code.at [true, true, true, true, true, true, true, true, true, false, true, false, false] c5) := by kernel_rfl
theorem s5_1_ok : SubOk P Go.Proofs.Try.f5.ntmps fx5 (Code.at [true, true, true, true, true, true, true, true, true, false, true, false] c5) ⟨g5_1, o5_1, l5_1⟩ := by
  rw [at5_1]
  exact loop_ok (sub_ok (g := g5_1) (outs := ((.normal, g5_1) :: o5_1)) (f := b5_1) (Table.ok T4_ok _) hmix (planAt_ok (P := P) (n := Go.Proofs.Try.f5.ntmps) (fx := fx5) (any := true) (c := (Code.at [true, true, true, true, true, true, true, true, true, false, true, false, false] c5)) (d := 64) (l := []) trivial) b5_1_eq) rfl _
noncomputable def f5 (x : gi5.D) : Option go5.D :=
  (Option.bind (Go.Ev.Pre.f15 (x.1, (x.2.1, (x.2.2.1, (x.2.2.2.1, Unit.unit))))) (fun y1 => (if ((decide ((((List.length x.2.2.2.2.1) : Nat) : Int) > (2000 : Int))) = true) then (Option.bind (Go.Ev.Pre.f12 Unit.unit) (fun y2 => (some (y2.1, Unit.unit))))
   else (if ((decide (x.2.2.2.2.2.1 < (0 : Int))) = true) then (Option.bind (Go.Ev.Pre.f12 Unit.unit) (fun y2 => (some (y2.1, Unit.unit))))
   else (if ((decide (x.2.2.2.2.2.1 > (20 : Int))) = true) then (Option.bind (Go.Ev.Pre.f12 Unit.unit) (fun y2 => (some (y2.1, Unit.unit))))
   else (if ((decide (y1.1 > (200 : Int))) = true) then (Option.bind (Go.Ev.Pre.f12 Unit.unit) (fun y2 => (some (y2.1, Unit.unit))))
   else (if ((decide (x.2.2.2.2.2.2.1 < (0 : Int))) = true) then (Option.bind (Go.Ev.Pre.f12 Unit.unit) (fun y2 => (some (y2.1, Unit.unit))))
   else (if ((decide (x.2.2.2.2.2.2.1 > (4 : Int))) = true) then (Option.bind (Go.Ev.Pre.f12 Unit.unit) (fun y2 => (some (y2.1, Unit.unit))))
   else (Option.bind (Go.Ev.Pre.f13 (x.1, (x.2.1, (x.2.2.1, (x.2.2.2.1, Unit.unit))))) (fun y2 => (if ((y2.1 != (0 : Int)) = true) then (Option.bind (Go.Ev.Pre.f12 Unit.unit) (fun y3 => (some (y3.1, Unit.unit))))
   else (if ((decide (y1.1 < (1 : Int))) = true) then (Option.bind (Go.Ev.Pre.f12 Unit.unit) (fun y3 => (some (y3.1, Unit.unit))))
   else (Option.bind (Go.Ev.Pre.f8 ((1 : Int), (x.2.1, (x.2.2.1, (x.2.2.2.1, (x.2.2.2.2.1, Unit.unit)))))) (fun y3 => (if ((0 : Int) ≤ (Go.IntKind.wrap Go.IntKind.i64 (x.2.2.2.2.2.1 * y1.1))) then (if ((Go.IntKind.wrap Go.IntKind.i64 (x.2.2.2.2.2.1 * y1.1)) ≤ (Go.IntKind.wrap Go.IntKind.i64 (x.2.2.2.2.2.1 * y1.1))) then (if ((Go.IntKind.wrap Go.IntKind.i64 (x.2.2.2.2.2.1 * y1.1)) ≤ (281474976710656 : Int)) then (Option.bind (Go.Ev.Pre.f10 ((10 : Int), (x.2.1, (x.2.2.1, (x.2.2.2.1, ((0 : Int), ((List.take (Int.toNat (Go.IntKind.wrap Go.IntKind.i64 (x.2.2.2.2.2.1 * y1.1))) (List.drop (0 : Nat) (List.replicate (Int.toNat (Go.IntKind.wrap Go.IntKind.i64 (x.2.2.2.2.2.1 * y1.1))) (0 : Int)))), Unit.unit))))))) (fun y4 => (if ((0 : Int) ≤ (Go.IntKind.wrap Go.IntKind.i64 (x.2.2.2.2.2.1 * y1.1))) then (if ((Go.IntKind.wrap Go.IntKind.i64 (x.2.2.2.2.2.1 * y1.1)) ≤ (Go.IntKind.wrap Go.IntKind.i64 (x.2.2.2.2.2.1 * y1.1))) then (if ((Go.IntKind.wrap Go.IntKind.i64 (x.2.2.2.2.2.1 * y1.1)) ≤ (281474976710656 : Int)) then (Option.bind (Go.Ev.Pre.f10 ((10 : Int), (x.2.1, (x.2.2.1, (x.2.2.2.1, (x.2.2.2.2.2.2.1, ((List.take (Int.toNat (Go.IntKind.wrap Go.IntKind.i64 (x.2.2.2.2.2.1 * y1.1))) (List.drop (0 : Nat) (List.replicate (Int.toNat (Go.IntKind.wrap Go.IntKind.i64 (x.2.2.2.2.2.1 * y1.1))) (0 : Int)))), Unit.unit))))))) (fun y5 => (Option.bind (Go.Ev.Pre.l5_1 (x.2.2.2.2.1, (x.2.2.2.2.2.1, (x.2.2.2.2.2.2.1, (y1.1, ((List.take (List.length y3.2.1) (List.drop (0 : Nat) y3.2.1)), (y3.1, ((List.take (List.length y4.2.1) (List.drop (0 : Nat) y4.2.1)), (y4.1, ((List.take (List.length y5.2.1) (List.drop (0 : Nat) y5.2.1)), (y5.1, ((0 : Int), Unit.unit)))))))))))) (Sum.elim (fun y6 => (Option.bind (Go.Ev.Pre.f12 Unit.unit) (fun y7 => (if (y7.1 = true) then (if ((y6.2.2.2.2.1 == (0 : Int)) = true) then (if (((ByteArray.toList (ByteArray.mk (List.toArray (List.map (fun y8 => (UInt8.ofNat (Int.toNat y8))) y6.2.2.2.1)))) == (ByteArray.toList (ByteArray.mk (List.toArray (List.map (fun y8 => (UInt8.ofNat (Int.toNat y8))) y6.1))))) = true) then (if ((y6.2.2.2.2.2.2.1 == y6.2.2.2.2.1) = true) then (if ((y6.2.2.2.2.2.2.2.2.1 == y6.2.2.2.2.1) = true) then (if (((((List.length y6.2.2.2.2.2.1) : Nat) : Int) == (Go.IntKind.wrap Go.IntKind.i64 (y6.2.1 * (Go.IntKind.wrap Go.IntKind.i64 (y6.2.2.1 + (1 : Int)))))) = true) then (some (((((List.length y6.2.2.2.2.2.2.2.1) : Nat) : Int) == (((List.length y6.2.2.2.2.2.1) : Nat) : Int)), Unit.unit))
   else (some (false, Unit.unit)))
   else (some (false, Unit.unit)))
   else (some (false, Unit.unit)))
   else (some (false, Unit.unit)))
   else (some (false, Unit.unit)))
   else (some (false, Unit.unit)))))) (Sum.elim (fun y6 => (some (y6.1, Unit.unit))) Empty.elim)))))
   else none)
   else none)
   else none)))
   else none)
   else none)
   else none)))))))))))))))
theorem f5_eq (x : gi5.D) : f5 x = evF P (T4.orc _) Go.Proofs.Try.f5.ntmps fx5 c5 (planAt 64 [([true, true, true, true, true, true, true, true, true, false, true, false], ⟨g5_1, o5_1, l5_1⟩)]) gi5 x (fnK fx5 [go5]) := by kernel_rfl
theorem pf5 : AllSub P Go.Proofs.Try.f5.ntmps fx5 true c5 [([true, true, true, true, true, true, true, true, true, false, true, false], ⟨g5_1, o5_1, l5_1⟩)] := And.intro s5_1_ok (trivial)
theorem qf5 : PlanOk P Go.Proofs.Try.f5.ntmps fx5 true (planAt 64 [([true, true, true, true, true, true, true, true, true, false, true, false], ⟨g5_1, o5_1, l5_1⟩)]) c5 := planAt_ok pf5
theorem f5_ok : EntOk P 5 ⟨gi5, [go5], f5⟩ :=
  ent_ok (fn := Go.Proofs.Try.f5) (gi := gi5) (gos := [go5]) (f := f5) (c := c5) (fx := fx5) ⟨Go.Proofs.Try.func5, by kernel_rfl, rfl, by decide +kernel, rfl, rfl⟩ (by kernel_rfl) (Table.ok T4_ok _) hmix (qf5) f5_eq
noncomputable def T5 : Table := T4.add 5 [⟨gi5, [go5], f5⟩] []
theorem T5_ok : TableOk P T5 := Table.plus T4_ok (es := [⟨gi5, [go5], f5⟩]) ⟨f5_ok, trivial⟩ []

/-! ## 6: erasure/erasurelaw09.PredictUp -/
noncomputable def c6 : Code := Func.code Go.Proofs.Try.f6
abbrev gi6 : Sg := ⟨[0, 1], [.lf (.sl (.int .u8)), .lf (.int .i64)], []⟩
abbrev go6 : Sg := ⟨[4], [.lf .bool], []⟩
def fx6 : List Bool := []
abbrev g6_2 : Sg := ⟨[0, 8, 10], [.lf (.sl (.int .u8)), .lf (.sl (.int .u8)), .lf (.int .i64)], []⟩
abbrev o6_2 : Outs := [(.exit 2, ⟨[], [], []⟩), (.ret, ⟨[4], [.lf .bool], []⟩)]
noncomputable def b6_2 (x : g6_2.D) : Option (outD ((.normal, g6_2) :: o6_2)) :=
  (if ((decide (x.2.2.1 < (((List.length x.2.1) : Nat) : Int))) = true) then (if ((Go.IntKind.wrap Go.IntKind.i64 ((((List.length x.1) : Nat) : Int) + (1 : Int))) = (0 : Int)) then none
   else (if (((Int.tmod x.2.2.1 (Go.IntKind.wrap Go.IntKind.i64 ((((List.length x.1) : Nat) : Int) + (1 : Int)))) == (0 : Int)) = true) then (if ((0 : Int) ≤ x.2.2.1) then (if (x.2.2.1 < (((List.length x.2.1) : Nat) : Int)) then (if (((List.getD x.2.1 (Int.toNat x.2.2.1) (0 : Int)) != (2 : Int)) = true) then (some (Sum.inr (Sum.inr (Sum.inl (false, Unit.unit)))))
   else (some (Sum.inl (x.1, (x.2.1, ((Go.IntKind.wrap Go.IntKind.i64 (x.2.2.1 + (1 : Int))), Unit.unit))))))
   else none)
   else none)
   else (if ((decide (x.2.2.1 < (Go.IntKind.wrap Go.IntKind.i64 ((((List.length x.1) : Nat) : Int) + (1 : Int))))) = true) then (if ((0 : Int) ≤ (Go.IntKind.wrap Go.IntKind.i64 ((Int.tmod x.2.2.1 (Go.IntKind.wrap Go.IntKind.i64 ((((List.length x.1) : Nat) : Int) + (1 : Int)))) - (1 : Int)))) then (if ((Go.IntKind.wrap Go.IntKind.i64 ((Int.tmod x.2.2.1 (Go.IntKind.wrap Go.IntKind.i64 ((((List.length x.1) : Nat) : Int) + (1 : Int)))) - (1 : Int))) < (((List.length x.1) : Nat) : Int)) then (if ((0 : Int) ≤ x.2.2.1) then (if (x.2.2.1 < (((List.length x.2.1) : Nat) : Int)) then (if (((List.getD x.2.1 (Int.toNat x.2.2.1) (0 : Int)) != (List.getD x.1 (Int.toNat (Go.IntKind.wrap Go.IntKind.i64 ((Int.tmod x.2.2.1 (Go.IntKind.wrap Go.IntKind.i64 ((((List.length x.1) : Nat) : Int) + (1 : Int)))) - (1 : Int)))) (0 : Int))) = true) then (some (Sum.inr (Sum.inr (Sum.inl (false, Unit.unit)))))
   else (some (Sum.inl (x.1, (x.2.1, ((Go.IntKind.wrap Go.IntKind.i64 (x.2.2.1 + (1 : Int))), Unit.unit))))))
   else none)
   else none)
   else none)
   else none)
   else (if ((0 : Int) ≤ x.2.2.1) then (if (x.2.2.1 < (((List.length x.2.1) : Nat) : Int)) then (if (((List.getD x.2.1 (Int.toNat x.2.2.1) (0 : Int)) != (0 : Int)) = true) then (some (Sum.inr (Sum.inr (Sum.inl (false, Unit.unit)))))
   else (some (Sum.inl (x.1, (x.2.1, ((Go.IntKind.wrap Go.IntKind.i64 (x.2.2.1 + (1 : Int))), Unit.unit))))))
   else none)
   else none))))
   else (some (Sum.inr (Sum.inl Unit.unit))))
theorem b6_2_eq (x : g6_2.D) : b6_2 x = evF P (T5.orc _) Go.Proofs.Try.f6.ntmps fx6 (Code.at [true, true, true, true, true, true, true, false, true, false, false] c6) (planAt 64 []) g6_2 x (injK fx6 ((.normal, g6_2) :: o6_2) some) := by kernel_rfl
noncomputable def l6_2 : g6_2.D → Option (outD o6_2) := loopN g6_2 o6_2 b6_2 18446744073709551616
theorem at6_2 : Code.at [true, true, true, true, true, true, true, false, true, false] c6 = .loop (Code.at [true, true, true, true, true, true, true, false, true, false, false] c6) := by kernel_rfl
theorem s6_2_ok : SubOk P Go.Proofs.Try.f6.ntmps fx6 (Code.at [true, true, true, true, true, true, true, false, true, false] c6) ⟨g6_2, o6_2, l6_2⟩ := by
  rw [at6_2]
  exact loop_ok (sub_ok (g := g6_2) (outs := ((.normal, g6_2) :: o6_2)) (f := b6_2) (Table.ok T5_ok _) hmix (planAt_ok (P := P) (n := Go.Proofs.Try.f6.ntmps) (fx := fx6) (any := true) (c := (Code.at [true, true, true, true, true, true, true, false, true, false, false] c6)) (d := 64) (l := []) trivial) b6_2_eq) rfl _
abbrev g6_1 : Sg := ⟨[0, 1, 5, 6, 7], [.lf (.sl (.int .u8)), .lf (.int .i64), .lf (.ptr 0 0), .lf (.gr (.int .u8) 1), .lf (.int .i64)], [some (.box true [.lf (.int .i64), .lf (.int .i64), .lf (.int .i64), .lf (.int .i64)]), some (.arr true (.int .u8))]⟩
abbrev o6_1 : Outs := [(.exit 0, ⟨[0, 1, 5, 6], [.lf (.sl (.int .u8)), .lf (.int .i64), .lf (.ptr 0 0), .lf (.gr (.int .u8) 1)], [some (.box true [.lf (.int .i64), .lf (.int .i64), .lf (.int .i64), .lf (.int .i64)]), some (.arr true (.int .u8))]⟩)]
noncomputable def b6_1 (x : g6_1.D) : Option (outD ((.normal, g6_1) :: o6_1)) :=
  (if ((decide (x.2.2.1 < x.2.1)) = true) then (if (((List.length (List.take (List.length x.2.2.2.2.2.2.2.1) (List.drop (0 : Nat) x.2.2.2.2.2.2.2.1))) + (List.length x.1)) ≤ (140737488355328 : Nat)) then (if ((List.length ((List.take (List.length x.2.2.2.2.2.2.2.1) (List.drop (0 : Nat) x.2.2.2.2.2.2.2.1)) ++ x.1)) = (List.length ((List.take (List.length x.2.2.2.2.2.2.2.1) (List.drop (0 : Nat) x.2.2.2.2.2.2.2.1)) ++ x.1))) then (some (Sum.inl (x.1, (x.2.1, ((Go.IntKind.wrap Go.IntKind.i64 (x.2.2.1 + (1 : Int))), (x.2.2.2.1, (x.2.2.2.2.1, (x.2.2.2.2.2.1, (x.2.2.2.2.2.2.1, (((List.take (List.length x.2.2.2.2.2.2.2.1) (List.drop (0 : Nat) x.2.2.2.2.2.2.2.1)) ++ x.1), Unit.unit))))))))))
   else none)
   else none)
   else (if ((List.length x.2.2.2.2.2.2.2.1) = (List.length x.2.2.2.2.2.2.2.1)) then (some (Sum.inr (Sum.inl (x.1, (x.2.1, (x.2.2.2.1, (x.2.2.2.2.1, (x.2.2.2.2.2.1, (x.2.2.2.2.2.2.1, (x.2.2.2.2.2.2.2.1, Unit.unit))))))))))
   else none))
theorem b6_1_eq (x : g6_1.D) : b6_1 x = evF P (T5.orc _) Go.Proofs.Try.f6.ntmps fx6 (Code.at [true, true, true, true, false, true, false, false] c6) (planAt 64 []) g6_1 x (injK fx6 ((.normal, g6_1) :: o6_1) some) := by kernel_rfl
noncomputable def l6_1 : g6_1.D → Option (outD o6_1) := loopN g6_1 o6_1 b6_1 18446744073709551616
theorem at6_1 : Code.at [true, true, true, true, false, true, false] c6 = .loop (Code.at [true, true, true, true, false, true, false, false] c6) := by kernel_rfl
theorem s6_1_ok : SubOk P Go.Proofs.Try.f6.ntmps fx6 (Code.at [true, true, true, true, false, true, false] c6) ⟨g6_1, o6_1, l6_1⟩ := by
  rw [at6_1]
  exact loop_ok (sub_ok (g := g6_1) (outs := ((.normal, g6_1) :: o6_1)) (f := b6_1) (Table.ok T5_ok _) hmix (planAt_ok (P := P) (n := Go.Proofs.Try.f6.ntmps) (fx := fx6) (any := true) (c := (Code.at [true, true, true, true, false, true, false, false] c6)) (d := 64) (l := []) trivial) b6_1_eq) rfl _
noncomputable def f6 (x : gi6.D) : Option go6.D :=
  (if ((decide ((((List.length x.1) : Nat) : Int) < (1 : Int))) = true) then (Option.bind (Go.Ev.Pre.f12 Unit.unit) (fun y1 => (some (y1.1, Unit.unit))))
   else (if ((decide ((((List.length x.1) : Nat) : Int) > (200 : Int))) = true) then (Option.bind (Go.Ev.Pre.f12 Unit.unit) (fun y1 => (some (y1.1, Unit.unit))))
   else (if ((decide (x.2.1 < (0 : Int))) = true) then (Option.bind (Go.Ev.Pre.f12 Unit.unit) (fun y1 => (some (y1.1, Unit.unit))))
   else (if ((decide (x.2.1 > (20 : Int))) = true) then (Option.bind (Go.Ev.Pre.f12 Unit.unit) (fun y1 => (some (y1.1, Unit.unit))))
   else (Option.bind (Go.Ev.Pre.l6_1 (x.1, (x.2.1, ((0 : Int), ((12 : Int), ((1 : Int), ((8 : Int), ((((List.length x.1) : Nat) : Int), ([], Unit.unit))))))))) (Sum.elim (fun y1 => (Option.bind (Go.Ev.Pre.f10 (y1.2.2.1, (y1.2.2.2.1, (y1.2.2.2.2.1, (y1.2.2.2.2.2.1, ((2 : Int), ((List.take (List.length y1.2.2.2.2.2.2.1) (List.drop (0 : Nat) y1.2.2.2.2.2.2.1)), Unit.unit))))))) (fun y2 => (if ((y2.1 != (0 : Int)) = true) then (some (false, Unit.unit))
   else (if (((((List.length y2.2.1) : Nat) : Int) != (Go.IntKind.wrap Go.IntKind.i64 (y1.2.1 * (Go.IntKind.wrap Go.IntKind.i64 ((((List.length y1.1) : Nat) : Int) + (1 : Int)))))) = true) then (some (false, Unit.unit))
   else (Option.bind (Go.Ev.Pre.l6_2 (y1.1, ((List.take (List.length y2.2.1) (List.drop (0 : Nat) y2.2.1)), ((0 : Int), Unit.unit)))) (Sum.elim (fun _ => (Option.bind (Go.Ev.Pre.f12 Unit.unit) (fun y4 => (some (y4.1, Unit.unit))))) (Sum.elim (fun y3 => (some (y3.1, Unit.unit))) Empty.elim)))))))) Empty.elim))))))
theorem f6_eq (x : gi6.D) : f6 x = evF P (T5.orc _) Go.Proofs.Try.f6.ntmps fx6 c6 (planAt 64 [([true, true, true, true, false, true, false], ⟨g6_1, o6_1, l6_1⟩), ([true, true, true, true, true, true, true, false, true, false], ⟨g6_2, o6_2, l6_2⟩)]) gi6 x (fnK fx6 [go6]) := by kernel_rfl
theorem pf6 : AllSub P Go.Proofs.Try.f6.ntmps fx6 true c6 [([true, true, true, true, false, true, false], ⟨g6_1, o6_1, l6_1⟩), ([true, true, true, true, true, true, true, false, true, false], ⟨g6_2, o6_2, l6_2⟩)] := And.intro s6_1_ok (And.intro s6_2_ok (trivial))
theorem qf6 : PlanOk P Go.Proofs.Try.f6.ntmps fx6 true (planAt 64 [([true, true, true, true, false, true, false], ⟨g6_1, o6_1, l6_1⟩), ([true, true, true, true, true, true, true, false, true, false], ⟨g6_2, o6_2, l6_2⟩)]) c6 := planAt_ok pf6
theorem f6_ok : EntOk P 6 ⟨gi6, [go6], f6⟩ :=
  ent_ok (fn := Go.Proofs.Try.f6) (gi := gi6) (gos := [go6]) (f := f6) (c := c6) (fx := fx6) ⟨Go.Proofs.Try.func6, by kernel_rfl, rfl, by decide +kernel, rfl, rfl⟩ (by kernel_rfl) (Table.ok T5_ok _) hmix (qf6) f6_eq
noncomputable def T6 : Table := T5.add 6 [⟨gi6, [go6], f6⟩] []
theorem T6_ok : TableOk P T6 := Table.plus T5_ok (es := [⟨gi6, [go6], f6⟩]) ⟨f6_ok, trivial⟩ []

end Go.Ev.Pre
