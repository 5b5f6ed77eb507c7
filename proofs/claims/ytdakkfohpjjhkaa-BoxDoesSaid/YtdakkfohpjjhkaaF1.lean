/- Part of a proof about the given program: F1. -/
import Derived.Test.YtdakkfohpjjhkaaEvZ
import Derived.Test.YtdakkfohpjjhkaaChecked
namespace Go.Ev.Box
open Go.Ev

noncomputable abbrev P := Go.Proofs.Try.prog
set_option maxRecDepth 1000000
theorem hmix : P.follows .mixedOrders = true := by kernel_rfl
noncomputable def TX58 : Table := Table.empty.addX 58 .add64
theorem TX58_ok : TableOk P TX58 := Table.addX_ok (Table.empty_ok P) ⟨Go.Proofs.Try.f58, Go.Proofs.Try.func58, by kernel_rfl, by kernel_rfl, by kernel_rfl, by kernel_rfl⟩
noncomputable def TX59 : Table := TX58.addX 59 .sub64
theorem TX59_ok : TableOk P TX59 := Table.addX_ok TX58_ok ⟨Go.Proofs.Try.f59, Go.Proofs.Try.func59, by kernel_rfl, by kernel_rfl, by kernel_rfl, by kernel_rfl⟩

/-! ## 22: erasure/box.corners -/
noncomputable def c22 : Code := Func.code Go.Proofs.Try.f22
abbrev gi22 : Sg := ⟨[0], [.agg [.lf (.int .i64), .lf (.int .i64), .lf (.int .i64), .lf (.int .i64), .lf (.int .i64), .lf (.int .i64), .lf (.int .i64), .lf (.int .i64)]], []⟩
abbrev go22 : Sg := ⟨[0], [.agg [.many (.pair (.pair (.int .i64) (.int .i64)) (.pair (.int .i64) (.int .i64))) 4]], []⟩
def fx22 : List Bool := []
noncomputable def f22 (x : gi22.D) : Option go22.D :=
  (some ((List.set (List.set (List.set (List.set (List.replicate (4 : Nat) (((0 : Int), (0 : Int)), ((0 : Int), (0 : Int)))) (0 : Nat) ((x.1, x.2.1), (x.2.2.1, x.2.2.2.1))) (1 : Nat) ((x.2.2.2.2.1, x.2.2.2.2.2.1), (x.2.2.1, x.2.2.2.1))) (2 : Nat) ((x.1, x.2.1), (x.2.2.2.2.2.2.1, x.2.2.2.2.2.2.2.1))) (3 : Nat) ((x.2.2.2.2.1, x.2.2.2.2.2.1), (x.2.2.2.2.2.2.1, x.2.2.2.2.2.2.2.1))), Unit.unit))
theorem f22_eq (x : gi22.D) : f22 x = evF P (TX59.orc _) Go.Proofs.Try.f22.ntmps fx22 c22 (planAt 64 []) gi22 x (fnKR P Go.Proofs.Try.f22 fx22 [go22]) := by kernel_rfl
theorem f22_ok : EntOk P 22 ⟨gi22, [go22], f22⟩ :=
  ent_okR (fn := Go.Proofs.Try.f22) (gi := gi22) (gos := [go22]) (f := f22) (c := c22) (fx := fx22) ⟨Go.Proofs.Try.func22, by kernel_rfl, rfl, by decide +kernel, rfl, rfl⟩ (Table.ok TX59_ok _) hmix (planAt_ok (P := P) (n := Go.Proofs.Try.f22.ntmps) (fx := fx22) (c := c22) (d := 64) (l := []) trivial) f22_eq
noncomputable def T22 : Table := TX59.add 22 [⟨gi22, [go22], f22⟩] []
theorem T22_ok : TableOk P T22 := Table.plus TX59_ok (es := [⟨gi22, [go22], f22⟩]) ⟨f22_ok, trivial⟩ []

/-! ## 23: erasure/dec.Check -/
noncomputable def c23 : Code := Func.code Go.Proofs.Try.f23
abbrev gi23 : Sg := ⟨[0], [.agg [.lf (.int .i64), .lf (.int .i64)]], []⟩
abbrev go23 : Sg := ⟨[2], [.lf (.int .i64)], []⟩
def fx23 : List Bool := []
noncomputable def f23 (x : gi23.D) : Option go23.D :=
  (if ((decide (x.1 < (-999999999999999999 : Int))) = true) then (some ((1 : Int), Unit.unit))
   else (if ((decide (x.1 > (999999999999999999 : Int))) = true) then (some ((1 : Int), Unit.unit))
   else (if ((decide (x.2.1 < (0 : Int))) = true) then (some ((1 : Int), Unit.unit))
   else (if ((decide (x.2.1 > (9 : Int))) = true) then (some ((1 : Int), Unit.unit))
   else (if ((decide (x.2.1 > (0 : Int))) = true) then (if (((Int.tmod x.1 (10 : Int)) == (0 : Int)) = true) then (some ((1 : Int), Unit.unit))
   else (some ((0 : Int), Unit.unit)))
   else (some ((0 : Int), Unit.unit)))))))
theorem f23_eq (x : gi23.D) : f23 x = evF P (T22.orc _) Go.Proofs.Try.f23.ntmps fx23 c23 (planAt 64 []) gi23 x (fnK fx23 [go23]) := by kernel_rfl
theorem f23_ok : EntOk P 23 ⟨gi23, [go23], f23⟩ :=
  ent_ok (fn := Go.Proofs.Try.f23) (gi := gi23) (gos := [go23]) (f := f23) (c := c23) (fx := fx23) ⟨Go.Proofs.Try.func23, by kernel_rfl, rfl, by decide +kernel, rfl, rfl⟩ (by kernel_rfl) (Table.ok T22_ok _) hmix (planAt_ok (P := P) (n := Go.Proofs.Try.f23.ntmps) (fx := fx23) (c := c23) (d := 64) (l := []) trivial) f23_eq
noncomputable def T23 : Table := T22.add 23 [⟨gi23, [go23], f23⟩] []
theorem T23_ok : TableOk P T23 := Table.plus T22_ok (es := [⟨gi23, [go23], f23⟩]) ⟨f23_ok, trivial⟩ []

/-! ## 49: erasure/dec.size -/
noncomputable def c49 : Code := Func.code Go.Proofs.Try.f49
abbrev gi49 : Sg := ⟨[0], [.lf (.int .i64)], []⟩
abbrev go49 : Sg := ⟨[2], [.lf (.int .u64)], []⟩
def fx49 : List Bool := []
noncomputable def f49 (x : gi49.D) : Option go49.D :=
  (some ((Go.IntKind.wrap Go.IntKind.u64 (Max.max x.1 (Go.IntKind.wrap Go.IntKind.i64 ((0 : Int) - x.1)))), Unit.unit))
theorem f49_eq (x : gi49.D) : f49 x = evF P (T23.orc _) Go.Proofs.Try.f49.ntmps fx49 c49 (planAt 64 []) gi49 x (fnK fx49 [go49]) := by kernel_rfl
theorem f49_ok : EntOk P 49 ⟨gi49, [go49], f49⟩ :=
  ent_ok (fn := Go.Proofs.Try.f49) (gi := gi49) (gos := [go49]) (f := f49) (c := c49) (fx := fx49) ⟨Go.Proofs.Try.func49, by kernel_rfl, rfl, by decide +kernel, rfl, rfl⟩ (by kernel_rfl) (Table.ok T23_ok _) hmix (planAt_ok (P := P) (n := Go.Proofs.Try.f49.ntmps) (fx := fx49) (c := c49) (d := 64) (l := []) trivial) f49_eq
noncomputable def T49 : Table := T23.add 49 [⟨gi49, [go49], f49⟩] []
theorem T49_ok : TableOk P T49 := Table.plus T23_ok (es := [⟨gi49, [go49], f49⟩]) ⟨f49_ok, trivial⟩ []

/-! ## 50: math/bits.Mul64 -/
noncomputable def c50 : Code := Func.code Go.Proofs.Try.f50
abbrev gi50 : Sg := ⟨[0, 1], [.lf (.int .u64), .lf (.int .u64)], []⟩
abbrev go50 : Sg := ⟨[4, 5], [.lf (.int .u64), .lf (.int .u64)], []⟩
def fx50 : List Bool := []
noncomputable def f50 (x : gi50.D) : Option go50.D :=
  (some ((Go.IntKind.wrap Go.IntKind.u64 ((Go.IntKind.wrap Go.IntKind.u64 ((Go.IntKind.wrap Go.IntKind.u64 ((Int.fdiv x.1 (4294967296 : Int)) * (Int.fdiv x.2.1 (4294967296 : Int)))) + (Int.fdiv (Go.IntKind.wrap Go.IntKind.u64 ((Go.IntKind.wrap Go.IntKind.u64 ((Int.fdiv x.1 (4294967296 : Int)) * (Go.IntKind.wrap Go.IntKind.u64 (((BitVec.toNat ((BitVec.ofInt (64 : Nat) x.2.1) &&& (BitVec.ofInt (64 : Nat) (4294967295 : Int)))) : Nat) : Int)))) + (Int.fdiv (Go.IntKind.wrap Go.IntKind.u64 ((Go.IntKind.wrap Go.IntKind.u64 (((BitVec.toNat ((BitVec.ofInt (64 : Nat) x.1) &&& (BitVec.ofInt (64 : Nat) (4294967295 : Int)))) : Nat) : Int)) * (Go.IntKind.wrap Go.IntKind.u64 (((BitVec.toNat ((BitVec.ofInt (64 : Nat) x.2.1) &&& (BitVec.ofInt (64 : Nat) (4294967295 : Int)))) : Nat) : Int)))) (4294967296 : Int)))) (4294967296 : Int)))) + (Int.fdiv (Go.IntKind.wrap Go.IntKind.u64 ((Go.IntKind.wrap Go.IntKind.u64 (((BitVec.toNat ((BitVec.ofInt (64 : Nat) (Go.IntKind.wrap Go.IntKind.u64 ((Go.IntKind.wrap Go.IntKind.u64 ((Int.fdiv x.1 (4294967296 : Int)) * (Go.IntKind.wrap Go.IntKind.u64 (((BitVec.toNat ((BitVec.ofInt (64 : Nat) x.2.1) &&& (BitVec.ofInt (64 : Nat) (4294967295 : Int)))) : Nat) : Int)))) + (Int.fdiv (Go.IntKind.wrap Go.IntKind.u64 ((Go.IntKind.wrap Go.IntKind.u64 (((BitVec.toNat ((BitVec.ofInt (64 : Nat) x.1) &&& (BitVec.ofInt (64 : Nat) (4294967295 : Int)))) : Nat) : Int)) * (Go.IntKind.wrap Go.IntKind.u64 (((BitVec.toNat ((BitVec.ofInt (64 : Nat) x.2.1) &&& (BitVec.ofInt (64 : Nat) (4294967295 : Int)))) : Nat) : Int)))) (4294967296 : Int))))) &&& (BitVec.ofInt (64 : Nat) (4294967295 : Int)))) : Nat) : Int)) + (Go.IntKind.wrap Go.IntKind.u64 ((Go.IntKind.wrap Go.IntKind.u64 (((BitVec.toNat ((BitVec.ofInt (64 : Nat) x.1) &&& (BitVec.ofInt (64 : Nat) (4294967295 : Int)))) : Nat) : Int)) * (Int.fdiv x.2.1 (4294967296 : Int)))))) (4294967296 : Int)))), ((Go.IntKind.wrap Go.IntKind.u64 (x.1 * x.2.1)), Unit.unit)))
theorem f50_eq (x : gi50.D) : f50 x = evF P (T49.orc _) Go.Proofs.Try.f50.ntmps fx50 c50 (planAt 64 []) gi50 x (fnK fx50 [go50]) := by kernel_rfl
theorem f50_ok : EntOk P 50 ⟨gi50, [go50], f50⟩ :=
  ent_ok (fn := Go.Proofs.Try.f50) (gi := gi50) (gos := [go50]) (f := f50) (c := c50) (fx := fx50) ⟨Go.Proofs.Try.func50, by kernel_rfl, rfl, by decide +kernel, rfl, rfl⟩ (by kernel_rfl) (Table.ok T49_ok _) hmix (planAt_ok (P := P) (n := Go.Proofs.Try.f50.ntmps) (fx := fx50) (c := c50) (d := 64) (l := []) trivial) f50_eq
noncomputable def T50 : Table := T49.add 50 [⟨gi50, [go50], f50⟩] []
theorem T50_ok : TableOk P T50 := Table.plus T49_ok (es := [⟨gi50, [go50], f50⟩]) ⟨f50_ok, trivial⟩ []

/-! ## 38: erasure/dec.lift -/
noncomputable def c38 : Code := Func.code Go.Proofs.Try.f38
abbrev gi38 : Sg := ⟨[0, 1], [.agg [.lf (.int .i64), .lf (.int .i64)], .lf (.int .i64)], []⟩
abbrev go38 : Sg := ⟨[0], [.agg [.lf (.int .u64), .lf (.int .u64)]], []⟩
def fx38 : List Bool := []
abbrev g38_1 : Sg := ⟨[1, 4, 5, 6], [.lf (.int .i64), .lf (.ptr 0 0), .lf (.ptr 1 0), .lf (.int .i64)], [some (.box true [.lf (.int .u64), .lf (.int .u64)]), some (.box true [.lf (.int .u64), .lf (.int .u64)])]⟩
abbrev o38_1 : Outs := [(.exit 0, ⟨[4, 5], [.lf (.ptr 0 0), .lf (.ptr 1 0)], [some (.box true [.lf (.int .u64), .lf (.int .u64)]), some (.box true [.lf (.int .u64), .lf (.int .u64)])]⟩)]
noncomputable def b38_1 (x : g38_1.D) : Option (outD ((.normal, g38_1) :: o38_1)) :=
  (if ((decide (x.2.1 < x.1)) = true) then (Option.bind (Go.Ev.Box.f50 (x.2.2.2.2.2.1, ((10 : Int), Unit.unit))) (fun y1 => (some (Sum.inl (x.1, ((Go.IntKind.wrap Go.IntKind.i64 (x.2.1 + (1 : Int))), (x.2.2.1, (x.2.2.2.1, ((Go.IntKind.wrap Go.IntKind.u64 ((Go.IntKind.wrap Go.IntKind.u64 (x.2.2.2.2.1 * (10 : Int))) + y1.1)), (y1.2.1, Unit.unit))))))))))
   else (some (Sum.inr (Sum.inl (x.2.2.1, (x.2.2.2.1, (x.2.2.2.2.1, (x.2.2.2.2.2.1, Unit.unit))))))))
theorem b38_1_eq (x : g38_1.D) : b38_1 x = evF P (T50.orc _) Go.Proofs.Try.f38.ntmps fx38 (Code.at [true, true, false, true, false, false] c38) (planAt 64 []) g38_1 x (injK fx38 ((.normal, g38_1) :: o38_1) some) := by kernel_rfl
noncomputable def l38_1 : g38_1.D → Option (outD o38_1) := loopN g38_1 o38_1 b38_1 18446744073709551616
theorem at38_1 : Code.at [true, true, false, true, false] c38 = .loop (Code.at [true, true, false, true, false, false] c38) := by kernel_rfl
theorem s38_1_ok : SubOk P Go.Proofs.Try.f38.ntmps fx38 (Code.at [true, true, false, true, false] c38) ⟨g38_1, o38_1, l38_1⟩ := by
  rw [at38_1]
  exact loop_ok (sub_ok (g := g38_1) (outs := ((.normal, g38_1) :: o38_1)) (f := b38_1) (Table.ok T50_ok _) hmix (planAt_ok (P := P) (n := Go.Proofs.Try.f38.ntmps) (fx := fx38) (c := (Code.at [true, true, false, true, false, false] c38)) (d := 64) (l := []) trivial) b38_1_eq) rfl _
noncomputable def f38 (x : gi38.D) : Option go38.D :=
  (Option.bind (Go.Ev.Box.f49 (x.1, Unit.unit)) (fun y1 => (Option.bind (Go.Ev.Box.l38_1 (x.2.2.1, (x.2.1, ((0 : Int), ((0 : Int), ((0 : Int), (y1.1, Unit.unit))))))) (Sum.elim (fun y2 => (some (y2.2.2.1, (y2.2.2.2.1, Unit.unit)))) Empty.elim))))
theorem f38_eq (x : gi38.D) : f38 x = evF P (T50.orc _) Go.Proofs.Try.f38.ntmps fx38 c38 (planAt 64 [([true, true, false, true, false], ⟨g38_1, o38_1, l38_1⟩)]) gi38 x (fnKR P Go.Proofs.Try.f38 fx38 [go38]) := by kernel_rfl
theorem pf38 : AllSub P Go.Proofs.Try.f38.ntmps fx38 c38 [([true, true, false, true, false], ⟨g38_1, o38_1, l38_1⟩)] := And.intro s38_1_ok (trivial)
theorem qf38 : PlanOk P Go.Proofs.Try.f38.ntmps fx38 (planAt 64 [([true, true, false, true, false], ⟨g38_1, o38_1, l38_1⟩)]) c38 := planAt_ok pf38
theorem f38_ok : EntOk P 38 ⟨gi38, [go38], f38⟩ :=
  ent_okR (fn := Go.Proofs.Try.f38) (gi := gi38) (gos := [go38]) (f := f38) (c := c38) (fx := fx38) ⟨Go.Proofs.Try.func38, by kernel_rfl, rfl, by decide +kernel, rfl, rfl⟩ (Table.ok T50_ok _) hmix (qf38) f38_eq
noncomputable def T38 : Table := T50.add 38 [⟨gi38, [go38], f38⟩] []
theorem T38_ok : TableOk P T38 := Table.plus T50_ok (es := [⟨gi38, [go38], f38⟩]) ⟨f38_ok, trivial⟩ []

/-! ## 24: erasure/dec.pair -/
noncomputable def c24 : Code := Func.code Go.Proofs.Try.f24
abbrev gi24 : Sg := ⟨[0, 1], [.agg [.lf (.int .i64), .lf (.int .i64)], .agg [.lf (.int .i64), .lf (.int .i64)]], []⟩
abbrev go24 : Sg := ⟨[0, 0, 6, 7], [.agg [.lf (.int .u64), .lf (.int .u64)], .agg [.lf (.int .u64), .lf (.int .u64)], .lf (.int .i64), .lf (.int .i64)], []⟩
def fx24 : List Bool := []
noncomputable def f24 (x : gi24.D) : Option go24.D :=
  (Option.bind (Go.Ev.Box.f23 (x.1, (x.2.1, Unit.unit))) (fun y1 => (if ((y1.1 != (0 : Int)) = true) then (some ((0 : Int), ((0 : Int), ((0 : Int), ((0 : Int), ((0 : Int), ((1 : Int), Unit.unit)))))))
   else (Option.bind (Go.Ev.Box.f23 (x.2.2.1, (x.2.2.2.1, Unit.unit))) (fun y2 => (if ((y2.1 != (0 : Int)) = true) then (some ((0 : Int), ((0 : Int), ((0 : Int), ((0 : Int), ((0 : Int), ((1 : Int), Unit.unit)))))))
   else (Option.bind (Go.Ev.Box.f38 (x.1, (x.2.1, ((Max.max x.2.1 x.2.2.2.1), Unit.unit)))) (fun y3 => (Option.bind (Go.Ev.Box.f38 (x.2.2.1, (x.2.2.2.1, ((Max.max x.2.1 x.2.2.2.1), Unit.unit)))) (fun y4 => (some (y3.1, (y3.2.1, (y4.1, (y4.2.1, ((Max.max x.2.1 x.2.2.2.1), ((0 : Int), Unit.unit)))))))))))))))))
theorem f24_eq (x : gi24.D) : f24 x = evF P (T38.orc _) Go.Proofs.Try.f24.ntmps fx24 c24 (planAt 64 []) gi24 x (fnKR P Go.Proofs.Try.f24 fx24 [go24]) := by kernel_rfl
theorem f24_ok : EntOk P 24 ⟨gi24, [go24], f24⟩ :=
  ent_okR (fn := Go.Proofs.Try.f24) (gi := gi24) (gos := [go24]) (f := f24) (c := c24) (fx := fx24) ⟨Go.Proofs.Try.func24, by kernel_rfl, rfl, by decide +kernel, rfl, rfl⟩ (Table.ok T38_ok _) hmix (planAt_ok (P := P) (n := Go.Proofs.Try.f24.ntmps) (fx := fx24) (c := c24) (d := 64) (l := []) trivial) f24_eq
noncomputable def T24 : Table := T38.add 24 [⟨gi24, [go24], f24⟩] []
theorem T24_ok : TableOk P T24 := Table.plus T38_ok (es := [⟨gi24, [go24], f24⟩]) ⟨f24_ok, trivial⟩ []

/-! ## 51: cmp.isNaN[uint64] -/
noncomputable def c51 : Code := Func.code Go.Proofs.Try.f51
abbrev gi51 : Sg := ⟨[0], [.lf (.int .u64)], []⟩
abbrev go51 : Sg := ⟨[2], [.lf .bool], []⟩
def fx51 : List Bool := []
noncomputable def f51 (x : gi51.D) : Option go51.D :=
  (some ((x.1 != x.1), Unit.unit))
theorem f51_eq (x : gi51.D) : f51 x = evF P (T24.orc _) Go.Proofs.Try.f51.ntmps fx51 c51 (planAt 64 []) gi51 x (fnK fx51 [go51]) := by kernel_rfl
theorem f51_ok : EntOk P 51 ⟨gi51, [go51], f51⟩ :=
  ent_ok (fn := Go.Proofs.Try.f51) (gi := gi51) (gos := [go51]) (f := f51) (c := c51) (fx := fx51) ⟨Go.Proofs.Try.func51, by kernel_rfl, rfl, by decide +kernel, rfl, rfl⟩ (by kernel_rfl) (Table.ok T24_ok _) hmix (planAt_ok (P := P) (n := Go.Proofs.Try.f51.ntmps) (fx := fx51) (c := c51) (d := 64) (l := []) trivial) f51_eq
noncomputable def T51 : Table := T24.add 51 [⟨gi51, [go51], f51⟩] []
theorem T51_ok : TableOk P T51 := Table.plus T24_ok (es := [⟨gi51, [go51], f51⟩]) ⟨f51_ok, trivial⟩ []

/-! ## 40: cmp.Compare[uint64] -/
noncomputable def c40 : Code := Func.code Go.Proofs.Try.f40
abbrev gi40 : Sg := ⟨[0, 1], [.lf (.int .u64), .lf (.int .u64)], []⟩
abbrev go40 : Sg := ⟨[4], [.lf (.int .i64)], []⟩
def fx40 : List Bool := []
noncomputable def f40 (x : gi40.D) : Option go40.D :=
  (Option.bind (Go.Ev.Box.f51 (x.1, Unit.unit)) (fun y1 => (Option.bind (Go.Ev.Box.f51 (x.2.1, Unit.unit)) (fun y2 => (if (y1.1 = true) then (if (y2.1 = true) then (some ((0 : Int), Unit.unit))
   else (some ((-1 : Int), Unit.unit)))
   else (if (y2.1 = true) then (some ((1 : Int), Unit.unit))
   else (if ((decide (x.1 < x.2.1)) = true) then (some ((-1 : Int), Unit.unit))
   else (if ((decide (x.1 > x.2.1)) = true) then (some ((1 : Int), Unit.unit))
   else (some ((0 : Int), Unit.unit))))))))))
theorem f40_eq (x : gi40.D) : f40 x = evF P (T51.orc _) Go.Proofs.Try.f40.ntmps fx40 c40 (planAt 64 []) gi40 x (fnK fx40 [go40]) := by kernel_rfl
theorem f40_ok : EntOk P 40 ⟨gi40, [go40], f40⟩ :=
  ent_ok (fn := Go.Proofs.Try.f40) (gi := gi40) (gos := [go40]) (f := f40) (c := c40) (fx := fx40) ⟨Go.Proofs.Try.func40, by kernel_rfl, rfl, by decide +kernel, rfl, rfl⟩ (by kernel_rfl) (Table.ok T51_ok _) hmix (planAt_ok (P := P) (n := Go.Proofs.Try.f40.ntmps) (fx := fx40) (c := c40) (d := 64) (l := []) trivial) f40_eq
noncomputable def T40 : Table := T51.add 40 [⟨gi40, [go40], f40⟩] []
theorem T40_ok : TableOk P T40 := Table.plus T51_ok (es := [⟨gi40, [go40], f40⟩]) ⟨f40_ok, trivial⟩ []

/-! ## 39: cmp.Or[int] -/
noncomputable def c39 : Code := Func.code Go.Proofs.Try.f39
abbrev gi39 : Sg := ⟨[0], [.lf (.sl (.int .i64))], []⟩
abbrev go39 : Sg := ⟨[2], [.lf (.int .i64)], []⟩
def fx39 : List Bool := []
abbrev g39_1 : Sg := ⟨[3, 6, 7, 8], [.lf (.int .i64), .lf (.sl (.int .i64)), .lf (.int .i64), .lf (.int .i64)], []⟩
abbrev o39_1 : Outs := [(.exit 0, ⟨[3], [.lf (.int .i64)], []⟩), (.ret, ⟨[2], [.lf (.int .i64)], []⟩)]
noncomputable def b39_1 (x : g39_1.D) : Option (outD ((.normal, g39_1) :: o39_1)) :=
  (if ((decide (x.2.2.2.1 < x.2.2.1)) = true) then (if ((0 : Int) ≤ x.2.2.2.1) then (if (x.2.2.2.1 < (((List.length x.2.1) : Nat) : Int)) then (if (((List.getD x.2.1 (Int.toNat x.2.2.2.1) (0 : Int)) != x.1) = true) then (some (Sum.inr (Sum.inr (Sum.inl ((List.getD x.2.1 (Int.toNat x.2.2.2.1) (0 : Int)), Unit.unit)))))
   else (some (Sum.inl (x.1, (x.2.1, (x.2.2.1, ((Go.IntKind.wrap Go.IntKind.i64 (x.2.2.2.1 + (1 : Int))), Unit.unit)))))))
   else none)
   else none)
   else (some (Sum.inr (Sum.inl (x.1, Unit.unit)))))
theorem b39_1_eq (x : g39_1.D) : b39_1 x = evF P (T40.orc _) Go.Proofs.Try.f39.ntmps fx39 (Code.at [true, true, false, true, false, false] c39) (planAt 64 []) g39_1 x (injK fx39 ((.normal, g39_1) :: o39_1) some) := by kernel_rfl
noncomputable def l39_1 : g39_1.D → Option (outD o39_1) := loopN g39_1 o39_1 b39_1 18446744073709551616
theorem at39_1 : Code.at [true, true, false, true, false] c39 = .loop (Code.at [true, true, false, true, false, false] c39) := by kernel_rfl
theorem s39_1_ok : SubOk P Go.Proofs.Try.f39.ntmps fx39 (Code.at [true, true, false, true, false] c39) ⟨g39_1, o39_1, l39_1⟩ := by
  rw [at39_1]
  exact loop_ok (sub_ok (g := g39_1) (outs := ((.normal, g39_1) :: o39_1)) (f := b39_1) (Table.ok T40_ok _) hmix (planAt_ok (P := P) (n := Go.Proofs.Try.f39.ntmps) (fx := fx39) (c := (Code.at [true, true, false, true, false, false] c39)) (d := 64) (l := []) trivial) b39_1_eq) rfl _
noncomputable def f39 (x : gi39.D) : Option go39.D :=
  (Option.bind (Go.Ev.Box.l39_1 ((0 : Int), (x.1, ((((List.length x.1) : Nat) : Int), ((0 : Int), Unit.unit))))) (Sum.elim (fun y1 => (some (y1.1, Unit.unit))) (Sum.elim (fun y1 => (some (y1.1, Unit.unit))) Empty.elim)))
theorem f39_eq (x : gi39.D) : f39 x = evF P (T40.orc _) Go.Proofs.Try.f39.ntmps fx39 c39 (planAt 64 [([true, true, false, true, false], ⟨g39_1, o39_1, l39_1⟩)]) gi39 x (fnK fx39 [go39]) := by kernel_rfl
theorem pf39 : AllSub P Go.Proofs.Try.f39.ntmps fx39 c39 [([true, true, false, true, false], ⟨g39_1, o39_1, l39_1⟩)] := And.intro s39_1_ok (trivial)
theorem qf39 : PlanOk P Go.Proofs.Try.f39.ntmps fx39 (planAt 64 [([true, true, false, true, false], ⟨g39_1, o39_1, l39_1⟩)]) c39 := planAt_ok pf39
theorem f39_ok : EntOk P 39 ⟨gi39, [go39], f39⟩ :=
  ent_ok (fn := Go.Proofs.Try.f39) (gi := gi39) (gos := [go39]) (f := f39) (c := c39) (fx := fx39) ⟨Go.Proofs.Try.func39, by kernel_rfl, rfl, by decide +kernel, rfl, rfl⟩ (by kernel_rfl) (Table.ok T40_ok _) hmix (qf39) f39_eq
noncomputable def T39 : Table := T40.add 39 [⟨gi39, [go39], f39⟩] []
theorem T39_ok : TableOk P T39 := Table.plus T40_ok (es := [⟨gi39, [go39], f39⟩]) ⟨f39_ok, trivial⟩ []

/-! ## 25: (erasure/dec.wide).compare -/
noncomputable def c25 : Code := Func.code Go.Proofs.Try.f25
abbrev gi25 : Sg := ⟨[0, 1], [.agg [.lf (.int .u64), .lf (.int .u64)], .agg [.lf (.int .u64), .lf (.int .u64)]], []⟩
abbrev go25 : Sg := ⟨[4], [.lf (.int .i64)], []⟩
def fx25 : List Bool := []
noncomputable def f25 (x : gi25.D) : Option go25.D :=
  (Option.bind (Go.Ev.Box.f40 (x.1, (x.2.2.1, Unit.unit))) (fun y1 => (Option.bind (Go.Ev.Box.f40 (x.2.1, (x.2.2.2.1, Unit.unit))) (fun y2 => (Option.bind (Go.Ev.Box.f39 ((List.take (2 : Nat) (List.drop (0 : Nat) (List.set (List.set (List.replicate (2 : Nat) (0 : Int)) (0 : Nat) y1.1) (1 : Nat) y2.1))), Unit.unit)) (fun y3 => (some (y3.1, Unit.unit))))))))
theorem f25_eq (x : gi25.D) : f25 x = evF P (T39.orc _) Go.Proofs.Try.f25.ntmps fx25 c25 (planAt 64 []) gi25 x (fnK fx25 [go25]) := by kernel_rfl
theorem f25_ok : EntOk P 25 ⟨gi25, [go25], f25⟩ :=
  ent_ok (fn := Go.Proofs.Try.f25) (gi := gi25) (gos := [go25]) (f := f25) (c := c25) (fx := fx25) ⟨Go.Proofs.Try.func25, by kernel_rfl, rfl, by decide +kernel, rfl, rfl⟩ (by kernel_rfl) (Table.ok T39_ok _) hmix (planAt_ok (P := P) (n := Go.Proofs.Try.f25.ntmps) (fx := fx25) (c := c25) (d := 64) (l := []) trivial) f25_eq
noncomputable def T25 : Table := T39.add 25 [⟨gi25, [go25], f25⟩] []
theorem T25_ok : TableOk P T25 := Table.plus T39_ok (es := [⟨gi25, [go25], f25⟩]) ⟨f25_ok, trivial⟩ []

/-! ## 41: cmp.isNaN[int] -/
noncomputable def c41 : Code := Func.code Go.Proofs.Try.f41
abbrev gi41 : Sg := ⟨[0], [.lf (.int .i64)], []⟩
abbrev go41 : Sg := ⟨[2], [.lf .bool], []⟩
def fx41 : List Bool := []
noncomputable def f41 (x : gi41.D) : Option go41.D :=
  (some ((x.1 != x.1), Unit.unit))
theorem f41_eq (x : gi41.D) : f41 x = evF P (T25.orc _) Go.Proofs.Try.f41.ntmps fx41 c41 (planAt 64 []) gi41 x (fnK fx41 [go41]) := by kernel_rfl
theorem f41_ok : EntOk P 41 ⟨gi41, [go41], f41⟩ :=
  ent_ok (fn := Go.Proofs.Try.f41) (gi := gi41) (gos := [go41]) (f := f41) (c := c41) (fx := fx41) ⟨Go.Proofs.Try.func41, by kernel_rfl, rfl, by decide +kernel, rfl, rfl⟩ (by kernel_rfl) (Table.ok T25_ok _) hmix (planAt_ok (P := P) (n := Go.Proofs.Try.f41.ntmps) (fx := fx41) (c := c41) (d := 64) (l := []) trivial) f41_eq
noncomputable def T41 : Table := T25.add 41 [⟨gi41, [go41], f41⟩] []
theorem T41_ok : TableOk P T41 := Table.plus T25_ok (es := [⟨gi41, [go41], f41⟩]) ⟨f41_ok, trivial⟩ []

/-! ## 26: cmp.Compare[int] -/
noncomputable def c26 : Code := Func.code Go.Proofs.Try.f26
abbrev gi26 : Sg := ⟨[0, 1], [.lf (.int .i64), .lf (.int .i64)], []⟩
abbrev go26 : Sg := ⟨[4], [.lf (.int .i64)], []⟩
def fx26 : List Bool := []
noncomputable def f26 (x : gi26.D) : Option go26.D :=
  (Option.bind (Go.Ev.Box.f41 (x.1, Unit.unit)) (fun y1 => (Option.bind (Go.Ev.Box.f41 (x.2.1, Unit.unit)) (fun y2 => (if (y1.1 = true) then (if (y2.1 = true) then (some ((0 : Int), Unit.unit))
   else (some ((-1 : Int), Unit.unit)))
   else (if (y2.1 = true) then (some ((1 : Int), Unit.unit))
   else (if ((decide (x.1 < x.2.1)) = true) then (some ((-1 : Int), Unit.unit))
   else (if ((decide (x.1 > x.2.1)) = true) then (some ((1 : Int), Unit.unit))
   else (some ((0 : Int), Unit.unit))))))))))
theorem f26_eq (x : gi26.D) : f26 x = evF P (T41.orc _) Go.Proofs.Try.f26.ntmps fx26 c26 (planAt 64 []) gi26 x (fnK fx26 [go26]) := by kernel_rfl
theorem f26_ok : EntOk P 26 ⟨gi26, [go26], f26⟩ :=
  ent_ok (fn := Go.Proofs.Try.f26) (gi := gi26) (gos := [go26]) (f := f26) (c := c26) (fx := fx26) ⟨Go.Proofs.Try.func26, by kernel_rfl, rfl, by decide +kernel, rfl, rfl⟩ (by kernel_rfl) (Table.ok T41_ok _) hmix (planAt_ok (P := P) (n := Go.Proofs.Try.f26.ntmps) (fx := fx26) (c := c26) (d := 64) (l := []) trivial) f26_eq
noncomputable def T26 : Table := T41.add 26 [⟨gi26, [go26], f26⟩] []
theorem T26_ok : TableOk P T26 := Table.plus T41_ok (es := [⟨gi26, [go26], f26⟩]) ⟨f26_ok, trivial⟩ []

/-! ## 10: erasure/dec.Compare -/
noncomputable def c10 : Code := Func.code Go.Proofs.Try.f10
abbrev gi10 : Sg := ⟨[0, 1], [.agg [.lf (.int .i64), .lf (.int .i64)], .agg [.lf (.int .i64), .lf (.int .i64)]], []⟩
abbrev go10 : Sg := ⟨[4, 5], [.lf (.int .i64), .lf (.int .i64)], []⟩
def fx10 : List Bool := []
abbrev g10_1 : Sg := ⟨[2, 3, 6, 7], [.lf (.ptr 0 0), .lf (.ptr 1 0), .lf (.ptr 2 0), .lf (.ptr 3 0)], [some (.box true [.lf (.int .i64), .lf (.int .i64)]), some (.box true [.lf (.int .i64), .lf (.int .i64)]), some (.box true [.lf (.int .u64), .lf (.int .u64)]), some (.box true [.lf (.int .u64), .lf (.int .u64)])]⟩
abbrev o10_1 : Outs := [(.normal, ⟨[2, 3, 6, 7, 22], [.lf (.ptr 0 0), .lf (.ptr 1 0), .lf (.ptr 2 0), .lf (.ptr 3 0), .lf .bool], [some (.box true [.lf (.int .i64), .lf (.int .i64)]), some (.box true [.lf (.int .i64), .lf (.int .i64)]), some (.box true [.lf (.int .u64), .lf (.int .u64)]), some (.box true [.lf (.int .u64), .lf (.int .u64)])]⟩)]
noncomputable def b10_1 (x : g10_1.D) : Option (outD o10_1) :=
  (if ((decide (x.1 < (0 : Int))) = true) then (some (Sum.inl ((decide (x.2.2.1 < (0 : Int))), (x.1, (x.2.1, (x.2.2.1, (x.2.2.2.1, (x.2.2.2.2.1, (x.2.2.2.2.2.1, (x.2.2.2.2.2.2.1, (x.2.2.2.2.2.2.2.1, Unit.unit)))))))))))
   else (some (Sum.inl (false, (x.1, (x.2.1, (x.2.2.1, (x.2.2.2.1, (x.2.2.2.2.1, (x.2.2.2.2.2.1, (x.2.2.2.2.2.2.1, (x.2.2.2.2.2.2.2.1, Unit.unit))))))))))))
theorem b10_1_eq (x : g10_1.D) : b10_1 x = evF P (T26.orc _) Go.Proofs.Try.f10.ntmps fx10 (Code.at [true, true, false, false, true, true, false] c10) (planAt 64 []) g10_1 x (injK fx10 o10_1 some) := by kernel_rfl
theorem s10_1_ok : SubOk P Go.Proofs.Try.f10.ntmps fx10 (Code.at [true, true, false, false, true, true, false] c10) ⟨g10_1, o10_1, b10_1⟩ :=
  sub_ok (g := g10_1) (outs := o10_1) (f := b10_1) (Table.ok T26_ok _) hmix (planAt_ok (P := P) (n := Go.Proofs.Try.f10.ntmps) (fx := fx10) (c := (Code.at [true, true, false, false, true, true, false] c10)) (d := 64) (l := []) trivial) b10_1_eq
noncomputable def f10 (x : gi10.D) : Option go10.D :=
  (Option.bind (Go.Ev.Box.f24 (x.1, (x.2.1, (x.2.2.1, (x.2.2.2.1, Unit.unit))))) (fun y1 => (if ((y1.2.2.2.2.2.1 != (0 : Int)) = true) then (some ((0 : Int), (y1.2.2.2.2.2.1, Unit.unit)))
   else (Option.bind (Go.Ev.Box.b10_1 (x.1, (x.2.1, (x.2.2.1, (x.2.2.2.1, (y1.1, (y1.2.1, (y1.2.2.1, (y1.2.2.2.1, Unit.unit))))))))) (Sum.elim (fun y2 => (if (y2.1 = true) then (Option.bind (Go.Ev.Box.f25 (y2.2.2.2.2.2.2.2.1, (y2.2.2.2.2.2.2.2.2.1, (y2.2.2.2.2.2.1, (y2.2.2.2.2.2.2.1, Unit.unit))))) (fun y3 => (some (y3.1, ((0 : Int), Unit.unit)))))
   else (if ((Bool.not ((decide (y2.2.1 < (0 : Int))) == (decide (y2.2.2.2.1 < (0 : Int))))) = true) then (Option.bind (Go.Ev.Box.f26 (y2.2.1, (y2.2.2.2.1, Unit.unit))) (fun y3 => (some (y3.1, ((0 : Int), Unit.unit)))))
   else (Option.bind (Go.Ev.Box.f25 (y2.2.2.2.2.2.1, (y2.2.2.2.2.2.2.1, (y2.2.2.2.2.2.2.2.1, (y2.2.2.2.2.2.2.2.2.1, Unit.unit))))) (fun y3 => (some (y3.1, ((0 : Int), Unit.unit)))))))) Empty.elim)))))
theorem f10_eq (x : gi10.D) : f10 x = evF P (T26.orc _) Go.Proofs.Try.f10.ntmps fx10 c10 (planAt 64 [([true, true, false, false, true, true, false], ⟨g10_1, o10_1, b10_1⟩)]) gi10 x (fnK fx10 [go10]) := by kernel_rfl
theorem pf10 : AllSub P Go.Proofs.Try.f10.ntmps fx10 c10 [([true, true, false, false, true, true, false], ⟨g10_1, o10_1, b10_1⟩)] := And.intro s10_1_ok (trivial)
theorem qf10 : PlanOk P Go.Proofs.Try.f10.ntmps fx10 (planAt 64 [([true, true, false, false, true, true, false], ⟨g10_1, o10_1, b10_1⟩)]) c10 := planAt_ok pf10
theorem f10_ok : EntOk P 10 ⟨gi10, [go10], f10⟩ :=
  ent_ok (fn := Go.Proofs.Try.f10) (gi := gi10) (gos := [go10]) (f := f10) (c := c10) (fx := fx10) ⟨Go.Proofs.Try.func10, by kernel_rfl, rfl, by decide +kernel, rfl, rfl⟩ (by kernel_rfl) (Table.ok T26_ok _) hmix (qf10) f10_eq
noncomputable def T10 : Table := T26.add 10 [⟨gi10, [go10], f10⟩] []
theorem T10_ok : TableOk P T10 := Table.plus T26_ok (es := [⟨gi10, [go10], f10⟩]) ⟨f10_ok, trivial⟩ []

/-! ## 20: erasure/box.above -/
noncomputable def c20 : Code := Func.code Go.Proofs.Try.f20
abbrev gi20 : Sg := ⟨[0, 1], [.agg [.lf (.int .i64), .lf (.int .i64)], .agg [.lf (.int .i64), .lf (.int .i64)]], []⟩
abbrev go20 : Sg := ⟨[4], [.lf .bool], []⟩
def fx20 : List Bool := []
noncomputable def f20 (x : gi20.D) : Option go20.D :=
  (Option.bind (Go.Ev.Box.f10 (x.1, (x.2.1, (x.2.2.1, (x.2.2.2.1, Unit.unit))))) (fun y1 => (some ((decide (y1.1 > (0 : Int))), Unit.unit))))
theorem f20_eq (x : gi20.D) : f20 x = evF P (T10.orc _) Go.Proofs.Try.f20.ntmps fx20 c20 (planAt 64 []) gi20 x (fnK fx20 [go20]) := by kernel_rfl
theorem f20_ok : EntOk P 20 ⟨gi20, [go20], f20⟩ :=
  ent_ok (fn := Go.Proofs.Try.f20) (gi := gi20) (gos := [go20]) (f := f20) (c := c20) (fx := fx20) ⟨Go.Proofs.Try.func20, by kernel_rfl, rfl, by decide +kernel, rfl, rfl⟩ (by kernel_rfl) (Table.ok T10_ok _) hmix (planAt_ok (P := P) (n := Go.Proofs.Try.f20.ntmps) (fx := fx20) (c := c20) (d := 64) (l := []) trivial) f20_eq
noncomputable def T20 : Table := T10.add 20 [⟨gi20, [go20], f20⟩] []
theorem T20_ok : TableOk P T20 := Table.plus T10_ok (es := [⟨gi20, [go20], f20⟩]) ⟨f20_ok, trivial⟩ []

/-! ## 9: erasure/box.Check -/
noncomputable def c9 : Code := Func.code Go.Proofs.Try.f9
abbrev gi9 : Sg := ⟨[0], [.agg [.lf (.int .i64), .lf (.int .i64), .lf (.int .i64), .lf (.int .i64), .lf (.int .i64), .lf (.int .i64), .lf (.int .i64), .lf (.int .i64)]], []⟩
abbrev go9 : Sg := ⟨[2], [.lf (.int .i64)], []⟩
def fx9 : List Bool := []
abbrev g9_1 : Sg := ⟨[1, 6, 7], [.lf (.ptr 0 0), .agg [.many (.pair (.pair (.int .i64) (.int .i64)) (.pair (.int .i64) (.int .i64))) 4], .lf (.int .i64)], [some (.box true [.lf (.int .i64), .lf (.int .i64), .lf (.int .i64), .lf (.int .i64), .lf (.int .i64), .lf (.int .i64), .lf (.int .i64), .lf (.int .i64)])]⟩
abbrev o9_1 : Outs := [(.exit 0, ⟨[1], [.lf (.ptr 0 0)], [some (.box true [.lf (.int .i64), .lf (.int .i64), .lf (.int .i64), .lf (.int .i64), .lf (.int .i64), .lf (.int .i64), .lf (.int .i64), .lf (.int .i64)])]⟩), (.ret, ⟨[2], [.lf (.int .i64)], []⟩)]
noncomputable def b9_1 (x : g9_1.D) : Option (outD ((.normal, g9_1) :: o9_1)) :=
  (if ((decide (x.2.1 < (4 : Int))) = true) then (if ((0 : Int) ≤ x.2.1) then (if (x.2.1 < (4 : Int)) then (Option.bind (Go.Ev.Box.f23 ((List.getD x.1 (Int.toNat x.2.1) (((0 : Int), (0 : Int)), ((0 : Int), (0 : Int)))).1.1, ((List.getD x.1 (Int.toNat x.2.1) (((0 : Int), (0 : Int)), ((0 : Int), (0 : Int)))).1.2, Unit.unit))) (fun y1 => (if ((y1.1 != (0 : Int)) = true) then (some (Sum.inr (Sum.inr (Sum.inl ((1 : Int), Unit.unit)))))
   else (Option.bind (Go.Ev.Box.f23 ((List.getD x.1 (Int.toNat x.2.1) (((0 : Int), (0 : Int)), ((0 : Int), (0 : Int)))).2.1, ((List.getD x.1 (Int.toNat x.2.1) (((0 : Int), (0 : Int)), ((0 : Int), (0 : Int)))).2.2, Unit.unit))) (fun y2 => (if ((y2.1 != (0 : Int)) = true) then (some (Sum.inr (Sum.inr (Sum.inl ((1 : Int), Unit.unit)))))
   else (some (Sum.inl (x.1, ((Go.IntKind.wrap Go.IntKind.i64 (x.2.1 + (1 : Int))), (x.2.2.1, (x.2.2.2.1, (x.2.2.2.2.1, (x.2.2.2.2.2.1, (x.2.2.2.2.2.2.1, (x.2.2.2.2.2.2.2.1, (x.2.2.2.2.2.2.2.2.1, (x.2.2.2.2.2.2.2.2.2.1, Unit.unit))))))))))))))))))
   else none)
   else none)
   else (some (Sum.inr (Sum.inl (x.2.2.1, (x.2.2.2.1, (x.2.2.2.2.1, (x.2.2.2.2.2.1, (x.2.2.2.2.2.2.1, (x.2.2.2.2.2.2.2.1, (x.2.2.2.2.2.2.2.2.1, (x.2.2.2.2.2.2.2.2.2.1, Unit.unit))))))))))))
theorem b9_1_eq (x : g9_1.D) : b9_1 x = evF P (T20.orc _) Go.Proofs.Try.f9.ntmps fx9 (Code.at [true, false, true, false, false] c9) (planAt 64 []) g9_1 x (injK fx9 ((.normal, g9_1) :: o9_1) some) := by kernel_rfl
noncomputable def l9_1 : g9_1.D → Option (outD o9_1) := loopN g9_1 o9_1 b9_1 18446744073709551616
theorem at9_1 : Code.at [true, false, true, false] c9 = .loop (Code.at [true, false, true, false, false] c9) := by kernel_rfl
theorem s9_1_ok : SubOk P Go.Proofs.Try.f9.ntmps fx9 (Code.at [true, false, true, false] c9) ⟨g9_1, o9_1, l9_1⟩ := by
  rw [at9_1]
  exact loop_ok (sub_ok (g := g9_1) (outs := ((.normal, g9_1) :: o9_1)) (f := b9_1) (Table.ok T20_ok _) hmix (planAt_ok (P := P) (n := Go.Proofs.Try.f9.ntmps) (fx := fx9) (c := (Code.at [true, false, true, false, false] c9)) (d := 64) (l := []) trivial) b9_1_eq) rfl _
noncomputable def f9 (x : gi9.D) : Option go9.D :=
  (Option.bind (Go.Ev.Box.f22 (x.1, (x.2.1, (x.2.2.1, (x.2.2.2.1, (x.2.2.2.2.1, (x.2.2.2.2.2.1, (x.2.2.2.2.2.2.1, (x.2.2.2.2.2.2.2.1, Unit.unit))))))))) (fun y1 => (Option.bind (Go.Ev.Box.l9_1 (y1.1, ((0 : Int), (x.1, (x.2.1, (x.2.2.1, (x.2.2.2.1, (x.2.2.2.2.1, (x.2.2.2.2.2.1, (x.2.2.2.2.2.2.1, (x.2.2.2.2.2.2.2.1, Unit.unit))))))))))) (Sum.elim (fun y2 => (Option.bind (Go.Ev.Box.f20 (y2.1, (y2.2.1, (y2.2.2.2.2.1, (y2.2.2.2.2.2.1, Unit.unit))))) (fun y3 => (if (y3.1 = true) then (some ((1 : Int), Unit.unit))
   else (Option.bind (Go.Ev.Box.f20 (y2.2.2.1, (y2.2.2.2.1, (y2.2.2.2.2.2.2.1, (y2.2.2.2.2.2.2.2.1, Unit.unit))))) (fun y4 => (if (y4.1 = true) then (some ((1 : Int), Unit.unit))
   else (some ((0 : Int), Unit.unit))))))))) (Sum.elim (fun y2 => (some (y2.1, Unit.unit))) Empty.elim)))))
theorem f9_eq (x : gi9.D) : f9 x = evF P (T20.orc _) Go.Proofs.Try.f9.ntmps fx9 c9 (planAt 64 [([true, false, true, false], ⟨g9_1, o9_1, l9_1⟩)]) gi9 x (fnK fx9 [go9]) := by kernel_rfl
theorem pf9 : AllSub P Go.Proofs.Try.f9.ntmps fx9 c9 [([true, false, true, false], ⟨g9_1, o9_1, l9_1⟩)] := And.intro s9_1_ok (trivial)
theorem qf9 : PlanOk P Go.Proofs.Try.f9.ntmps fx9 (planAt 64 [([true, false, true, false], ⟨g9_1, o9_1, l9_1⟩)]) c9 := planAt_ok pf9
theorem f9_ok : EntOk P 9 ⟨gi9, [go9], f9⟩ :=
  ent_ok (fn := Go.Proofs.Try.f9) (gi := gi9) (gos := [go9]) (f := f9) (c := c9) (fx := fx9) ⟨Go.Proofs.Try.func9, by kernel_rfl, rfl, by decide +kernel, rfl, rfl⟩ (by kernel_rfl) (Table.ok T20_ok _) hmix (qf9) f9_eq
noncomputable def T9 : Table := T20.add 9 [⟨gi9, [go9], f9⟩] []
theorem T9_ok : TableOk P T9 := Table.plus T20_ok (es := [⟨gi9, [go9], f9⟩]) ⟨f9_ok, trivial⟩ []

/-! ## 7: erasure/box.Meets -/
noncomputable def c7 : Code := Func.code Go.Proofs.Try.f7
abbrev gi7 : Sg := ⟨[0, 1], [.agg [.lf (.int .i64), .lf (.int .i64), .lf (.int .i64), .lf (.int .i64), .lf (.int .i64), .lf (.int .i64), .lf (.int .i64), .lf (.int .i64)], .agg [.lf (.int .i64), .lf (.int .i64), .lf (.int .i64), .lf (.int .i64), .lf (.int .i64), .lf (.int .i64), .lf (.int .i64), .lf (.int .i64)]], []⟩
abbrev go7 : Sg := ⟨[4, 5], [.lf .bool, .lf (.int .i64)], []⟩
def fx7 : List Bool := []
noncomputable def f7 (x : gi7.D) : Option go7.D :=
  (Option.bind (Go.Ev.Box.f9 (x.1, (x.2.1, (x.2.2.1, (x.2.2.2.1, (x.2.2.2.2.1, (x.2.2.2.2.2.1, (x.2.2.2.2.2.2.1, (x.2.2.2.2.2.2.2.1, Unit.unit))))))))) (fun y1 => (if ((y1.1 != (0 : Int)) = true) then (some (false, ((1 : Int), Unit.unit)))
   else (Option.bind (Go.Ev.Box.f9 (x.2.2.2.2.2.2.2.2.1, (x.2.2.2.2.2.2.2.2.2.1, (x.2.2.2.2.2.2.2.2.2.2.1, (x.2.2.2.2.2.2.2.2.2.2.2.1, (x.2.2.2.2.2.2.2.2.2.2.2.2.1, (x.2.2.2.2.2.2.2.2.2.2.2.2.2.1, (x.2.2.2.2.2.2.2.2.2.2.2.2.2.2.1, (x.2.2.2.2.2.2.2.2.2.2.2.2.2.2.2.1, Unit.unit))))))))) (fun y2 => (if ((y2.1 != (0 : Int)) = true) then (some (false, ((1 : Int), Unit.unit)))
   else (Option.bind (Go.Ev.Box.f20 (x.1, (x.2.1, (x.2.2.2.2.2.2.2.2.2.2.2.2.1, (x.2.2.2.2.2.2.2.2.2.2.2.2.2.1, Unit.unit))))) (fun y3 => (if (y3.1 = true) then (some (false, ((0 : Int), Unit.unit)))
   else (Option.bind (Go.Ev.Box.f20 (x.2.2.2.2.2.2.2.2.1, (x.2.2.2.2.2.2.2.2.2.1, (x.2.2.2.2.1, (x.2.2.2.2.2.1, Unit.unit))))) (fun y4 => (if (y4.1 = true) then (some (false, ((0 : Int), Unit.unit)))
   else (Option.bind (Go.Ev.Box.f20 (x.2.2.1, (x.2.2.2.1, (x.2.2.2.2.2.2.2.2.2.2.2.2.2.2.1, (x.2.2.2.2.2.2.2.2.2.2.2.2.2.2.2.1, Unit.unit))))) (fun y5 => (if (y5.1 = true) then (some (false, ((0 : Int), Unit.unit)))
   else (Option.bind (Go.Ev.Box.f20 (x.2.2.2.2.2.2.2.2.2.2.1, (x.2.2.2.2.2.2.2.2.2.2.2.1, (x.2.2.2.2.2.2.1, (x.2.2.2.2.2.2.2.1, Unit.unit))))) (fun y6 => (some ((Bool.not y6.1), ((0 : Int), Unit.unit))))))))))))))))))))
theorem f7_eq (x : gi7.D) : f7 x = evF P (T9.orc _) Go.Proofs.Try.f7.ntmps fx7 c7 (planAt 64 []) gi7 x (fnK fx7 [go7]) := by kernel_rfl
theorem f7_ok : EntOk P 7 ⟨gi7, [go7], f7⟩ :=
  ent_ok (fn := Go.Proofs.Try.f7) (gi := gi7) (gos := [go7]) (f := f7) (c := c7) (fx := fx7) ⟨Go.Proofs.Try.func7, by kernel_rfl, rfl, by decide +kernel, rfl, rfl⟩ (by kernel_rfl) (Table.ok T9_ok _) hmix (planAt_ok (P := P) (n := Go.Proofs.Try.f7.ntmps) (fx := fx7) (c := c7) (d := 64) (l := []) trivial) f7_eq
noncomputable def T7 : Table := T9.add 7 [⟨gi7, [go7], f7⟩] []
theorem T7_ok : TableOk P T7 := Table.plus T9_ok (es := [⟨gi7, [go7], f7⟩]) ⟨f7_ok, trivial⟩ []

/-! ## 21: erasure/erasurelaw03.whole -/
noncomputable def c21 : Code := Func.code Go.Proofs.Try.f21
abbrev gi21 : Sg := ⟨[0, 1, 2, 3], [.lf (.int .i64), .lf (.int .i64), .lf (.int .i64), .lf (.int .i64)], []⟩
abbrev go21 : Sg := ⟨[0], [.agg [.lf (.int .i64), .lf (.int .i64), .lf (.int .i64), .lf (.int .i64), .lf (.int .i64), .lf (.int .i64), .lf (.int .i64), .lf (.int .i64)]], []⟩
def fx21 : List Bool := []
noncomputable def f21 (x : gi21.D) : Option go21.D :=
  (some (x.1, ((0 : Int), (x.2.1, ((0 : Int), (x.2.2.1, ((0 : Int), (x.2.2.2.1, ((0 : Int), Unit.unit)))))))))
theorem f21_eq (x : gi21.D) : f21 x = evF P (T7.orc _) Go.Proofs.Try.f21.ntmps fx21 c21 (planAt 64 []) gi21 x (fnKR P Go.Proofs.Try.f21 fx21 [go21]) := by kernel_rfl
theorem f21_ok : EntOk P 21 ⟨gi21, [go21], f21⟩ :=
  ent_okR (fn := Go.Proofs.Try.f21) (gi := gi21) (gos := [go21]) (f := f21) (c := c21) (fx := fx21) ⟨Go.Proofs.Try.func21, by kernel_rfl, rfl, by decide +kernel, rfl, rfl⟩ (Table.ok T7_ok _) hmix (planAt_ok (P := P) (n := Go.Proofs.Try.f21.ntmps) (fx := fx21) (c := c21) (d := 64) (l := []) trivial) f21_eq
noncomputable def T21 : Table := T7.add 21 [⟨gi21, [go21], f21⟩] []
theorem T21_ok : TableOk P T21 := Table.plus T7_ok (es := [⟨gi21, [go21], f21⟩]) ⟨f21_ok, trivial⟩ []

/-! ## 36: erasure/matrix.right -/
noncomputable def c36 : Code := Func.code Go.Proofs.Try.f36
abbrev gi36 : Sg := ⟨[0], [.lf (.sl (.pair (.int .i64) (.int .i64)))], []⟩
abbrev go36 : Sg := ⟨[2], [.lf .bool], []⟩
def fx36 : List Bool := []
abbrev g36_1 : Sg := ⟨[5, 6, 7], [.lf (.sl (.pair (.int .i64) (.int .i64))), .lf (.int .i64), .lf (.int .i64)], []⟩
abbrev o36_1 : Outs := [(.exit 0, ⟨[], [], []⟩), (.ret, ⟨[2], [.lf .bool], []⟩)]
noncomputable def b36_1 (x : g36_1.D) : Option (outD ((.normal, g36_1) :: o36_1)) :=
  (if ((decide (x.2.2.1 < x.2.1)) = true) then (if ((0 : Int) ≤ x.2.2.1) then (if (x.2.2.1 < (((List.length x.1) : Nat) : Int)) then (Option.bind (Go.Ev.Box.f23 ((List.getD x.1 (Int.toNat x.2.2.1) ((0 : Int), (0 : Int))).1, ((List.getD x.1 (Int.toNat x.2.2.1) ((0 : Int), (0 : Int))).2, Unit.unit))) (fun y1 => (if ((y1.1 != (0 : Int)) = true) then (some (Sum.inr (Sum.inr (Sum.inl (false, Unit.unit)))))
   else (some (Sum.inl (x.1, (x.2.1, ((Go.IntKind.wrap Go.IntKind.i64 (x.2.2.1 + (1 : Int))), Unit.unit))))))))
   else none)
   else none)
   else (some (Sum.inr (Sum.inl Unit.unit))))
theorem b36_1_eq (x : g36_1.D) : b36_1 x = evF P (T21.orc _) Go.Proofs.Try.f36.ntmps fx36 (Code.at [true, false, true, false, false] c36) (planAt 64 []) g36_1 x (injK fx36 ((.normal, g36_1) :: o36_1) some) := by kernel_rfl
noncomputable def l36_1 : g36_1.D → Option (outD o36_1) := loopN g36_1 o36_1 b36_1 18446744073709551616
theorem at36_1 : Code.at [true, false, true, false] c36 = .loop (Code.at [true, false, true, false, false] c36) := by kernel_rfl
theorem s36_1_ok : SubOk P Go.Proofs.Try.f36.ntmps fx36 (Code.at [true, false, true, false] c36) ⟨g36_1, o36_1, l36_1⟩ := by
  rw [at36_1]
  exact loop_ok (sub_ok (g := g36_1) (outs := ((.normal, g36_1) :: o36_1)) (f := b36_1) (Table.ok T21_ok _) hmix (planAt_ok (P := P) (n := Go.Proofs.Try.f36.ntmps) (fx := fx36) (c := (Code.at [true, false, true, false, false] c36)) (d := 64) (l := []) trivial) b36_1_eq) rfl _
noncomputable def f36 (x : gi36.D) : Option go36.D :=
  (Option.bind (Go.Ev.Box.l36_1 (x.1, ((((List.length x.1) : Nat) : Int), ((0 : Int), Unit.unit)))) (Sum.elim (fun _ => (some (true, Unit.unit))) (Sum.elim (fun y1 => (some (y1.1, Unit.unit))) Empty.elim)))
theorem f36_eq (x : gi36.D) : f36 x = evF P (T21.orc _) Go.Proofs.Try.f36.ntmps fx36 c36 (planAt 64 [([true, false, true, false], ⟨g36_1, o36_1, l36_1⟩)]) gi36 x (fnK fx36 [go36]) := by kernel_rfl
theorem pf36 : AllSub P Go.Proofs.Try.f36.ntmps fx36 c36 [([true, false, true, false], ⟨g36_1, o36_1, l36_1⟩)] := And.intro s36_1_ok (trivial)
theorem qf36 : PlanOk P Go.Proofs.Try.f36.ntmps fx36 (planAt 64 [([true, false, true, false], ⟨g36_1, o36_1, l36_1⟩)]) c36 := planAt_ok pf36
theorem f36_ok : EntOk P 36 ⟨gi36, [go36], f36⟩ :=
  ent_ok (fn := Go.Proofs.Try.f36) (gi := gi36) (gos := [go36]) (f := f36) (c := c36) (fx := fx36) ⟨Go.Proofs.Try.func36, by kernel_rfl, rfl, by decide +kernel, rfl, rfl⟩ (by kernel_rfl) (Table.ok T21_ok _) hmix (qf36) f36_eq
noncomputable def T36 : Table := T21.add 36 [⟨gi36, [go36], f36⟩] []
theorem T36_ok : TableOk P T36 := Table.plus T21_ok (es := [⟨gi36, [go36], f36⟩]) ⟨f36_ok, trivial⟩ []

/-! ## 33: erasure/matrix.Check -/
noncomputable def c33 : Code := Func.code Go.Proofs.Try.f33
abbrev gi33 : Sg := ⟨[0], [.agg [.lf (.int .i64), .lf (.int .i64), .lf (.int .i64), .lf (.int .i64), .lf (.int .i64), .lf (.int .i64), .lf (.int .i64), .lf (.int .i64), .lf (.int .i64), .lf (.int .i64), .lf (.int .i64), .lf (.int .i64)]], []⟩
abbrev go33 : Sg := ⟨[2], [.lf (.int .i64)], []⟩
def fx33 : List Bool := []
noncomputable def f33 (x : gi33.D) : Option go33.D :=
  (Option.bind (Go.Ev.Box.f36 ((List.take (6 : Nat) (List.drop (0 : Nat) (List.set (List.set (List.set (List.set (List.set (List.set (List.replicate (6 : Nat) ((0 : Int), (0 : Int))) (0 : Nat) (x.1, x.2.1)) (1 : Nat) (x.2.2.1, x.2.2.2.1)) (2 : Nat) (x.2.2.2.2.1, x.2.2.2.2.2.1)) (3 : Nat) (x.2.2.2.2.2.2.1, x.2.2.2.2.2.2.2.1)) (4 : Nat) (x.2.2.2.2.2.2.2.2.1, x.2.2.2.2.2.2.2.2.2.1)) (5 : Nat) (x.2.2.2.2.2.2.2.2.2.2.1, x.2.2.2.2.2.2.2.2.2.2.2.1)))), Unit.unit)) (fun y1 => (if (y1.1 = true) then (some ((0 : Int), Unit.unit))
   else (some ((1 : Int), Unit.unit)))))
theorem f33_eq (x : gi33.D) : f33 x = evF P (T36.orc _) Go.Proofs.Try.f33.ntmps fx33 c33 (planAt 64 []) gi33 x (fnK fx33 [go33]) := by kernel_rfl
theorem f33_ok : EntOk P 33 ⟨gi33, [go33], f33⟩ :=
  ent_ok (fn := Go.Proofs.Try.f33) (gi := gi33) (gos := [go33]) (f := f33) (c := c33) (fx := fx33) ⟨Go.Proofs.Try.func33, by kernel_rfl, rfl, by decide +kernel, rfl, rfl⟩ (by kernel_rfl) (Table.ok T36_ok _) hmix (planAt_ok (P := P) (n := Go.Proofs.Try.f33.ntmps) (fx := fx33) (c := c33) (d := 64) (l := []) trivial) f33_eq
noncomputable def T33 : Table := T36.add 33 [⟨gi33, [go33], f33⟩] []
theorem T33_ok : TableOk P T33 := Table.plus T36_ok (es := [⟨gi33, [go33], f33⟩]) ⟨f33_ok, trivial⟩ []

/-! ## 37: erasure/matrix.reckoner -/
noncomputable def c37 : Code := Func.code Go.Proofs.Try.f37
abbrev gi37 : Sg := ⟨[], [], []⟩
abbrev go37 : Sg := ⟨[0, 1], [.lf (.fnc 45 [(.ptr 0 0)]), .lf (.fnc 48 [(.ptr 1 0)])], [some (.box true [.lf (.fnc 44 [(.ptr 1 0)])]), some (.box true [.lf (.int .i64)])]⟩
def fx37 : List Bool := []
noncomputable def f37 (_ : gi37.D) : Option go37.D :=
  (some ((0 : Int), Unit.unit))
theorem f37_eq (x : gi37.D) : f37 x = evF P (T33.orc _) Go.Proofs.Try.f37.ntmps fx37 c37 (planAt 64 []) gi37 x (fnK fx37 [go37]) := by kernel_rfl
theorem f37_ok : EntOk P 37 ⟨gi37, [go37], f37⟩ :=
  ent_ok (fn := Go.Proofs.Try.f37) (gi := gi37) (gos := [go37]) (f := f37) (c := c37) (fx := fx37) ⟨Go.Proofs.Try.func37, by kernel_rfl, rfl, by decide +kernel, rfl, rfl⟩ (by kernel_rfl) (Table.ok T33_ok _) hmix (planAt_ok (P := P) (n := Go.Proofs.Try.f37.ntmps) (fx := fx37) (c := c37) (d := 64) (l := []) trivial) f37_eq
noncomputable def T37 : Table := T33.add 37 [⟨gi37, [go37], f37⟩] []
theorem T37_ok : TableOk P T37 := Table.plus T33_ok (es := [⟨gi37, [go37], f37⟩]) ⟨f37_ok, trivial⟩ []

/-! ## 66: math/bits.Len64 -/
noncomputable def c66 : Code := Func.code Go.Proofs.Try.f66
abbrev gi66 : Sg := ⟨[0], [.lf (.int .u64)], []⟩
abbrev go66 : Sg := ⟨[2], [.lf (.int .i64)], []⟩
def fx66 : List Bool := []
noncomputable def f66 (x : gi66.D) : Option go66.D :=
  (if ((decide (x.1 ≥ (4294967296 : Int))) = true) then (if ((decide ((Int.fdiv x.1 (4294967296 : Int)) ≥ (65536 : Int))) = true) then (if ((decide ((Int.fdiv (Int.fdiv x.1 (4294967296 : Int)) (65536 : Int)) ≥ (256 : Int))) = true) then (if ((0 : Int) ≤ (Go.IntKind.wrap Go.IntKind.u8 (Int.fdiv (Int.fdiv (Int.fdiv x.1 (4294967296 : Int)) (65536 : Int)) (256 : Int)))) then (if ((Go.IntKind.wrap Go.IntKind.u8 (Int.fdiv (Int.fdiv (Int.fdiv x.1 (4294967296 : Int)) (65536 : Int)) (256 : Int))) < (256 : Int)) then (some ((Go.IntKind.wrap Go.IntKind.i64 ((56 : Int) + (Go.IntKind.wrap Go.IntKind.i64 (((UInt8.toNat (Array.getD (ByteArray.data (ByteArray.mk #[0, 1, 2, 2, 3, 3, 3, 3, 4, 4, 4, 4, 4, 4, 4, 4, 5, 5, 5, 5, 5, 5, 5, 5, 5, 5, 5, 5, 5, 5, 5, 5, 6, 6, 6, 6, 6, 6, 6, 6, 6, 6, 6, 6, 6, 6, 6, 6, 6, 6, 6, 6, 6, 6, 6, 6, 6, 6, 6, 6, 6, 6, 6, 6, 7, 7, 7, 7, 7, 7, 7, 7, 7, 7, 7, 7, 7, 7, 7, 7, 7, 7, 7, 7, 7, 7, 7, 7, 7, 7, 7, 7, 7, 7, 7, 7, 7, 7, 7, 7, 7, 7, 7, 7, 7, 7, 7, 7, 7, 7, 7, 7, 7, 7, 7, 7, 7, 7, 7, 7, 7, 7, 7, 7, 7, 7, 7, 7, 8, 8, 8, 8, 8, 8, 8, 8, 8, 8, 8, 8, 8, 8, 8, 8, 8, 8, 8, 8, 8, 8, 8, 8, 8, 8, 8, 8, 8, 8, 8, 8, 8, 8, 8, 8, 8, 8, 8, 8, 8, 8, 8, 8, 8, 8, 8, 8, 8, 8, 8, 8, 8, 8, 8, 8, 8, 8, 8, 8, 8, 8, 8, 8, 8, 8, 8, 8, 8, 8, 8, 8, 8, 8, 8, 8, 8, 8, 8, 8, 8, 8, 8, 8, 8, 8, 8, 8, 8, 8, 8, 8, 8, 8, 8, 8, 8, 8, 8, 8, 8, 8, 8, 8, 8, 8, 8, 8, 8, 8, 8, 8, 8, 8, 8, 8, 8, 8, 8, 8, 8, 8, 8, 8, 8, 8, 8, 8])) (Int.toNat (Go.IntKind.wrap Go.IntKind.u8 (Int.fdiv (Int.fdiv (Int.fdiv x.1 (4294967296 : Int)) (65536 : Int)) (256 : Int)))) (0 : UInt8))) : Nat) : Int)))), Unit.unit))
   else none)
   else none)
   else (if ((0 : Int) ≤ (Go.IntKind.wrap Go.IntKind.u8 (Int.fdiv (Int.fdiv x.1 (4294967296 : Int)) (65536 : Int)))) then (if ((Go.IntKind.wrap Go.IntKind.u8 (Int.fdiv (Int.fdiv x.1 (4294967296 : Int)) (65536 : Int))) < (256 : Int)) then (some ((Go.IntKind.wrap Go.IntKind.i64 ((48 : Int) + (Go.IntKind.wrap Go.IntKind.i64 (((UInt8.toNat (Array.getD (ByteArray.data (ByteArray.mk #[0, 1, 2, 2, 3, 3, 3, 3, 4, 4, 4, 4, 4, 4, 4, 4, 5, 5, 5, 5, 5, 5, 5, 5, 5, 5, 5, 5, 5, 5, 5, 5, 6, 6, 6, 6, 6, 6, 6, 6, 6, 6, 6, 6, 6, 6, 6, 6, 6, 6, 6, 6, 6, 6, 6, 6, 6, 6, 6, 6, 6, 6, 6, 6, 7, 7, 7, 7, 7, 7, 7, 7, 7, 7, 7, 7, 7, 7, 7, 7, 7, 7, 7, 7, 7, 7, 7, 7, 7, 7, 7, 7, 7, 7, 7, 7, 7, 7, 7, 7, 7, 7, 7, 7, 7, 7, 7, 7, 7, 7, 7, 7, 7, 7, 7, 7, 7, 7, 7, 7, 7, 7, 7, 7, 7, 7, 7, 7, 8, 8, 8, 8, 8, 8, 8, 8, 8, 8, 8, 8, 8, 8, 8, 8, 8, 8, 8, 8, 8, 8, 8, 8, 8, 8, 8, 8, 8, 8, 8, 8, 8, 8, 8, 8, 8, 8, 8, 8, 8, 8, 8, 8, 8, 8, 8, 8, 8, 8, 8, 8, 8, 8, 8, 8, 8, 8, 8, 8, 8, 8, 8, 8, 8, 8, 8, 8, 8, 8, 8, 8, 8, 8, 8, 8, 8, 8, 8, 8, 8, 8, 8, 8, 8, 8, 8, 8, 8, 8, 8, 8, 8, 8, 8, 8, 8, 8, 8, 8, 8, 8, 8, 8, 8, 8, 8, 8, 8, 8, 8, 8, 8, 8, 8, 8, 8, 8, 8, 8, 8, 8, 8, 8, 8, 8, 8, 8])) (Int.toNat (Go.IntKind.wrap Go.IntKind.u8 (Int.fdiv (Int.fdiv x.1 (4294967296 : Int)) (65536 : Int)))) (0 : UInt8))) : Nat) : Int)))), Unit.unit))
   else none)
   else none))
   else (if ((decide ((Int.fdiv x.1 (4294967296 : Int)) ≥ (256 : Int))) = true) then (if ((0 : Int) ≤ (Go.IntKind.wrap Go.IntKind.u8 (Int.fdiv (Int.fdiv x.1 (4294967296 : Int)) (256 : Int)))) then (if ((Go.IntKind.wrap Go.IntKind.u8 (Int.fdiv (Int.fdiv x.1 (4294967296 : Int)) (256 : Int))) < (256 : Int)) then (some ((Go.IntKind.wrap Go.IntKind.i64 ((40 : Int) + (Go.IntKind.wrap Go.IntKind.i64 (((UInt8.toNat (Array.getD (ByteArray.data (ByteArray.mk #[0, 1, 2, 2, 3, 3, 3, 3, 4, 4, 4, 4, 4, 4, 4, 4, 5, 5, 5, 5, 5, 5, 5, 5, 5, 5, 5, 5, 5, 5, 5, 5, 6, 6, 6, 6, 6, 6, 6, 6, 6, 6, 6, 6, 6, 6, 6, 6, 6, 6, 6, 6, 6, 6, 6, 6, 6, 6, 6, 6, 6, 6, 6, 6, 7, 7, 7, 7, 7, 7, 7, 7, 7, 7, 7, 7, 7, 7, 7, 7, 7, 7, 7, 7, 7, 7, 7, 7, 7, 7, 7, 7, 7, 7, 7, 7, 7, 7, 7, 7, 7, 7, 7, 7, 7, 7, 7, 7, 7, 7, 7, 7, 7, 7, 7, 7, 7, 7, 7, 7, 7, 7, 7, 7, 7, 7, 7, 7, 8, 8, 8, 8, 8, 8, 8, 8, 8, 8, 8, 8, 8, 8, 8, 8, 8, 8, 8, 8, 8, 8, 8, 8, 8, 8, 8, 8, 8, 8, 8, 8, 8, 8, 8, 8, 8, 8, 8, 8, 8, 8, 8, 8, 8, 8, 8, 8, 8, 8, 8, 8, 8, 8, 8, 8, 8, 8, 8, 8, 8, 8, 8, 8, 8, 8, 8, 8, 8, 8, 8, 8, 8, 8, 8, 8, 8, 8, 8, 8, 8, 8, 8, 8, 8, 8, 8, 8, 8, 8, 8, 8, 8, 8, 8, 8, 8, 8, 8, 8, 8, 8, 8, 8, 8, 8, 8, 8, 8, 8, 8, 8, 8, 8, 8, 8, 8, 8, 8, 8, 8, 8, 8, 8, 8, 8, 8, 8])) (Int.toNat (Go.IntKind.wrap Go.IntKind.u8 (Int.fdiv (Int.fdiv x.1 (4294967296 : Int)) (256 : Int)))) (0 : UInt8))) : Nat) : Int)))), Unit.unit))
   else none)
   else none)
   else (if ((0 : Int) ≤ (Go.IntKind.wrap Go.IntKind.u8 (Int.fdiv x.1 (4294967296 : Int)))) then (if ((Go.IntKind.wrap Go.IntKind.u8 (Int.fdiv x.1 (4294967296 : Int))) < (256 : Int)) then (some ((Go.IntKind.wrap Go.IntKind.i64 ((32 : Int) + (Go.IntKind.wrap Go.IntKind.i64 (((UInt8.toNat (Array.getD (ByteArray.data (ByteArray.mk #[0, 1, 2, 2, 3, 3, 3, 3, 4, 4, 4, 4, 4, 4, 4, 4, 5, 5, 5, 5, 5, 5, 5, 5, 5, 5, 5, 5, 5, 5, 5, 5, 6, 6, 6, 6, 6, 6, 6, 6, 6, 6, 6, 6, 6, 6, 6, 6, 6, 6, 6, 6, 6, 6, 6, 6, 6, 6, 6, 6, 6, 6, 6, 6, 7, 7, 7, 7, 7, 7, 7, 7, 7, 7, 7, 7, 7, 7, 7, 7, 7, 7, 7, 7, 7, 7, 7, 7, 7, 7, 7, 7, 7, 7, 7, 7, 7, 7, 7, 7, 7, 7, 7, 7, 7, 7, 7, 7, 7, 7, 7, 7, 7, 7, 7, 7, 7, 7, 7, 7, 7, 7, 7, 7, 7, 7, 7, 7, 8, 8, 8, 8, 8, 8, 8, 8, 8, 8, 8, 8, 8, 8, 8, 8, 8, 8, 8, 8, 8, 8, 8, 8, 8, 8, 8, 8, 8, 8, 8, 8, 8, 8, 8, 8, 8, 8, 8, 8, 8, 8, 8, 8, 8, 8, 8, 8, 8, 8, 8, 8, 8, 8, 8, 8, 8, 8, 8, 8, 8, 8, 8, 8, 8, 8, 8, 8, 8, 8, 8, 8, 8, 8, 8, 8, 8, 8, 8, 8, 8, 8, 8, 8, 8, 8, 8, 8, 8, 8, 8, 8, 8, 8, 8, 8, 8, 8, 8, 8, 8, 8, 8, 8, 8, 8, 8, 8, 8, 8, 8, 8, 8, 8, 8, 8, 8, 8, 8, 8, 8, 8, 8, 8, 8, 8, 8, 8])) (Int.toNat (Go.IntKind.wrap Go.IntKind.u8 (Int.fdiv x.1 (4294967296 : Int)))) (0 : UInt8))) : Nat) : Int)))), Unit.unit))
   else none)
   else none)))
   else (if ((decide (x.1 ≥ (65536 : Int))) = true) then (if ((decide ((Int.fdiv x.1 (65536 : Int)) ≥ (256 : Int))) = true) then (if ((0 : Int) ≤ (Go.IntKind.wrap Go.IntKind.u8 (Int.fdiv (Int.fdiv x.1 (65536 : Int)) (256 : Int)))) then (if ((Go.IntKind.wrap Go.IntKind.u8 (Int.fdiv (Int.fdiv x.1 (65536 : Int)) (256 : Int))) < (256 : Int)) then (some ((Go.IntKind.wrap Go.IntKind.i64 ((24 : Int) + (Go.IntKind.wrap Go.IntKind.i64 (((UInt8.toNat (Array.getD (ByteArray.data (ByteArray.mk #[0, 1, 2, 2, 3, 3, 3, 3, 4, 4, 4, 4, 4, 4, 4, 4, 5, 5, 5, 5, 5, 5, 5, 5, 5, 5, 5, 5, 5, 5, 5, 5, 6, 6, 6, 6, 6, 6, 6, 6, 6, 6, 6, 6, 6, 6, 6, 6, 6, 6, 6, 6, 6, 6, 6, 6, 6, 6, 6, 6, 6, 6, 6, 6, 7, 7, 7, 7, 7, 7, 7, 7, 7, 7, 7, 7, 7, 7, 7, 7, 7, 7, 7, 7, 7, 7, 7, 7, 7, 7, 7, 7, 7, 7, 7, 7, 7, 7, 7, 7, 7, 7, 7, 7, 7, 7, 7, 7, 7, 7, 7, 7, 7, 7, 7, 7, 7, 7, 7, 7, 7, 7, 7, 7, 7, 7, 7, 7, 8, 8, 8, 8, 8, 8, 8, 8, 8, 8, 8, 8, 8, 8, 8, 8, 8, 8, 8, 8, 8, 8, 8, 8, 8, 8, 8, 8, 8, 8, 8, 8, 8, 8, 8, 8, 8, 8, 8, 8, 8, 8, 8, 8, 8, 8, 8, 8, 8, 8, 8, 8, 8, 8, 8, 8, 8, 8, 8, 8, 8, 8, 8, 8, 8, 8, 8, 8, 8, 8, 8, 8, 8, 8, 8, 8, 8, 8, 8, 8, 8, 8, 8, 8, 8, 8, 8, 8, 8, 8, 8, 8, 8, 8, 8, 8, 8, 8, 8, 8, 8, 8, 8, 8, 8, 8, 8, 8, 8, 8, 8, 8, 8, 8, 8, 8, 8, 8, 8, 8, 8, 8, 8, 8, 8, 8, 8, 8])) (Int.toNat (Go.IntKind.wrap Go.IntKind.u8 (Int.fdiv (Int.fdiv x.1 (65536 : Int)) (256 : Int)))) (0 : UInt8))) : Nat) : Int)))), Unit.unit))
   else none)
   else none)
   else (if ((0 : Int) ≤ (Go.IntKind.wrap Go.IntKind.u8 (Int.fdiv x.1 (65536 : Int)))) then (if ((Go.IntKind.wrap Go.IntKind.u8 (Int.fdiv x.1 (65536 : Int))) < (256 : Int)) then (some ((Go.IntKind.wrap Go.IntKind.i64 ((16 : Int) + (Go.IntKind.wrap Go.IntKind.i64 (((UInt8.toNat (Array.getD (ByteArray.data (ByteArray.mk #[0, 1, 2, 2, 3, 3, 3, 3, 4, 4, 4, 4, 4, 4, 4, 4, 5, 5, 5, 5, 5, 5, 5, 5, 5, 5, 5, 5, 5, 5, 5, 5, 6, 6, 6, 6, 6, 6, 6, 6, 6, 6, 6, 6, 6, 6, 6, 6, 6, 6, 6, 6, 6, 6, 6, 6, 6, 6, 6, 6, 6, 6, 6, 6, 7, 7, 7, 7, 7, 7, 7, 7, 7, 7, 7, 7, 7, 7, 7, 7, 7, 7, 7, 7, 7, 7, 7, 7, 7, 7, 7, 7, 7, 7, 7, 7, 7, 7, 7, 7, 7, 7, 7, 7, 7, 7, 7, 7, 7, 7, 7, 7, 7, 7, 7, 7, 7, 7, 7, 7, 7, 7, 7, 7, 7, 7, 7, 7, 8, 8, 8, 8, 8, 8, 8, 8, 8, 8, 8, 8, 8, 8, 8, 8, 8, 8, 8, 8, 8, 8, 8, 8, 8, 8, 8, 8, 8, 8, 8, 8, 8, 8, 8, 8, 8, 8, 8, 8, 8, 8, 8, 8, 8, 8, 8, 8, 8, 8, 8, 8, 8, 8, 8, 8, 8, 8, 8, 8, 8, 8, 8, 8, 8, 8, 8, 8, 8, 8, 8, 8, 8, 8, 8, 8, 8, 8, 8, 8, 8, 8, 8, 8, 8, 8, 8, 8, 8, 8, 8, 8, 8, 8, 8, 8, 8, 8, 8, 8, 8, 8, 8, 8, 8, 8, 8, 8, 8, 8, 8, 8, 8, 8, 8, 8, 8, 8, 8, 8, 8, 8, 8, 8, 8, 8, 8, 8])) (Int.toNat (Go.IntKind.wrap Go.IntKind.u8 (Int.fdiv x.1 (65536 : Int)))) (0 : UInt8))) : Nat) : Int)))), Unit.unit))
   else none)
   else none))
   else (if ((decide (x.1 ≥ (256 : Int))) = true) then (if ((0 : Int) ≤ (Go.IntKind.wrap Go.IntKind.u8 (Int.fdiv x.1 (256 : Int)))) then (if ((Go.IntKind.wrap Go.IntKind.u8 (Int.fdiv x.1 (256 : Int))) < (256 : Int)) then (some ((Go.IntKind.wrap Go.IntKind.i64 ((8 : Int) + (Go.IntKind.wrap Go.IntKind.i64 (((UInt8.toNat (Array.getD (ByteArray.data (ByteArray.mk #[0, 1, 2, 2, 3, 3, 3, 3, 4, 4, 4, 4, 4, 4, 4, 4, 5, 5, 5, 5, 5, 5, 5, 5, 5, 5, 5, 5, 5, 5, 5, 5, 6, 6, 6, 6, 6, 6, 6, 6, 6, 6, 6, 6, 6, 6, 6, 6, 6, 6, 6, 6, 6, 6, 6, 6, 6, 6, 6, 6, 6, 6, 6, 6, 7, 7, 7, 7, 7, 7, 7, 7, 7, 7, 7, 7, 7, 7, 7, 7, 7, 7, 7, 7, 7, 7, 7, 7, 7, 7, 7, 7, 7, 7, 7, 7, 7, 7, 7, 7, 7, 7, 7, 7, 7, 7, 7, 7, 7, 7, 7, 7, 7, 7, 7, 7, 7, 7, 7, 7, 7, 7, 7, 7, 7, 7, 7, 7, 8, 8, 8, 8, 8, 8, 8, 8, 8, 8, 8, 8, 8, 8, 8, 8, 8, 8, 8, 8, 8, 8, 8, 8, 8, 8, 8, 8, 8, 8, 8, 8, 8, 8, 8, 8, 8, 8, 8, 8, 8, 8, 8, 8, 8, 8, 8, 8, 8, 8, 8, 8, 8, 8, 8, 8, 8, 8, 8, 8, 8, 8, 8, 8, 8, 8, 8, 8, 8, 8, 8, 8, 8, 8, 8, 8, 8, 8, 8, 8, 8, 8, 8, 8, 8, 8, 8, 8, 8, 8, 8, 8, 8, 8, 8, 8, 8, 8, 8, 8, 8, 8, 8, 8, 8, 8, 8, 8, 8, 8, 8, 8, 8, 8, 8, 8, 8, 8, 8, 8, 8, 8, 8, 8, 8, 8, 8, 8])) (Int.toNat (Go.IntKind.wrap Go.IntKind.u8 (Int.fdiv x.1 (256 : Int)))) (0 : UInt8))) : Nat) : Int)))), Unit.unit))
   else none)
   else none)
   else (if ((0 : Int) ≤ (Go.IntKind.wrap Go.IntKind.u8 x.1)) then (if ((Go.IntKind.wrap Go.IntKind.u8 x.1) < (256 : Int)) then (some ((Go.IntKind.wrap Go.IntKind.i64 ((0 : Int) + (Go.IntKind.wrap Go.IntKind.i64 (((UInt8.toNat (Array.getD (ByteArray.data (ByteArray.mk #[0, 1, 2, 2, 3, 3, 3, 3, 4, 4, 4, 4, 4, 4, 4, 4, 5, 5, 5, 5, 5, 5, 5, 5, 5, 5, 5, 5, 5, 5, 5, 5, 6, 6, 6, 6, 6, 6, 6, 6, 6, 6, 6, 6, 6, 6, 6, 6, 6, 6, 6, 6, 6, 6, 6, 6, 6, 6, 6, 6, 6, 6, 6, 6, 7, 7, 7, 7, 7, 7, 7, 7, 7, 7, 7, 7, 7, 7, 7, 7, 7, 7, 7, 7, 7, 7, 7, 7, 7, 7, 7, 7, 7, 7, 7, 7, 7, 7, 7, 7, 7, 7, 7, 7, 7, 7, 7, 7, 7, 7, 7, 7, 7, 7, 7, 7, 7, 7, 7, 7, 7, 7, 7, 7, 7, 7, 7, 7, 8, 8, 8, 8, 8, 8, 8, 8, 8, 8, 8, 8, 8, 8, 8, 8, 8, 8, 8, 8, 8, 8, 8, 8, 8, 8, 8, 8, 8, 8, 8, 8, 8, 8, 8, 8, 8, 8, 8, 8, 8, 8, 8, 8, 8, 8, 8, 8, 8, 8, 8, 8, 8, 8, 8, 8, 8, 8, 8, 8, 8, 8, 8, 8, 8, 8, 8, 8, 8, 8, 8, 8, 8, 8, 8, 8, 8, 8, 8, 8, 8, 8, 8, 8, 8, 8, 8, 8, 8, 8, 8, 8, 8, 8, 8, 8, 8, 8, 8, 8, 8, 8, 8, 8, 8, 8, 8, 8, 8, 8, 8, 8, 8, 8, 8, 8, 8, 8, 8, 8, 8, 8, 8, 8, 8, 8, 8, 8])) (Int.toNat (Go.IntKind.wrap Go.IntKind.u8 x.1)) (0 : UInt8))) : Nat) : Int)))), Unit.unit))
   else none)
   else none))))
theorem f66_eq (x : gi66.D) : f66 x = evF P (T37.orc _) Go.Proofs.Try.f66.ntmps fx66 c66 (planAt 64 []) gi66 x (fnK fx66 [go66]) := by kernel_rfl
theorem f66_ok : EntOk P 66 ⟨gi66, [go66], f66⟩ :=
  ent_ok (fn := Go.Proofs.Try.f66) (gi := gi66) (gos := [go66]) (f := f66) (c := c66) (fx := fx66) ⟨Go.Proofs.Try.func66, by kernel_rfl, rfl, by decide +kernel, rfl, rfl⟩ (by kernel_rfl) (Table.ok T37_ok _) hmix (planAt_ok (P := P) (n := Go.Proofs.Try.f66.ntmps) (fx := fx66) (c := c66) (d := 64) (l := []) trivial) f66_eq
noncomputable def T66 : Table := T37.add 66 [⟨gi66, [go66], f66⟩] []
theorem T66_ok : TableOk P T66 := Table.plus T37_ok (es := [⟨gi66, [go66], f66⟩]) ⟨f66_ok, trivial⟩ []

/-! ## 65: math/bits.LeadingZeros64 -/
noncomputable def c65 : Code := Func.code Go.Proofs.Try.f65
abbrev gi65 : Sg := ⟨[0], [.lf (.int .u64)], []⟩
abbrev go65 : Sg := ⟨[2], [.lf (.int .i64)], []⟩
def fx65 : List Bool := []
noncomputable def f65 (x : gi65.D) : Option go65.D :=
  (Option.bind (Go.Ev.Box.f66 (x.1, Unit.unit)) (fun y1 => (some ((Go.IntKind.wrap Go.IntKind.i64 ((64 : Int) - y1.1)), Unit.unit))))
theorem f65_eq (x : gi65.D) : f65 x = evF P (T66.orc _) Go.Proofs.Try.f65.ntmps fx65 c65 (planAt 64 []) gi65 x (fnK fx65 [go65]) := by kernel_rfl
theorem f65_ok : EntOk P 65 ⟨gi65, [go65], f65⟩ :=
  ent_ok (fn := Go.Proofs.Try.f65) (gi := gi65) (gos := [go65]) (f := f65) (c := c65) (fx := fx65) ⟨Go.Proofs.Try.func65, by kernel_rfl, rfl, by decide +kernel, rfl, rfl⟩ (by kernel_rfl) (Table.ok T66_ok _) hmix (planAt_ok (P := P) (n := Go.Proofs.Try.f65.ntmps) (fx := fx65) (c := c65) (d := 64) (l := []) trivial) f65_eq
noncomputable def T65 : Table := T66.add 65 [⟨gi65, [go65], f65⟩] []
theorem T65_ok : TableOk P T65 := Table.plus T66_ok (es := [⟨gi65, [go65], f65⟩]) ⟨f65_ok, trivial⟩ []

/-! ## 64: math/bits.Div64 -/
noncomputable def c64 : Code := Func.code Go.Proofs.Try.f64
abbrev gi64 : Sg := ⟨[0, 1, 2], [.lf (.int .u64), .lf (.int .u64), .lf (.int .u64)], []⟩
abbrev go64 : Sg := ⟨[6, 7], [.lf (.int .u64), .lf (.int .u64)], []⟩
def fx64 : List Bool := []
abbrev g64_2 : Sg := ⟨[2, 8, 9, 10, 14, 15, 16, 17, 18], [.lf (.int .u64), .lf (.int .u64), .lf (.int .u64), .lf (.int .u64), .lf (.int .u64), .lf (.int .u64), .lf (.int .u64), .lf (.int .u64), .lf (.int .u64)], []⟩
abbrev o64_2 : Outs := [(.exit 2, ⟨[2, 8, 14, 15, 17, 18], [.lf (.int .u64), .lf (.int .u64), .lf (.int .u64), .lf (.int .u64), .lf (.int .u64), .lf (.int .u64)], []⟩)]
noncomputable def b64_2 (x : g64_2.D) : Option (outD ((.normal, g64_2) :: o64_2)) :=
  (if ((decide (x.2.2.2.2.2.2.2.2.1 ≥ (4294967296 : Int))) = true) then (if ((decide ((Go.IntKind.wrap Go.IntKind.u64 (x.2.2.2.2.2.2.1 + x.2.2.1)) ≥ (4294967296 : Int))) = true) then (some (Sum.inr (Sum.inl (x.1, (x.2.1, (x.2.2.2.2.1, (x.2.2.2.2.2.1, (x.2.2.2.2.2.2.2.1, ((Go.IntKind.wrap Go.IntKind.u64 (x.2.2.2.2.2.2.2.2.1 - (1 : Int))), Unit.unit)))))))))
   else (some (Sum.inl (x.1, (x.2.1, (x.2.2.1, (x.2.2.2.1, (x.2.2.2.2.1, (x.2.2.2.2.2.1, ((Go.IntKind.wrap Go.IntKind.u64 (x.2.2.2.2.2.2.1 + x.2.2.1)), (x.2.2.2.2.2.2.2.1, ((Go.IntKind.wrap Go.IntKind.u64 (x.2.2.2.2.2.2.2.2.1 - (1 : Int))), Unit.unit))))))))))))
   else (if ((decide ((Go.IntKind.wrap Go.IntKind.u64 (x.2.2.2.2.2.2.2.2.1 * x.2.2.2.1)) > (Go.IntKind.wrap Go.IntKind.u64 ((Go.IntKind.wrap Go.IntKind.u64 ((4294967296 : Int) * x.2.2.2.2.2.2.1)) + x.2.2.2.2.1)))) = true) then (if ((decide ((Go.IntKind.wrap Go.IntKind.u64 (x.2.2.2.2.2.2.1 + x.2.2.1)) ≥ (4294967296 : Int))) = true) then (some (Sum.inr (Sum.inl (x.1, (x.2.1, (x.2.2.2.2.1, (x.2.2.2.2.2.1, (x.2.2.2.2.2.2.2.1, ((Go.IntKind.wrap Go.IntKind.u64 (x.2.2.2.2.2.2.2.2.1 - (1 : Int))), Unit.unit)))))))))
   else (some (Sum.inl (x.1, (x.2.1, (x.2.2.1, (x.2.2.2.1, (x.2.2.2.2.1, (x.2.2.2.2.2.1, ((Go.IntKind.wrap Go.IntKind.u64 (x.2.2.2.2.2.2.1 + x.2.2.1)), (x.2.2.2.2.2.2.2.1, ((Go.IntKind.wrap Go.IntKind.u64 (x.2.2.2.2.2.2.2.2.1 - (1 : Int))), Unit.unit))))))))))))
   else (some (Sum.inr (Sum.inl (x.1, (x.2.1, (x.2.2.2.2.1, (x.2.2.2.2.2.1, (x.2.2.2.2.2.2.2.1, (x.2.2.2.2.2.2.2.2.1, Unit.unit)))))))))))
theorem b64_2_eq (x : g64_2.D) : b64_2 x = evF P (T65.orc _) Go.Proofs.Try.f64.ntmps fx64 (Code.at [true, true, true, true, true, true, true, true, true, true, true, true, true, true, true, true, true, true, false, false, false] c64) (planAt 64 []) g64_2 x (injK fx64 ((.normal, g64_2) :: o64_2) some) := by kernel_rfl
noncomputable def l64_2 : g64_2.D → Option (outD o64_2) := loopN g64_2 o64_2 b64_2 18446744073709551616
theorem at64_2 : Code.at [true, true, true, true, true, true, true, true, true, true, true, true, true, true, true, true, true, true, false, false] c64 = .loop (Code.at [true, true, true, true, true, true, true, true, true, true, true, true, true, true, true, true, true, true, false, false, false] c64) := by kernel_rfl
theorem s64_2_ok : SubOk P Go.Proofs.Try.f64.ntmps fx64 (Code.at [true, true, true, true, true, true, true, true, true, true, true, true, true, true, true, true, true, true, false, false] c64) ⟨g64_2, o64_2, l64_2⟩ := by
  rw [at64_2]
  exact loop_ok (sub_ok (g := g64_2) (outs := ((.normal, g64_2) :: o64_2)) (f := b64_2) (Table.ok T65_ok _) hmix (planAt_ok (P := P) (n := Go.Proofs.Try.f64.ntmps) (fx := fx64) (c := (Code.at [true, true, true, true, true, true, true, true, true, true, true, true, true, true, true, true, true, true, false, false, false] c64)) (d := 64) (l := []) trivial) b64_2_eq) rfl _
abbrev g64_1 : Sg := ⟨[2, 8, 9, 10, 11, 13, 14, 15, 16], [.lf (.int .u64), .lf (.int .u64), .lf (.int .u64), .lf (.int .u64), .lf (.int .u64), .lf (.int .u64), .lf (.int .u64), .lf (.int .u64), .lf (.int .u64)], []⟩
abbrev o64_1 : Outs := [(.exit 0, ⟨[2, 8, 9, 10, 11, 13, 14, 15], [.lf (.int .u64), .lf (.int .u64), .lf (.int .u64), .lf (.int .u64), .lf (.int .u64), .lf (.int .u64), .lf (.int .u64), .lf (.int .u64)], []⟩)]
noncomputable def b64_1 (x : g64_1.D) : Option (outD ((.normal, g64_1) :: o64_1)) :=
  (if ((decide (x.2.2.2.2.2.2.2.1 ≥ (4294967296 : Int))) = true) then (if ((decide ((Go.IntKind.wrap Go.IntKind.u64 (x.2.2.2.2.2.2.2.2.1 + x.2.2.1)) ≥ (4294967296 : Int))) = true) then (some (Sum.inr (Sum.inl (x.1, (x.2.1, (x.2.2.1, (x.2.2.2.1, (x.2.2.2.2.1, (x.2.2.2.2.2.1, (x.2.2.2.2.2.2.1, ((Go.IntKind.wrap Go.IntKind.u64 (x.2.2.2.2.2.2.2.1 - (1 : Int))), Unit.unit)))))))))))
   else (some (Sum.inl (x.1, (x.2.1, (x.2.2.1, (x.2.2.2.1, (x.2.2.2.2.1, (x.2.2.2.2.2.1, (x.2.2.2.2.2.2.1, ((Go.IntKind.wrap Go.IntKind.u64 (x.2.2.2.2.2.2.2.1 - (1 : Int))), ((Go.IntKind.wrap Go.IntKind.u64 (x.2.2.2.2.2.2.2.2.1 + x.2.2.1)), Unit.unit))))))))))))
   else (if ((decide ((Go.IntKind.wrap Go.IntKind.u64 (x.2.2.2.2.2.2.2.1 * x.2.2.2.1)) > (Go.IntKind.wrap Go.IntKind.u64 ((Go.IntKind.wrap Go.IntKind.u64 ((4294967296 : Int) * x.2.2.2.2.2.2.2.2.1)) + x.2.2.2.2.2.1)))) = true) then (if ((decide ((Go.IntKind.wrap Go.IntKind.u64 (x.2.2.2.2.2.2.2.2.1 + x.2.2.1)) ≥ (4294967296 : Int))) = true) then (some (Sum.inr (Sum.inl (x.1, (x.2.1, (x.2.2.1, (x.2.2.2.1, (x.2.2.2.2.1, (x.2.2.2.2.2.1, (x.2.2.2.2.2.2.1, ((Go.IntKind.wrap Go.IntKind.u64 (x.2.2.2.2.2.2.2.1 - (1 : Int))), Unit.unit)))))))))))
   else (some (Sum.inl (x.1, (x.2.1, (x.2.2.1, (x.2.2.2.1, (x.2.2.2.2.1, (x.2.2.2.2.2.1, (x.2.2.2.2.2.2.1, ((Go.IntKind.wrap Go.IntKind.u64 (x.2.2.2.2.2.2.2.1 - (1 : Int))), ((Go.IntKind.wrap Go.IntKind.u64 (x.2.2.2.2.2.2.2.2.1 + x.2.2.1)), Unit.unit))))))))))))
   else (some (Sum.inr (Sum.inl (x.1, (x.2.1, (x.2.2.1, (x.2.2.2.1, (x.2.2.2.2.1, (x.2.2.2.2.2.1, (x.2.2.2.2.2.2.1, (x.2.2.2.2.2.2.2.1, Unit.unit)))))))))))))
theorem b64_1_eq (x : g64_1.D) : b64_1 x = evF P (T65.orc _) Go.Proofs.Try.f64.ntmps fx64 (Code.at [true, true, true, true, true, true, true, true, true, true, true, true, true, true, false, false, false] c64) (planAt 64 []) g64_1 x (injK fx64 ((.normal, g64_1) :: o64_1) some) := by kernel_rfl
noncomputable def l64_1 : g64_1.D → Option (outD o64_1) := loopN g64_1 o64_1 b64_1 18446744073709551616
theorem at64_1 : Code.at [true, true, true, true, true, true, true, true, true, true, true, true, true, true, false, false] c64 = .loop (Code.at [true, true, true, true, true, true, true, true, true, true, true, true, true, true, false, false, false] c64) := by kernel_rfl
theorem s64_1_ok : SubOk P Go.Proofs.Try.f64.ntmps fx64 (Code.at [true, true, true, true, true, true, true, true, true, true, true, true, true, true, false, false] c64) ⟨g64_1, o64_1, l64_1⟩ := by
  rw [at64_1]
  exact loop_ok (sub_ok (g := g64_1) (outs := ((.normal, g64_1) :: o64_1)) (f := b64_1) (Table.ok T65_ok _) hmix (planAt_ok (P := P) (n := Go.Proofs.Try.f64.ntmps) (fx := fx64) (c := (Code.at [true, true, true, true, true, true, true, true, true, true, true, true, true, true, false, false, false] c64)) (d := 64) (l := []) trivial) b64_1_eq) rfl _
noncomputable def f64 (x : gi64.D) : Option go64.D :=
  (if ((x.2.2.1 == (0 : Int)) = true) then none
   else (if ((decide (x.2.2.1 ≤ x.1)) = true) then none
   else (if ((x.1 == (0 : Int)) = true) then (if (x.2.2.1 = (0 : Int)) then none
   else (if (x.2.2.1 = (0 : Int)) then none
   else (some ((Go.IntKind.wrap Go.IntKind.u64 (Int.tdiv x.2.1 x.2.2.1)), ((Int.tmod x.2.1 x.2.2.1), Unit.unit)))))
   else (Option.bind (Go.Ev.Box.f65 (x.2.2.1, Unit.unit)) (fun y1 => (if ((Go.IntKind.wrap Go.IntKind.u64 y1.1) < (0 : Int)) then none
   else (if ((Go.IntKind.wrap Go.IntKind.u64 y1.1) < (0 : Int)) then none
   else (if ((Go.IntKind.wrap Go.IntKind.u64 ((64 : Int) - (Go.IntKind.wrap Go.IntKind.u64 y1.1))) < (0 : Int)) then none
   else (if ((Go.IntKind.wrap Go.IntKind.u64 y1.1) < (0 : Int)) then none
   else (if ((Int.fdiv (Go.IntKind.wrap Go.IntKind.u64 (x.2.2.1 * ((2 : Int) ^ (Min.min (Int.toNat (Go.IntKind.wrap Go.IntKind.u64 y1.1)) (64 : Nat))))) (4294967296 : Int)) = (0 : Int)) then none
   else (Option.bind (Go.Ev.Box.l64_1 ((Go.IntKind.wrap Go.IntKind.u64 (x.2.2.1 * ((2 : Int) ^ (Min.min (Int.toNat (Go.IntKind.wrap Go.IntKind.u64 y1.1)) (64 : Nat))))), ((Go.IntKind.wrap Go.IntKind.u64 y1.1), ((Int.fdiv (Go.IntKind.wrap Go.IntKind.u64 (x.2.2.1 * ((2 : Int) ^ (Min.min (Int.toNat (Go.IntKind.wrap Go.IntKind.u64 y1.1)) (64 : Nat))))) (4294967296 : Int)), ((Go.IntKind.wrap Go.IntKind.u64 (((BitVec.toNat ((BitVec.ofInt (64 : Nat) (Go.IntKind.wrap Go.IntKind.u64 (x.2.2.1 * ((2 : Int) ^ (Min.min (Int.toNat (Go.IntKind.wrap Go.IntKind.u64 y1.1)) (64 : Nat)))))) &&& (BitVec.ofInt (64 : Nat) (4294967295 : Int)))) : Nat) : Int)), ((Go.IntKind.wrap Go.IntKind.u64 (((BitVec.toNat ((BitVec.ofInt (64 : Nat) (Go.IntKind.wrap Go.IntKind.u64 (x.1 * ((2 : Int) ^ (Min.min (Int.toNat (Go.IntKind.wrap Go.IntKind.u64 y1.1)) (64 : Nat)))))) ||| (BitVec.ofInt (64 : Nat) (Int.fdiv x.2.1 ((2 : Int) ^ (Min.min (Int.toNat (Go.IntKind.wrap Go.IntKind.u64 ((64 : Int) - (Go.IntKind.wrap Go.IntKind.u64 y1.1)))) (64 : Nat))))))) : Nat) : Int)), ((Int.fdiv (Go.IntKind.wrap Go.IntKind.u64 (x.2.1 * ((2 : Int) ^ (Min.min (Int.toNat (Go.IntKind.wrap Go.IntKind.u64 y1.1)) (64 : Nat))))) (4294967296 : Int)), ((Go.IntKind.wrap Go.IntKind.u64 (((BitVec.toNat ((BitVec.ofInt (64 : Nat) (Go.IntKind.wrap Go.IntKind.u64 (x.2.1 * ((2 : Int) ^ (Min.min (Int.toNat (Go.IntKind.wrap Go.IntKind.u64 y1.1)) (64 : Nat)))))) &&& (BitVec.ofInt (64 : Nat) (4294967295 : Int)))) : Nat) : Int)), ((Go.IntKind.wrap Go.IntKind.u64 (Int.tdiv (Go.IntKind.wrap Go.IntKind.u64 (((BitVec.toNat ((BitVec.ofInt (64 : Nat) (Go.IntKind.wrap Go.IntKind.u64 (x.1 * ((2 : Int) ^ (Min.min (Int.toNat (Go.IntKind.wrap Go.IntKind.u64 y1.1)) (64 : Nat)))))) ||| (BitVec.ofInt (64 : Nat) (Int.fdiv x.2.1 ((2 : Int) ^ (Min.min (Int.toNat (Go.IntKind.wrap Go.IntKind.u64 ((64 : Int) - (Go.IntKind.wrap Go.IntKind.u64 y1.1)))) (64 : Nat))))))) : Nat) : Int)) (Int.fdiv (Go.IntKind.wrap Go.IntKind.u64 (x.2.2.1 * ((2 : Int) ^ (Min.min (Int.toNat (Go.IntKind.wrap Go.IntKind.u64 y1.1)) (64 : Nat))))) (4294967296 : Int)))), ((Go.IntKind.wrap Go.IntKind.u64 ((Go.IntKind.wrap Go.IntKind.u64 (((BitVec.toNat ((BitVec.ofInt (64 : Nat) (Go.IntKind.wrap Go.IntKind.u64 (x.1 * ((2 : Int) ^ (Min.min (Int.toNat (Go.IntKind.wrap Go.IntKind.u64 y1.1)) (64 : Nat)))))) ||| (BitVec.ofInt (64 : Nat) (Int.fdiv x.2.1 ((2 : Int) ^ (Min.min (Int.toNat (Go.IntKind.wrap Go.IntKind.u64 ((64 : Int) - (Go.IntKind.wrap Go.IntKind.u64 y1.1)))) (64 : Nat))))))) : Nat) : Int)) - (Go.IntKind.wrap Go.IntKind.u64 ((Go.IntKind.wrap Go.IntKind.u64 (Int.tdiv (Go.IntKind.wrap Go.IntKind.u64 (((BitVec.toNat ((BitVec.ofInt (64 : Nat) (Go.IntKind.wrap Go.IntKind.u64 (x.1 * ((2 : Int) ^ (Min.min (Int.toNat (Go.IntKind.wrap Go.IntKind.u64 y1.1)) (64 : Nat)))))) ||| (BitVec.ofInt (64 : Nat) (Int.fdiv x.2.1 ((2 : Int) ^ (Min.min (Int.toNat (Go.IntKind.wrap Go.IntKind.u64 ((64 : Int) - (Go.IntKind.wrap Go.IntKind.u64 y1.1)))) (64 : Nat))))))) : Nat) : Int)) (Int.fdiv (Go.IntKind.wrap Go.IntKind.u64 (x.2.2.1 * ((2 : Int) ^ (Min.min (Int.toNat (Go.IntKind.wrap Go.IntKind.u64 y1.1)) (64 : Nat))))) (4294967296 : Int)))) * (Int.fdiv (Go.IntKind.wrap Go.IntKind.u64 (x.2.2.1 * ((2 : Int) ^ (Min.min (Int.toNat (Go.IntKind.wrap Go.IntKind.u64 y1.1)) (64 : Nat))))) (4294967296 : Int)))))), Unit.unit)))))))))) (Sum.elim (fun y2 => (if (y2.2.2.1 = (0 : Int)) then none
   else (Option.bind (Go.Ev.Box.l64_2 (y2.1, (y2.2.1, (y2.2.2.1, (y2.2.2.2.1, (y2.2.2.2.2.2.2.1, (y2.2.2.2.2.2.2.2.1, ((Go.IntKind.wrap Go.IntKind.u64 ((Go.IntKind.wrap Go.IntKind.u64 ((Go.IntKind.wrap Go.IntKind.u64 ((Go.IntKind.wrap Go.IntKind.u64 (y2.2.2.2.2.1 * (4294967296 : Int))) + y2.2.2.2.2.2.1)) - (Go.IntKind.wrap Go.IntKind.u64 (y2.2.2.2.2.2.2.2.1 * y2.1)))) - (Go.IntKind.wrap Go.IntKind.u64 ((Go.IntKind.wrap Go.IntKind.u64 (Int.tdiv (Go.IntKind.wrap Go.IntKind.u64 ((Go.IntKind.wrap Go.IntKind.u64 ((Go.IntKind.wrap Go.IntKind.u64 (y2.2.2.2.2.1 * (4294967296 : Int))) + y2.2.2.2.2.2.1)) - (Go.IntKind.wrap Go.IntKind.u64 (y2.2.2.2.2.2.2.2.1 * y2.1)))) y2.2.2.1)) * y2.2.2.1)))), ((Go.IntKind.wrap Go.IntKind.u64 ((Go.IntKind.wrap Go.IntKind.u64 ((Go.IntKind.wrap Go.IntKind.u64 (y2.2.2.2.2.1 * (4294967296 : Int))) + y2.2.2.2.2.2.1)) - (Go.IntKind.wrap Go.IntKind.u64 (y2.2.2.2.2.2.2.2.1 * y2.1)))), ((Go.IntKind.wrap Go.IntKind.u64 (Int.tdiv (Go.IntKind.wrap Go.IntKind.u64 ((Go.IntKind.wrap Go.IntKind.u64 ((Go.IntKind.wrap Go.IntKind.u64 (y2.2.2.2.2.1 * (4294967296 : Int))) + y2.2.2.2.2.2.1)) - (Go.IntKind.wrap Go.IntKind.u64 (y2.2.2.2.2.2.2.2.1 * y2.1)))) y2.2.2.1)), Unit.unit)))))))))) (Sum.elim (fun y3 => (if (y3.2.1 < (0 : Int)) then none
   else (some ((Go.IntKind.wrap Go.IntKind.u64 ((Go.IntKind.wrap Go.IntKind.u64 (y3.2.2.2.1 * (4294967296 : Int))) + y3.2.2.2.2.2.1)), ((Int.fdiv (Go.IntKind.wrap Go.IntKind.u64 ((Go.IntKind.wrap Go.IntKind.u64 ((Go.IntKind.wrap Go.IntKind.u64 (y3.2.2.2.2.1 * (4294967296 : Int))) + y3.2.2.1)) - (Go.IntKind.wrap Go.IntKind.u64 (y3.2.2.2.2.2.1 * y3.1)))) ((2 : Int) ^ (Min.min (Int.toNat y3.2.1) (64 : Nat)))), Unit.unit))))) Empty.elim)))) Empty.elim))))))))))))
theorem f64_eq (x : gi64.D) : f64 x = evF P (T65.orc _) Go.Proofs.Try.f64.ntmps fx64 c64 (planAt 64 [([true, true, true, true, true, true, true, true, true, true, true, true, true, true, false, false], ⟨g64_1, o64_1, l64_1⟩), ([true, true, true, true, true, true, true, true, true, true, true, true, true, true, true, true, true, true, false, false], ⟨g64_2, o64_2, l64_2⟩)]) gi64 x (fnK fx64 [go64]) := by kernel_rfl
theorem pf64 : AllSub P Go.Proofs.Try.f64.ntmps fx64 c64 [([true, true, true, true, true, true, true, true, true, true, true, true, true, true, false, false], ⟨g64_1, o64_1, l64_1⟩), ([true, true, true, true, true, true, true, true, true, true, true, true, true, true, true, true, true, true, false, false], ⟨g64_2, o64_2, l64_2⟩)] := And.intro s64_1_ok (And.intro s64_2_ok (trivial))
theorem qf64 : PlanOk P Go.Proofs.Try.f64.ntmps fx64 (planAt 64 [([true, true, true, true, true, true, true, true, true, true, true, true, true, true, false, false], ⟨g64_1, o64_1, l64_1⟩), ([true, true, true, true, true, true, true, true, true, true, true, true, true, true, true, true, true, true, false, false], ⟨g64_2, o64_2, l64_2⟩)]) c64 := planAt_ok pf64
theorem f64_ok : EntOk P 64 ⟨gi64, [go64], f64⟩ :=
  ent_ok (fn := Go.Proofs.Try.f64) (gi := gi64) (gos := [go64]) (f := f64) (c := c64) (fx := fx64) ⟨Go.Proofs.Try.func64, by kernel_rfl, rfl, by decide +kernel, rfl, rfl⟩ (by kernel_rfl) (Table.ok T65_ok _) hmix (qf64) f64_eq
noncomputable def T64 : Table := T65.add 64 [⟨gi64, [go64], f64⟩] []
theorem T64_ok : TableOk P T64 := Table.plus T65_ok (es := [⟨gi64, [go64], f64⟩]) ⟨f64_ok, trivial⟩ []

/-! ## 63: (erasure/dec.wide).by -/
noncomputable def c63 : Code := Func.code Go.Proofs.Try.f63
abbrev gi63 : Sg := ⟨[0], [.agg [.lf (.int .u64), .lf (.int .u64)]], []⟩
abbrev go63 : Sg := ⟨[0, 3], [.agg [.lf (.int .u64), .lf (.int .u64)], .lf (.int .u64)], []⟩
def fx63 : List Bool := []
noncomputable def f63 (x : gi63.D) : Option go63.D :=
  (Option.bind (Go.Ev.Box.f64 ((Int.tmod x.1 (10 : Int)), (x.2.1, ((10 : Int), Unit.unit)))) (fun y1 => (some ((Go.IntKind.wrap Go.IntKind.u64 (Int.tdiv x.1 (10 : Int))), (y1.1, (y1.2.1, Unit.unit))))))
theorem f63_eq (x : gi63.D) : f63 x = evF P (T64.orc _) Go.Proofs.Try.f63.ntmps fx63 c63 (planAt 64 []) gi63 x (fnKR P Go.Proofs.Try.f63 fx63 [go63]) := by kernel_rfl
theorem f63_ok : EntOk P 63 ⟨gi63, [go63], f63⟩ :=
  ent_okR (fn := Go.Proofs.Try.f63) (gi := gi63) (gos := [go63]) (f := f63) (c := c63) (fx := fx63) ⟨Go.Proofs.Try.func63, by kernel_rfl, rfl, by decide +kernel, rfl, rfl⟩ (Table.ok T64_ok _) hmix (planAt_ok (P := P) (n := Go.Proofs.Try.f63.ntmps) (fx := fx63) (c := c63) (d := 64) (l := []) trivial) f63_eq
noncomputable def T63 : Table := T64.add 63 [⟨gi63, [go63], f63⟩] []
theorem T63_ok : TableOk P T63 := Table.plus T64_ok (es := [⟨gi63, [go63], f63⟩]) ⟨f63_ok, trivial⟩ []

/-! ## 57: erasure/dec.tell -/
noncomputable def c57 : Code := Func.code Go.Proofs.Try.f57
abbrev gi57 : Sg := ⟨[0, 1, 2], [.lf .bool, .agg [.lf (.int .u64), .lf (.int .u64)], .lf (.int .i64)], []⟩
abbrev go57 : Sg := ⟨[0, 7], [.agg [.lf (.int .i64), .lf (.int .i64)], .lf (.int .i64)], []⟩
def fx57 : List Bool := []
abbrev g57_1 : Sg := ⟨[0, 2, 4, 6], [.lf .bool, .lf (.int .i64), .lf (.ptr 0 0), .lf (.ptr 1 0)], [some (.box true [.lf (.int .u64), .lf (.int .u64)]), some (.box true [.lf (.int .i64), .lf (.int .i64)])]⟩
abbrev o57_1 : Outs := [(.exit 0, ⟨[0, 2, 4, 6], [.lf .bool, .lf (.int .i64), .lf (.ptr 0 0), .lf (.ptr 1 0)], [some (.box true [.lf (.int .u64), .lf (.int .u64)]), some (.box true [.lf (.int .i64), .lf (.int .i64)])]⟩)]
noncomputable def b57_1 (x : g57_1.D) : Option (outD ((.normal, g57_1) :: o57_1)) :=
  (if ((decide (x.2.1 > (0 : Int))) = true) then (Option.bind (Go.Ev.Box.f63 (x.2.2.1, (x.2.2.2.1, Unit.unit))) (fun y1 => (if ((y1.2.2.1 != (0 : Int)) = true) then (some (Sum.inr (Sum.inl (x.1, (x.2.1, (x.2.2.1, (x.2.2.2.1, (x.2.2.2.2.1, (x.2.2.2.2.2.1, Unit.unit)))))))))
   else (some (Sum.inl (x.1, ((Go.IntKind.wrap Go.IntKind.i64 (x.2.1 - (1 : Int))), (y1.1, (y1.2.1, (x.2.2.2.2.1, (x.2.2.2.2.2.1, Unit.unit)))))))))))
   else (some (Sum.inr (Sum.inl (x.1, (x.2.1, (x.2.2.1, (x.2.2.2.1, (x.2.2.2.2.1, (x.2.2.2.2.2.1, Unit.unit))))))))))
theorem b57_1_eq (x : g57_1.D) : b57_1 x = evF P (T63.orc _) Go.Proofs.Try.f57.ntmps fx57 (Code.at [true, false, false, false] c57) (planAt 64 []) g57_1 x (injK fx57 ((.normal, g57_1) :: o57_1) some) := by kernel_rfl
noncomputable def l57_1 : g57_1.D → Option (outD o57_1) := loopN g57_1 o57_1 b57_1 18446744073709551616
theorem at57_1 : Code.at [true, false, false] c57 = .loop (Code.at [true, false, false, false] c57) := by kernel_rfl
theorem s57_1_ok : SubOk P Go.Proofs.Try.f57.ntmps fx57 (Code.at [true, false, false] c57) ⟨g57_1, o57_1, l57_1⟩ := by
  rw [at57_1]
  exact loop_ok (sub_ok (g := g57_1) (outs := ((.normal, g57_1) :: o57_1)) (f := b57_1) (Table.ok T63_ok _) hmix (planAt_ok (P := P) (n := Go.Proofs.Try.f57.ntmps) (fx := fx57) (c := (Code.at [true, false, false, false] c57)) (d := 64) (l := []) trivial) b57_1_eq) rfl _
noncomputable def f57 (x : gi57.D) : Option go57.D :=
  (Option.bind (Go.Ev.Box.l57_1 (x.1, (x.2.2.2.1, (x.2.1, (x.2.2.1, ((0 : Int), ((0 : Int), Unit.unit))))))) (Sum.elim (fun y1 => (if ((y1.2.2.1 != (0 : Int)) = true) then (some ((0 : Int), ((0 : Int), ((5 : Int), Unit.unit))))
   else (if ((decide (y1.2.2.2.1 > (999999999999999999 : Int))) = true) then (some ((0 : Int), ((0 : Int), ((5 : Int), Unit.unit))))
   else (if ((decide (y1.2.1 > (9 : Int))) = true) then (some ((0 : Int), ((0 : Int), ((5 : Int), Unit.unit))))
   else (if (y1.1 = true) then (some ((Go.IntKind.wrap Go.IntKind.i64 ((0 : Int) - (Go.IntKind.wrap Go.IntKind.i64 y1.2.2.2.1))), (y1.2.1, ((0 : Int), Unit.unit))))
   else (some ((Go.IntKind.wrap Go.IntKind.i64 y1.2.2.2.1), (y1.2.1, ((0 : Int), Unit.unit))))))))) Empty.elim))
theorem f57_eq (x : gi57.D) : f57 x = evF P (T63.orc _) Go.Proofs.Try.f57.ntmps fx57 c57 (planAt 64 [([true, false, false], ⟨g57_1, o57_1, l57_1⟩)]) gi57 x (fnKR P Go.Proofs.Try.f57 fx57 [go57]) := by kernel_rfl
theorem pf57 : AllSub P Go.Proofs.Try.f57.ntmps fx57 c57 [([true, false, false], ⟨g57_1, o57_1, l57_1⟩)] := And.intro s57_1_ok (trivial)
theorem qf57 : PlanOk P Go.Proofs.Try.f57.ntmps fx57 (planAt 64 [([true, false, false], ⟨g57_1, o57_1, l57_1⟩)]) c57 := planAt_ok pf57
theorem f57_ok : EntOk P 57 ⟨gi57, [go57], f57⟩ :=
  ent_okR (fn := Go.Proofs.Try.f57) (gi := gi57) (gos := [go57]) (f := f57) (c := c57) (fx := fx57) ⟨Go.Proofs.Try.func57, by kernel_rfl, rfl, by decide +kernel, rfl, rfl⟩ (Table.ok T63_ok _) hmix (qf57) f57_eq
noncomputable def T57 : Table := T63.add 57 [⟨gi57, [go57], f57⟩] []
theorem T57_ok : TableOk P T57 := Table.plus T63_ok (es := [⟨gi57, [go57], f57⟩]) ⟨f57_ok, trivial⟩ []

/-! ## 46: erasure/dec.Mul -/
noncomputable def c46 : Code := Func.code Go.Proofs.Try.f46
abbrev gi46 : Sg := ⟨[0, 1], [.agg [.lf (.int .i64), .lf (.int .i64)], .agg [.lf (.int .i64), .lf (.int .i64)]], []⟩
abbrev go46 : Sg := ⟨[0, 5], [.agg [.lf (.int .i64), .lf (.int .i64)], .lf (.int .i64)], []⟩
def fx46 : List Bool := []
noncomputable def f46 (x : gi46.D) : Option go46.D :=
  (Option.bind (Go.Ev.Box.f23 (x.1, (x.2.1, Unit.unit))) (fun y1 => (if ((y1.1 != (0 : Int)) = true) then (some ((0 : Int), ((0 : Int), ((1 : Int), Unit.unit))))
   else (Option.bind (Go.Ev.Box.f23 (x.2.2.1, (x.2.2.2.1, Unit.unit))) (fun y2 => (if ((y2.1 != (0 : Int)) = true) then (some ((0 : Int), ((0 : Int), ((1 : Int), Unit.unit))))
   else (Option.bind (Go.Ev.Box.f49 (x.1, Unit.unit)) (fun y3 => (Option.bind (Go.Ev.Box.f49 (x.2.2.1, Unit.unit)) (fun y4 => (Option.bind (Go.Ev.Box.f50 (y3.1, (y4.1, Unit.unit))) (fun y5 => (Option.bind (Go.Ev.Box.f57 ((Bool.not ((decide (x.1 < (0 : Int))) == (decide (x.2.2.1 < (0 : Int))))), (y5.1, (y5.2.1, ((Go.IntKind.wrap Go.IntKind.i64 (x.2.1 + x.2.2.2.1)), Unit.unit))))) (fun y6 => (some (y6.1, (y6.2.1, (y6.2.2.1, Unit.unit))))))))))))))))))
theorem f46_eq (x : gi46.D) : f46 x = evF P (T57.orc _) Go.Proofs.Try.f46.ntmps fx46 c46 (planAt 64 []) gi46 x (fnKR P Go.Proofs.Try.f46 fx46 [go46]) := by kernel_rfl
theorem f46_ok : EntOk P 46 ⟨gi46, [go46], f46⟩ :=
  ent_okR (fn := Go.Proofs.Try.f46) (gi := gi46) (gos := [go46]) (f := f46) (c := c46) (fx := fx46) ⟨Go.Proofs.Try.func46, by kernel_rfl, rfl, by decide +kernel, rfl, rfl⟩ (Table.ok T57_ok _) hmix (planAt_ok (P := P) (n := Go.Proofs.Try.f46.ntmps) (fx := fx46) (c := c46) (d := 64) (l := []) trivial) f46_eq
noncomputable def T46 : Table := T57.add 46 [⟨gi46, [go46], f46⟩] []
theorem T46_ok : TableOk P T46 := Table.plus T57_ok (es := [⟨gi46, [go46], f46⟩]) ⟨f46_ok, trivial⟩ []

/-! ## 44: erasure/matrix.reckoner$1 -/
noncomputable def c44 : Code := Func.code Go.Proofs.Try.f44
abbrev gi44 : Sg := ⟨[0, 1, 2], [.agg [.lf (.int .i64), .lf (.int .i64)], .lf (.int .i64), .lf (.ptr 0 0)], [some (.box true [.lf (.int .i64)])]⟩
abbrev go44 : Sg := ⟨[0], [.agg [.lf (.int .i64), .lf (.int .i64)]], [some (.box true [.lf (.int .i64)])]⟩
def fx44 : List Bool := [true]
noncomputable def f44 (x : gi44.D) : Option go44.D :=
  (if ((x.2.2.2.1 == (0 : Int)) = true) then (some (x.1, (x.2.1, (x.2.2.1, Unit.unit))))
   else (some (x.1, (x.2.1, (x.2.2.2.1, Unit.unit)))))
theorem f44_eq (x : gi44.D) : f44 x = evF P (T46.orc _) Go.Proofs.Try.f44.ntmps fx44 c44 (planAt 64 []) gi44 x (fnKR P Go.Proofs.Try.f44 fx44 [go44]) := by kernel_rfl
theorem f44_ok : EntOk P 44 ⟨gi44, [go44], f44⟩ :=
  ent_okR (fn := Go.Proofs.Try.f44) (gi := gi44) (gos := [go44]) (f := f44) (c := c44) (fx := fx44) ⟨Go.Proofs.Try.func44, by kernel_rfl, rfl, by decide +kernel, rfl, rfl⟩ (Table.ok T46_ok _) hmix (planAt_ok (P := P) (n := Go.Proofs.Try.f44.ntmps) (fx := fx44) (c := c44) (d := 64) (l := []) trivial) f44_eq
noncomputable def T44 : Table := T46.add 44 [⟨gi44, [go44], f44⟩] []
theorem T44_ok : TableOk P T44 := Table.plus T46_ok (es := [⟨gi44, [go44], f44⟩]) ⟨f44_ok, trivial⟩ []

/-! ## 47: erasure/dec.Add -/
noncomputable def c47 : Code := Func.code Go.Proofs.Try.f47
abbrev gi47 : Sg := ⟨[0, 1], [.agg [.lf (.int .i64), .lf (.int .i64)], .agg [.lf (.int .i64), .lf (.int .i64)]], []⟩
abbrev go47 : Sg := ⟨[0, 5], [.agg [.lf (.int .i64), .lf (.int .i64)], .lf (.int .i64)], []⟩
def fx47 : List Bool := []
noncomputable def f47 (x : gi47.D) : Option go47.D :=
  (Option.bind (Go.Ev.Box.f24 (x.1, (x.2.1, (x.2.2.1, (x.2.2.2.1, Unit.unit))))) (fun y1 => (if ((y1.2.2.2.2.2.1 != (0 : Int)) = true) then (some ((0 : Int), ((0 : Int), (y1.2.2.2.2.2.1, Unit.unit))))
   else (if (((decide (x.1 < (0 : Int))) == (decide (x.2.2.1 < (0 : Int)))) = true) then (if (((0 : Int) ≤ y1.2.1) ∧ (((0 : Int) ≤ y1.2.2.2.1) ∧ (((0 : Int) ≤ (0 : Int)) ∧ ((0 : Int) ≤ (1 : Int))))) then (Option.bind (Go.Ev.Box.f57 ((decide (x.1 < (0 : Int))), ((Go.IntKind.wrap Go.IntKind.u64 ((Go.IntKind.wrap Go.IntKind.u64 (y1.1 + y1.2.2.1)) + (((y1.2.1 + y1.2.2.2.1) + (0 : Int)) / (18446744073709551616 : Int)))), ((((y1.2.1 + y1.2.2.2.1) + (0 : Int)) % (18446744073709551616 : Int)), (y1.2.2.2.2.1, Unit.unit))))) (fun y2 => (some (y2.1, (y2.2.1, (y2.2.2.1, Unit.unit))))))
   else none)
   else (Option.bind (Go.Ev.Box.f25 (y1.1, (y1.2.1, (y1.2.2.1, (y1.2.2.2.1, Unit.unit))))) (fun y2 => (if ((decide (y2.1 < (0 : Int))) = true) then (if (((0 : Int) ≤ y1.2.2.2.1) ∧ (((0 : Int) ≤ y1.2.1) ∧ (((0 : Int) ≤ (0 : Int)) ∧ (((0 : Int) ≤ (1 : Int)) ∧ ((y1.2.1 + (0 : Int)) ≤ (y1.2.2.2.1 + (18446744073709551616 : Int))))))) then (Option.bind (Go.Ev.Box.f57 ((Bool.not (decide (x.1 < (0 : Int)))), ((Go.IntKind.wrap Go.IntKind.u64 ((Go.IntKind.wrap Go.IntKind.u64 (y1.2.2.1 - y1.1)) - (((Go.Ev.nat01 (decide (y1.2.2.2.1 < (y1.2.1 + (0 : Int))))) : Nat) : Int))), (((((y1.2.2.2.1 + (18446744073709551616 : Int)) - y1.2.1) - (0 : Int)) % (18446744073709551616 : Int)), (y1.2.2.2.2.1, Unit.unit))))) (fun y3 => (some (y3.1, (y3.2.1, (y3.2.2.1, Unit.unit))))))
   else none)
   else (if (((0 : Int) ≤ y1.2.1) ∧ (((0 : Int) ≤ y1.2.2.2.1) ∧ (((0 : Int) ≤ (0 : Int)) ∧ (((0 : Int) ≤ (1 : Int)) ∧ ((y1.2.2.2.1 + (0 : Int)) ≤ (y1.2.1 + (18446744073709551616 : Int))))))) then (Option.bind (Go.Ev.Box.f57 ((decide (x.1 < (0 : Int))), ((Go.IntKind.wrap Go.IntKind.u64 ((Go.IntKind.wrap Go.IntKind.u64 (y1.1 - y1.2.2.1)) - (((Go.Ev.nat01 (decide (y1.2.1 < (y1.2.2.2.1 + (0 : Int))))) : Nat) : Int))), (((((y1.2.1 + (18446744073709551616 : Int)) - y1.2.2.2.1) - (0 : Int)) % (18446744073709551616 : Int)), (y1.2.2.2.2.1, Unit.unit))))) (fun y3 => (some (y3.1, (y3.2.1, (y3.2.2.1, Unit.unit))))))
   else none))))))))
theorem f47_eq (x : gi47.D) : f47 x = evF P (T44.orc _) Go.Proofs.Try.f47.ntmps fx47 c47 (planAt 64 []) gi47 x (fnKR P Go.Proofs.Try.f47 fx47 [go47]) := by kernel_rfl
theorem f47_ok : EntOk P 47 ⟨gi47, [go47], f47⟩ :=
  ent_okR (fn := Go.Proofs.Try.f47) (gi := gi47) (gos := [go47]) (f := f47) (c := c47) (fx := fx47) ⟨Go.Proofs.Try.func47, by kernel_rfl, rfl, by decide +kernel, rfl, rfl⟩ (Table.ok T44_ok _) hmix (planAt_ok (P := P) (n := Go.Proofs.Try.f47.ntmps) (fx := fx47) (c := c47) (d := 64) (l := []) trivial) f47_eq
noncomputable def T47 : Table := T44.add 47 [⟨gi47, [go47], f47⟩] []
theorem T47_ok : TableOk P T47 := Table.plus T44_ok (es := [⟨gi47, [go47], f47⟩]) ⟨f47_ok, trivial⟩ []

/-! ## 45: erasure/matrix.reckoner$2 -/
noncomputable def c45 : Code := Func.code Go.Proofs.Try.f45
abbrev gi45 : Sg := ⟨[0, 1, 2, 3, 4, 5], [.agg [.lf (.int .i64), .lf (.int .i64)], .agg [.lf (.int .i64), .lf (.int .i64)], .agg [.lf (.int .i64), .lf (.int .i64)], .agg [.lf (.int .i64), .lf (.int .i64)], .agg [.lf (.int .i64), .lf (.int .i64)], .lf (.ptr 0 0)], [some (.box true [.lf (.fnc 44 [(.ptr 1 0)])]), some (.box true [.lf (.int .i64)])]⟩
abbrev go45 : Sg := ⟨[0], [.agg [.lf (.int .i64), .lf (.int .i64)]], [some (.box true [.lf (.fnc 44 [(.ptr 1 0)])]), some (.box true [.lf (.int .i64)])]⟩
def fx45 : List Bool := [true, true]
noncomputable def f45 (x : gi45.D) : Option go45.D :=
  (Option.bind (Go.Ev.Box.f46 (x.1, (x.2.1, (x.2.2.1, (x.2.2.2.1, Unit.unit))))) (fun y1 => (Option.bind (Go.Ev.Box.f44 (y1.1, (y1.2.1, (y1.2.2.1, (x.2.2.2.2.2.2.2.2.2.2.1, Unit.unit))))) (fun y2 => (Option.bind (Go.Ev.Box.f46 (x.2.2.2.2.1, (x.2.2.2.2.2.1, (x.2.2.2.2.2.2.1, (x.2.2.2.2.2.2.2.1, Unit.unit))))) (fun y3 => (Option.bind (Go.Ev.Box.f44 (y3.1, (y3.2.1, (y3.2.2.1, (y2.2.2.1, Unit.unit))))) (fun y4 => (Option.bind (Go.Ev.Box.f47 (y2.1, (y2.2.1, (y4.1, (y4.2.1, Unit.unit))))) (fun y5 => (Option.bind (Go.Ev.Box.f44 (y5.1, (y5.2.1, (y5.2.2.1, (y4.2.2.1, Unit.unit))))) (fun y6 => (Option.bind (Go.Ev.Box.f47 (y6.1, (y6.2.1, (x.2.2.2.2.2.2.2.2.1, (x.2.2.2.2.2.2.2.2.2.1, Unit.unit))))) (fun y7 => (Option.bind (Go.Ev.Box.f44 (y7.1, (y7.2.1, (y7.2.2.1, (y6.2.2.1, Unit.unit))))) (fun y8 => (some (y8.1, (y8.2.1, (y8.2.2.1, Unit.unit))))))))))))))))))))
theorem f45_eq (x : gi45.D) : f45 x = evF P (T47.orc _) Go.Proofs.Try.f45.ntmps fx45 c45 (planAt 64 []) gi45 x (fnKR P Go.Proofs.Try.f45 fx45 [go45]) := by kernel_rfl
theorem f45_ok : EntOk P 45 ⟨gi45, [go45], f45⟩ :=
  ent_okR (fn := Go.Proofs.Try.f45) (gi := gi45) (gos := [go45]) (f := f45) (c := c45) (fx := fx45) ⟨Go.Proofs.Try.func45, by kernel_rfl, rfl, by decide +kernel, rfl, rfl⟩ (Table.ok T47_ok _) hmix (planAt_ok (P := P) (n := Go.Proofs.Try.f45.ntmps) (fx := fx45) (c := c45) (d := 64) (l := []) trivial) f45_eq
noncomputable def T45 : Table := T47.add 45 [⟨gi45, [go45], f45⟩] []
theorem T45_ok : TableOk P T45 := Table.plus T47_ok (es := [⟨gi45, [go45], f45⟩]) ⟨f45_ok, trivial⟩ []

/-! ## 48: erasure/matrix.reckoner$3 -/
noncomputable def c48 : Code := Func.code Go.Proofs.Try.f48
abbrev gi48 : Sg := ⟨[0], [.lf (.ptr 0 0)], [some (.box true [.lf (.int .i64)])]⟩
abbrev go48 : Sg := ⟨[1], [.lf (.int .i64)], [some (.box true [.lf (.int .i64)])]⟩
def fx48 : List Bool := [true]
noncomputable def f48 (x : gi48.D) : Option go48.D :=
  (some (x.1, (x.1, Unit.unit)))
theorem f48_eq (x : gi48.D) : f48 x = evF P (T45.orc _) Go.Proofs.Try.f48.ntmps fx48 c48 (planAt 64 []) gi48 x (fnK fx48 [go48]) := by kernel_rfl
theorem f48_ok : EntOk P 48 ⟨gi48, [go48], f48⟩ :=
  ent_ok (fn := Go.Proofs.Try.f48) (gi := gi48) (gos := [go48]) (f := f48) (c := c48) (fx := fx48) ⟨Go.Proofs.Try.func48, by kernel_rfl, rfl, by decide +kernel, rfl, rfl⟩ (by kernel_rfl) (Table.ok T45_ok _) hmix (planAt_ok (P := P) (n := Go.Proofs.Try.f48.ntmps) (fx := fx48) (c := c48) (d := 64) (l := []) trivial) f48_eq
noncomputable def T48 : Table := T45.add 48 [⟨gi48, [go48], f48⟩] []
theorem T48_ok : TableOk P T48 := Table.plus T45_ok (es := [⟨gi48, [go48], f48⟩]) ⟨f48_ok, trivial⟩ []

/-! ## 19: erasure/matrix.Map -/
noncomputable def c19 : Code := Func.code Go.Proofs.Try.f19
abbrev gi19 : Sg := ⟨[0, 1], [.agg [.lf (.int .i64), .lf (.int .i64), .lf (.int .i64), .lf (.int .i64), .lf (.int .i64), .lf (.int .i64), .lf (.int .i64), .lf (.int .i64), .lf (.int .i64), .lf (.int .i64), .lf (.int .i64), .lf (.int .i64)], .agg [.lf (.int .i64), .lf (.int .i64), .lf (.int .i64), .lf (.int .i64)]], []⟩
abbrev go19 : Sg := ⟨[0, 5], [.agg [.lf (.int .i64), .lf (.int .i64), .lf (.int .i64), .lf (.int .i64)], .lf (.int .i64)], []⟩
def fx19 : List Bool := []
noncomputable def f19 (x : gi19.D) : Option go19.D :=
  (Option.bind (Go.Ev.Box.f33 (x.1, (x.2.1, (x.2.2.1, (x.2.2.2.1, (x.2.2.2.2.1, (x.2.2.2.2.2.1, (x.2.2.2.2.2.2.1, (x.2.2.2.2.2.2.2.1, (x.2.2.2.2.2.2.2.2.1, (x.2.2.2.2.2.2.2.2.2.1, (x.2.2.2.2.2.2.2.2.2.2.1, (x.2.2.2.2.2.2.2.2.2.2.2.1, Unit.unit))))))))))))) (fun y1 => (if ((y1.1 != (0 : Int)) = true) then (some ((0 : Int), ((0 : Int), ((0 : Int), ((0 : Int), ((1 : Int), Unit.unit))))))
   else (Option.bind (Go.Ev.Box.f36 ((List.take (2 : Nat) (List.drop (0 : Nat) (List.set (List.set (List.replicate (2 : Nat) ((0 : Int), (0 : Int))) (0 : Nat) (x.2.2.2.2.2.2.2.2.2.2.2.2.1, x.2.2.2.2.2.2.2.2.2.2.2.2.2.1)) (1 : Nat) (x.2.2.2.2.2.2.2.2.2.2.2.2.2.2.1, x.2.2.2.2.2.2.2.2.2.2.2.2.2.2.2.1)))), Unit.unit)) (fun y2 => (if ((Bool.not y2.1) = true) then (some ((0 : Int), ((0 : Int), ((0 : Int), ((0 : Int), ((1 : Int), Unit.unit))))))
   else (Option.bind (Go.Ev.Box.f37 Unit.unit) (fun y3 => (Option.bind (Go.Ev.Box.f45 (x.1, (x.2.1, (x.2.2.2.2.2.2.2.2.2.2.2.2.1, (x.2.2.2.2.2.2.2.2.2.2.2.2.2.1, (x.2.2.2.2.1, (x.2.2.2.2.2.1, (x.2.2.2.2.2.2.2.2.2.2.2.2.2.2.1, (x.2.2.2.2.2.2.2.2.2.2.2.2.2.2.2.1, (x.2.2.2.2.2.2.2.2.1, (x.2.2.2.2.2.2.2.2.2.1, (y3.1, Unit.unit)))))))))))) (fun y4 => (Option.bind (Go.Ev.Box.f45 (x.2.2.1, (x.2.2.2.1, (x.2.2.2.2.2.2.2.2.2.2.2.2.1, (x.2.2.2.2.2.2.2.2.2.2.2.2.2.1, (x.2.2.2.2.2.2.1, (x.2.2.2.2.2.2.2.1, (x.2.2.2.2.2.2.2.2.2.2.2.2.2.2.1, (x.2.2.2.2.2.2.2.2.2.2.2.2.2.2.2.1, (x.2.2.2.2.2.2.2.2.2.2.1, (x.2.2.2.2.2.2.2.2.2.2.2.1, (y4.2.2.1, Unit.unit)))))))))))) (fun y5 => (Option.bind (Go.Ev.Box.f48 (y5.2.2.1, Unit.unit)) (fun y6 => (if ((y6.1 != (0 : Int)) = true) then (some ((0 : Int), ((0 : Int), ((0 : Int), ((0 : Int), (y6.1, Unit.unit))))))
   else (some (y4.1, (y4.2.1, (y5.1, (y5.2.1, ((0 : Int), Unit.unit)))))))))))))))))))))
theorem f19_eq (x : gi19.D) : f19 x = evF P (T48.orc _) Go.Proofs.Try.f19.ntmps fx19 c19 (planAt 64 []) gi19 x (fnKR P Go.Proofs.Try.f19 fx19 [go19]) := by kernel_rfl
theorem f19_ok : EntOk P 19 ⟨gi19, [go19], f19⟩ :=
  ent_okR (fn := Go.Proofs.Try.f19) (gi := gi19) (gos := [go19]) (f := f19) (c := c19) (fx := fx19) ⟨Go.Proofs.Try.func19, by kernel_rfl, rfl, by decide +kernel, rfl, rfl⟩ (Table.ok T48_ok _) hmix (planAt_ok (P := P) (n := Go.Proofs.Try.f19.ntmps) (fx := fx19) (c := c19) (d := 64) (l := []) trivial) f19_eq
noncomputable def T19 : Table := T48.add 19 [⟨gi19, [go19], f19⟩] []
theorem T19_ok : TableOk P T19 := Table.plus T48_ok (es := [⟨gi19, [go19], f19⟩]) ⟨f19_ok, trivial⟩ []

/-! ## 27: erasure/box.lift -/
noncomputable def c27 : Code := Func.code Go.Proofs.Try.f27
abbrev gi27 : Sg := ⟨[0, 1], [.agg [.lf (.int .i64), .lf (.int .i64), .lf (.int .i64), .lf (.int .i64), .lf (.int .i64), .lf (.int .i64), .lf (.int .i64), .lf (.int .i64)], .agg [.lf (.int .i64), .lf (.int .i64), .lf (.int .i64), .lf (.int .i64)]], []⟩
abbrev go27 : Sg := ⟨[0], [.agg [.lf (.int .i64), .lf (.int .i64), .lf (.int .i64), .lf (.int .i64), .lf (.int .i64), .lf (.int .i64), .lf (.int .i64), .lf (.int .i64)]], []⟩
def fx27 : List Bool := []
abbrev g27_1 : Sg := ⟨[2, 3, 4], [.lf (.ptr 0 0), .lf (.ptr 1 0), .lf (.ptr 2 0)], [some (.box true [.lf (.int .i64), .lf (.int .i64), .lf (.int .i64), .lf (.int .i64), .lf (.int .i64), .lf (.int .i64), .lf (.int .i64), .lf (.int .i64)]), some (.box true [.lf (.int .i64), .lf (.int .i64), .lf (.int .i64), .lf (.int .i64)]), some (.box true [.lf (.int .i64), .lf (.int .i64), .lf (.int .i64), .lf (.int .i64), .lf (.int .i64), .lf (.int .i64), .lf (.int .i64), .lf (.int .i64)])]⟩
abbrev o27_1 : Outs := [(.normal, ⟨[2, 3, 4], [.lf (.ptr 0 0), .lf (.ptr 1 0), .lf (.ptr 2 0)], [some (.box true [.lf (.int .i64), .lf (.int .i64), .lf (.int .i64), .lf (.int .i64), .lf (.int .i64), .lf (.int .i64), .lf (.int .i64), .lf (.int .i64)]), some (.box true [.lf (.int .i64), .lf (.int .i64), .lf (.int .i64), .lf (.int .i64)]), some (.box true [.lf (.int .i64), .lf (.int .i64), .lf (.int .i64), .lf (.int .i64), .lf (.int .i64), .lf (.int .i64), .lf (.int .i64), .lf (.int .i64)])]⟩)]
noncomputable def b27_1 (x : g27_1.D) : Option (outD o27_1) :=
  (Option.bind (Go.Ev.Box.f20 (x.1, (x.2.1, (x.2.2.2.2.2.2.2.2.1, (x.2.2.2.2.2.2.2.2.2.1, Unit.unit))))) (fun y1 => (if (y1.1 = true) then (some (Sum.inl (x.2.2.2.2.2.2.2.2.1, (x.2.2.2.2.2.2.2.2.2.1, (x.2.2.1, (x.2.2.2.1, (x.2.2.2.2.1, (x.2.2.2.2.2.1, (x.2.2.2.2.2.2.1, (x.2.2.2.2.2.2.2.1, (x.2.2.2.2.2.2.2.2.1, (x.2.2.2.2.2.2.2.2.2.1, (x.2.2.2.2.2.2.2.2.2.2.1, (x.2.2.2.2.2.2.2.2.2.2.2.1, (x.2.2.2.2.2.2.2.2.2.2.2.2.1, (x.2.2.2.2.2.2.2.2.2.2.2.2.2.1, (x.2.2.2.2.2.2.2.2.2.2.2.2.2.2.1, (x.2.2.2.2.2.2.2.2.2.2.2.2.2.2.2.1, (x.2.2.2.2.2.2.2.2.2.2.2.2.2.2.2.2.1, (x.2.2.2.2.2.2.2.2.2.2.2.2.2.2.2.2.2.1, (x.2.2.2.2.2.2.2.2.2.2.2.2.2.2.2.2.2.2.1, (x.2.2.2.2.2.2.2.2.2.2.2.2.2.2.2.2.2.2.2.1, Unit.unit))))))))))))))))))))))
   else (some (Sum.inl (x.1, (x.2.1, (x.2.2.1, (x.2.2.2.1, (x.2.2.2.2.1, (x.2.2.2.2.2.1, (x.2.2.2.2.2.2.1, (x.2.2.2.2.2.2.2.1, (x.2.2.2.2.2.2.2.2.1, (x.2.2.2.2.2.2.2.2.2.1, (x.2.2.2.2.2.2.2.2.2.2.1, (x.2.2.2.2.2.2.2.2.2.2.2.1, (x.2.2.2.2.2.2.2.2.2.2.2.2.1, (x.2.2.2.2.2.2.2.2.2.2.2.2.2.1, (x.2.2.2.2.2.2.2.2.2.2.2.2.2.2.1, (x.2.2.2.2.2.2.2.2.2.2.2.2.2.2.2.1, (x.2.2.2.2.2.2.2.2.2.2.2.2.2.2.2.2.1, (x.2.2.2.2.2.2.2.2.2.2.2.2.2.2.2.2.2.1, (x.2.2.2.2.2.2.2.2.2.2.2.2.2.2.2.2.2.2.1, (x.2.2.2.2.2.2.2.2.2.2.2.2.2.2.2.2.2.2.2.1, Unit.unit)))))))))))))))))))))))))
theorem b27_1_eq (x : g27_1.D) : b27_1 x = evF P (T19.orc _) Go.Proofs.Try.f27.ntmps fx27 (Code.at [true, false] c27) (planAt 64 []) g27_1 x (injK fx27 o27_1 some) := by kernel_rfl
theorem s27_1_ok : SubOk P Go.Proofs.Try.f27.ntmps fx27 (Code.at [true, false] c27) ⟨g27_1, o27_1, b27_1⟩ :=
  sub_ok (g := g27_1) (outs := o27_1) (f := b27_1) (Table.ok T19_ok _) hmix (planAt_ok (P := P) (n := Go.Proofs.Try.f27.ntmps) (fx := fx27) (c := (Code.at [true, false] c27)) (d := 64) (l := []) trivial) b27_1_eq
noncomputable def f27 (x : gi27.D) : Option go27.D :=
  (Option.bind (Go.Ev.Box.b27_1 (x.1, (x.2.1, (x.2.2.1, (x.2.2.2.1, (x.2.2.2.2.1, (x.2.2.2.2.2.1, (x.2.2.2.2.2.2.1, (x.2.2.2.2.2.2.2.1, (x.2.2.2.2.2.2.2.2.1, (x.2.2.2.2.2.2.2.2.2.1, (x.2.2.2.2.2.2.2.2.2.2.1, (x.2.2.2.2.2.2.2.2.2.2.2.1, ((0 : Int), ((0 : Int), ((0 : Int), ((0 : Int), ((0 : Int), ((0 : Int), ((0 : Int), ((0 : Int), Unit.unit))))))))))))))))))))) (Sum.elim (fun y1 => (Option.bind (Go.Ev.Box.f20 (y1.2.2.2.2.2.2.2.2.1, (y1.2.2.2.2.2.2.2.2.2.1, (y1.2.2.2.2.1, (y1.2.2.2.2.2.1, Unit.unit))))) (fun y2 => (if (y2.1 = true) then (Option.bind (Go.Ev.Box.f20 (y1.2.2.1, (y1.2.2.2.1, (y1.2.2.2.2.2.2.2.2.2.2.1, (y1.2.2.2.2.2.2.2.2.2.2.2.1, Unit.unit))))) (fun y3 => (if (y3.1 = true) then (Option.bind (Go.Ev.Box.f20 (y1.2.2.2.2.2.2.2.2.2.2.1, (y1.2.2.2.2.2.2.2.2.2.2.2.1, (y1.2.2.2.2.2.2.1, (y1.2.2.2.2.2.2.2.1, Unit.unit))))) (fun y4 => (if (y4.1 = true) then (some (y1.1, (y1.2.1, (y1.2.2.2.2.2.2.2.2.2.2.1, (y1.2.2.2.2.2.2.2.2.2.2.2.1, (y1.2.2.2.2.2.2.2.2.1, (y1.2.2.2.2.2.2.2.2.2.1, (y1.2.2.2.2.2.2.2.2.2.2.1, (y1.2.2.2.2.2.2.2.2.2.2.2.1, Unit.unit)))))))))
   else (some (y1.1, (y1.2.1, (y1.2.2.2.2.2.2.2.2.2.2.1, (y1.2.2.2.2.2.2.2.2.2.2.2.1, (y1.2.2.2.2.2.2.2.2.1, (y1.2.2.2.2.2.2.2.2.2.1, (y1.2.2.2.2.2.2.1, (y1.2.2.2.2.2.2.2.1, Unit.unit))))))))))))
   else (Option.bind (Go.Ev.Box.f20 (y1.2.2.2.2.2.2.2.2.2.2.1, (y1.2.2.2.2.2.2.2.2.2.2.2.1, (y1.2.2.2.2.2.2.1, (y1.2.2.2.2.2.2.2.1, Unit.unit))))) (fun y4 => (if (y4.1 = true) then (some (y1.1, (y1.2.1, (y1.2.2.1, (y1.2.2.2.1, (y1.2.2.2.2.2.2.2.2.1, (y1.2.2.2.2.2.2.2.2.2.1, (y1.2.2.2.2.2.2.2.2.2.2.1, (y1.2.2.2.2.2.2.2.2.2.2.2.1, Unit.unit)))))))))
   else (some (y1.1, (y1.2.1, (y1.2.2.1, (y1.2.2.2.1, (y1.2.2.2.2.2.2.2.2.1, (y1.2.2.2.2.2.2.2.2.2.1, (y1.2.2.2.2.2.2.1, (y1.2.2.2.2.2.2.2.1, Unit.unit)))))))))))))))
   else (Option.bind (Go.Ev.Box.f20 (y1.2.2.1, (y1.2.2.2.1, (y1.2.2.2.2.2.2.2.2.2.2.1, (y1.2.2.2.2.2.2.2.2.2.2.2.1, Unit.unit))))) (fun y3 => (if (y3.1 = true) then (Option.bind (Go.Ev.Box.f20 (y1.2.2.2.2.2.2.2.2.2.2.1, (y1.2.2.2.2.2.2.2.2.2.2.2.1, (y1.2.2.2.2.2.2.1, (y1.2.2.2.2.2.2.2.1, Unit.unit))))) (fun y4 => (if (y4.1 = true) then (some (y1.1, (y1.2.1, (y1.2.2.2.2.2.2.2.2.2.2.1, (y1.2.2.2.2.2.2.2.2.2.2.2.1, (y1.2.2.2.2.1, (y1.2.2.2.2.2.1, (y1.2.2.2.2.2.2.2.2.2.2.1, (y1.2.2.2.2.2.2.2.2.2.2.2.1, Unit.unit)))))))))
   else (some (y1.1, (y1.2.1, (y1.2.2.2.2.2.2.2.2.2.2.1, (y1.2.2.2.2.2.2.2.2.2.2.2.1, (y1.2.2.2.2.1, (y1.2.2.2.2.2.1, (y1.2.2.2.2.2.2.1, (y1.2.2.2.2.2.2.2.1, Unit.unit))))))))))))
   else (Option.bind (Go.Ev.Box.f20 (y1.2.2.2.2.2.2.2.2.2.2.1, (y1.2.2.2.2.2.2.2.2.2.2.2.1, (y1.2.2.2.2.2.2.1, (y1.2.2.2.2.2.2.2.1, Unit.unit))))) (fun y4 => (if (y4.1 = true) then (some (y1.1, (y1.2.1, (y1.2.2.1, (y1.2.2.2.1, (y1.2.2.2.2.1, (y1.2.2.2.2.2.1, (y1.2.2.2.2.2.2.2.2.2.2.1, (y1.2.2.2.2.2.2.2.2.2.2.2.1, Unit.unit)))))))))
   else (some (y1.1, (y1.2.1, (y1.2.2.1, (y1.2.2.2.1, (y1.2.2.2.2.1, (y1.2.2.2.2.2.1, (y1.2.2.2.2.2.2.1, (y1.2.2.2.2.2.2.2.1, Unit.unit))))))))))))))))))) Empty.elim))
theorem f27_eq (x : gi27.D) : f27 x = evF P (T19.orc _) Go.Proofs.Try.f27.ntmps fx27 c27 (planAt 64 [([true, false], ⟨g27_1, o27_1, b27_1⟩)]) gi27 x (fnKR P Go.Proofs.Try.f27 fx27 [go27]) := by kernel_rfl
theorem pf27 : AllSub P Go.Proofs.Try.f27.ntmps fx27 c27 [([true, false], ⟨g27_1, o27_1, b27_1⟩)] := And.intro s27_1_ok (trivial)
theorem qf27 : PlanOk P Go.Proofs.Try.f27.ntmps fx27 (planAt 64 [([true, false], ⟨g27_1, o27_1, b27_1⟩)]) c27 := planAt_ok pf27
theorem f27_ok : EntOk P 27 ⟨gi27, [go27], f27⟩ :=
  ent_okR (fn := Go.Proofs.Try.f27) (gi := gi27) (gos := [go27]) (f := f27) (c := c27) (fx := fx27) ⟨Go.Proofs.Try.func27, by kernel_rfl, rfl, by decide +kernel, rfl, rfl⟩ (Table.ok T19_ok _) hmix (qf27) f27_eq
noncomputable def T27 : Table := T19.add 27 [⟨gi27, [go27], f27⟩] []
theorem T27_ok : TableOk P T27 := Table.plus T19_ok (es := [⟨gi27, [go27], f27⟩]) ⟨f27_ok, trivial⟩ []

/-! ## 11: erasure/box.Of -/
noncomputable def c11 : Code := Func.code Go.Proofs.Try.f11
abbrev gi11 : Sg := ⟨[0], [.lf (.sl (.pair (.pair (.int .i64) (.int .i64)) (.pair (.int .i64) (.int .i64))))], []⟩
abbrev go11 : Sg := ⟨[0, 3], [.agg [.lf (.int .i64), .lf (.int .i64), .lf (.int .i64), .lf (.int .i64), .lf (.int .i64), .lf (.int .i64), .lf (.int .i64), .lf (.int .i64)], .lf (.int .i64)], []⟩
def fx11 : List Bool := []
abbrev g11_2 : Sg := ⟨[2, 6, 48, 49, 50], [.lf (.ptr 0 0), .lf (.ptr 1 0), .lf (.sl (.pair (.pair (.int .i64) (.int .i64)) (.pair (.int .i64) (.int .i64)))), .lf (.int .i64), .lf (.int .i64)], [some (.box true [.lf (.int .i64), .lf (.int .i64), .lf (.int .i64), .lf (.int .i64), .lf (.int .i64), .lf (.int .i64), .lf (.int .i64), .lf (.int .i64)]), some (.box true [.lf (.int .i64), .lf (.int .i64), .lf (.int .i64), .lf (.int .i64), .lf (.int .i64), .lf (.int .i64), .lf (.int .i64), .lf (.int .i64)])]⟩
abbrev o11_2 : Outs := [(.exit 2, ⟨[2, 6], [.lf (.ptr 0 0), .lf (.ptr 1 0)], [some (.box true [.lf (.int .i64), .lf (.int .i64), .lf (.int .i64), .lf (.int .i64), .lf (.int .i64), .lf (.int .i64), .lf (.int .i64), .lf (.int .i64)]), some (.box true [.lf (.int .i64), .lf (.int .i64), .lf (.int .i64), .lf (.int .i64), .lf (.int .i64), .lf (.int .i64), .lf (.int .i64), .lf (.int .i64)])]⟩)]
noncomputable def b11_2 (x : g11_2.D) : Option (outD ((.normal, g11_2) :: o11_2)) :=
  (if ((decide (x.2.2.1 < x.2.1)) = true) then (if ((0 : Int) ≤ x.2.2.1) then (if (x.2.2.1 < (((List.length x.1) : Nat) : Int)) then (Option.bind (Go.Ev.Box.f27 (x.2.2.2.2.2.2.2.2.2.2.2.1, (x.2.2.2.2.2.2.2.2.2.2.2.2.1, (x.2.2.2.2.2.2.2.2.2.2.2.2.2.1, (x.2.2.2.2.2.2.2.2.2.2.2.2.2.2.1, (x.2.2.2.2.2.2.2.2.2.2.2.2.2.2.2.1, (x.2.2.2.2.2.2.2.2.2.2.2.2.2.2.2.2.1, (x.2.2.2.2.2.2.2.2.2.2.2.2.2.2.2.2.2.1, (x.2.2.2.2.2.2.2.2.2.2.2.2.2.2.2.2.2.2.1, ((List.getD x.1 (Int.toNat x.2.2.1) (((0 : Int), (0 : Int)), ((0 : Int), (0 : Int)))).1.1, ((List.getD x.1 (Int.toNat x.2.2.1) (((0 : Int), (0 : Int)), ((0 : Int), (0 : Int)))).1.2, ((List.getD x.1 (Int.toNat x.2.2.1) (((0 : Int), (0 : Int)), ((0 : Int), (0 : Int)))).2.1, ((List.getD x.1 (Int.toNat x.2.2.1) (((0 : Int), (0 : Int)), ((0 : Int), (0 : Int)))).2.2, Unit.unit))))))))))))) (fun y1 => (some (Sum.inl (x.1, (x.2.1, ((Go.IntKind.wrap Go.IntKind.i64 (x.2.2.1 + (1 : Int))), (x.2.2.2.1, (x.2.2.2.2.1, (x.2.2.2.2.2.1, (x.2.2.2.2.2.2.1, (x.2.2.2.2.2.2.2.1, (x.2.2.2.2.2.2.2.2.1, (x.2.2.2.2.2.2.2.2.2.1, (x.2.2.2.2.2.2.2.2.2.2.1, (y1.1, (y1.2.1, (y1.2.2.1, (y1.2.2.2.1, (y1.2.2.2.2.1, (y1.2.2.2.2.2.1, (y1.2.2.2.2.2.2.1, (y1.2.2.2.2.2.2.2.1, Unit.unit)))))))))))))))))))))))
   else none)
   else none)
   else (some (Sum.inr (Sum.inl (x.2.2.2.1, (x.2.2.2.2.1, (x.2.2.2.2.2.1, (x.2.2.2.2.2.2.1, (x.2.2.2.2.2.2.2.1, (x.2.2.2.2.2.2.2.2.1, (x.2.2.2.2.2.2.2.2.2.1, (x.2.2.2.2.2.2.2.2.2.2.1, (x.2.2.2.2.2.2.2.2.2.2.2.1, (x.2.2.2.2.2.2.2.2.2.2.2.2.1, (x.2.2.2.2.2.2.2.2.2.2.2.2.2.1, (x.2.2.2.2.2.2.2.2.2.2.2.2.2.2.1, (x.2.2.2.2.2.2.2.2.2.2.2.2.2.2.2.1, (x.2.2.2.2.2.2.2.2.2.2.2.2.2.2.2.2.1, (x.2.2.2.2.2.2.2.2.2.2.2.2.2.2.2.2.2.1, (x.2.2.2.2.2.2.2.2.2.2.2.2.2.2.2.2.2.2.1, Unit.unit))))))))))))))))))))
theorem b11_2_eq (x : g11_2.D) : b11_2 x = evF P (T27.orc _) Go.Proofs.Try.f11.ntmps fx11 (Code.at [true, true, true, true, false, true, false, false] c11) (planAt 64 []) g11_2 x (injK fx11 ((.normal, g11_2) :: o11_2) some) := by kernel_rfl
noncomputable def l11_2 : g11_2.D → Option (outD o11_2) := loopN g11_2 o11_2 b11_2 18446744073709551616
theorem at11_2 : Code.at [true, true, true, true, false, true, false] c11 = .loop (Code.at [true, true, true, true, false, true, false, false] c11) := by kernel_rfl
theorem s11_2_ok : SubOk P Go.Proofs.Try.f11.ntmps fx11 (Code.at [true, true, true, true, false, true, false] c11) ⟨g11_2, o11_2, l11_2⟩ := by
  rw [at11_2]
  exact loop_ok (sub_ok (g := g11_2) (outs := ((.normal, g11_2) :: o11_2)) (f := b11_2) (Table.ok T27_ok _) hmix (planAt_ok (P := P) (n := Go.Proofs.Try.f11.ntmps) (fx := fx11) (c := (Code.at [true, true, true, true, false, true, false, false] c11)) (d := 64) (l := []) trivial) b11_2_eq) rfl _
abbrev g11_1 : Sg := ⟨[0, 2, 13, 14, 15], [.lf (.sl (.pair (.pair (.int .i64) (.int .i64)) (.pair (.int .i64) (.int .i64)))), .lf (.ptr 0 0), .lf (.sl (.pair (.pair (.int .i64) (.int .i64)) (.pair (.int .i64) (.int .i64)))), .lf (.int .i64), .lf (.int .i64)], [some (.box true [.lf (.int .i64), .lf (.int .i64), .lf (.int .i64), .lf (.int .i64), .lf (.int .i64), .lf (.int .i64), .lf (.int .i64), .lf (.int .i64)])]⟩
abbrev o11_1 : Outs := [(.exit 0, ⟨[0, 2], [.lf (.sl (.pair (.pair (.int .i64) (.int .i64)) (.pair (.int .i64) (.int .i64)))), .lf (.ptr 0 0)], [some (.box true [.lf (.int .i64), .lf (.int .i64), .lf (.int .i64), .lf (.int .i64), .lf (.int .i64), .lf (.int .i64), .lf (.int .i64), .lf (.int .i64)])]⟩), (.ret, ⟨[2, 3], [.lf (.ptr 0 0), .lf (.int .i64)], [some (.box true [.lf (.int .i64), .lf (.int .i64), .lf (.int .i64), .lf (.int .i64), .lf (.int .i64), .lf (.int .i64), .lf (.int .i64), .lf (.int .i64)])]⟩)]
noncomputable def b11_1 (x : g11_1.D) : Option (outD ((.normal, g11_1) :: o11_1)) :=
  (if ((decide (x.2.2.2.1 < x.2.2.1)) = true) then (if ((0 : Int) ≤ x.2.2.2.1) then (if (x.2.2.2.1 < (((List.length x.2.1) : Nat) : Int)) then (Option.bind (Go.Ev.Box.f23 ((List.getD x.2.1 (Int.toNat x.2.2.2.1) (((0 : Int), (0 : Int)), ((0 : Int), (0 : Int)))).1.1, ((List.getD x.2.1 (Int.toNat x.2.2.2.1) (((0 : Int), (0 : Int)), ((0 : Int), (0 : Int)))).1.2, Unit.unit))) (fun y1 => (if ((y1.1 != (0 : Int)) = true) then (some (Sum.inr (Sum.inr (Sum.inl ((1 : Int), ((0 : Int), ((0 : Int), ((0 : Int), ((0 : Int), ((0 : Int), ((0 : Int), ((0 : Int), ((0 : Int), Unit.unit)))))))))))))
   else (Option.bind (Go.Ev.Box.f23 ((List.getD x.2.1 (Int.toNat x.2.2.2.1) (((0 : Int), (0 : Int)), ((0 : Int), (0 : Int)))).2.1, ((List.getD x.2.1 (Int.toNat x.2.2.2.1) (((0 : Int), (0 : Int)), ((0 : Int), (0 : Int)))).2.2, Unit.unit))) (fun y2 => (if ((y2.1 != (0 : Int)) = true) then (some (Sum.inr (Sum.inr (Sum.inl ((1 : Int), ((0 : Int), ((0 : Int), ((0 : Int), ((0 : Int), ((0 : Int), ((0 : Int), ((0 : Int), ((0 : Int), Unit.unit)))))))))))))
   else (some (Sum.inl (x.1, (x.2.1, (x.2.2.1, ((Go.IntKind.wrap Go.IntKind.i64 (x.2.2.2.1 + (1 : Int))), (x.2.2.2.2.1, (x.2.2.2.2.2.1, (x.2.2.2.2.2.2.1, (x.2.2.2.2.2.2.2.1, (x.2.2.2.2.2.2.2.2.1, (x.2.2.2.2.2.2.2.2.2.1, (x.2.2.2.2.2.2.2.2.2.2.1, (x.2.2.2.2.2.2.2.2.2.2.2.1, Unit.unit))))))))))))))))))))
   else none)
   else none)
   else (some (Sum.inr (Sum.inl (x.1, (x.2.2.2.2.1, (x.2.2.2.2.2.1, (x.2.2.2.2.2.2.1, (x.2.2.2.2.2.2.2.1, (x.2.2.2.2.2.2.2.2.1, (x.2.2.2.2.2.2.2.2.2.1, (x.2.2.2.2.2.2.2.2.2.2.1, (x.2.2.2.2.2.2.2.2.2.2.2.1, Unit.unit)))))))))))))
theorem b11_1_eq (x : g11_1.D) : b11_1 x = evF P (T27.orc _) Go.Proofs.Try.f11.ntmps fx11 (Code.at [true, true, false, true, false, false] c11) (planAt 64 []) g11_1 x (injK fx11 ((.normal, g11_1) :: o11_1) some) := by kernel_rfl
noncomputable def l11_1 : g11_1.D → Option (outD o11_1) := loopN g11_1 o11_1 b11_1 18446744073709551616
theorem at11_1 : Code.at [true, true, false, true, false] c11 = .loop (Code.at [true, true, false, true, false, false] c11) := by kernel_rfl
theorem s11_1_ok : SubOk P Go.Proofs.Try.f11.ntmps fx11 (Code.at [true, true, false, true, false] c11) ⟨g11_1, o11_1, l11_1⟩ := by
  rw [at11_1]
  exact loop_ok (sub_ok (g := g11_1) (outs := ((.normal, g11_1) :: o11_1)) (f := b11_1) (Table.ok T27_ok _) hmix (planAt_ok (P := P) (n := Go.Proofs.Try.f11.ntmps) (fx := fx11) (c := (Code.at [true, true, false, true, false, false] c11)) (d := 64) (l := []) trivial) b11_1_eq) rfl _
noncomputable def f11 (x : gi11.D) : Option go11.D :=
  (if (((((List.length x.1) : Nat) : Int) == (0 : Int)) = true) then (some ((0 : Int), ((0 : Int), ((0 : Int), ((0 : Int), ((0 : Int), ((0 : Int), ((0 : Int), ((0 : Int), ((8 : Int), Unit.unit))))))))))
   else (Option.bind (Go.Ev.Box.l11_1 (x.1, (x.1, ((((List.length x.1) : Nat) : Int), ((0 : Int), ((0 : Int), ((0 : Int), ((0 : Int), ((0 : Int), ((0 : Int), ((0 : Int), ((0 : Int), ((0 : Int), Unit.unit))))))))))))) (Sum.elim (fun y1 => (if ((0 : Int) < (((List.length y1.1) : Nat) : Int)) then (if ((0 : Int) < (((List.length y1.1) : Nat) : Int)) then (if ((0 : Int) < (((List.length y1.1) : Nat) : Int)) then (if ((0 : Int) < (((List.length y1.1) : Nat) : Int)) then (Option.bind (Go.Ev.Box.l11_2 (y1.1, ((((List.length y1.1) : Nat) : Int), ((0 : Int), (y1.2.1, (y1.2.2.1, (y1.2.2.2.1, (y1.2.2.2.2.1, (y1.2.2.2.2.2.1, (y1.2.2.2.2.2.2.1, (y1.2.2.2.2.2.2.2.1, (y1.2.2.2.2.2.2.2.2.1, ((List.getD y1.1 (0 : Nat) (((0 : Int), (0 : Int)), ((0 : Int), (0 : Int)))).1.1, ((List.getD y1.1 (0 : Nat) (((0 : Int), (0 : Int)), ((0 : Int), (0 : Int)))).1.2, ((List.getD y1.1 (0 : Nat) (((0 : Int), (0 : Int)), ((0 : Int), (0 : Int)))).2.1, ((List.getD y1.1 (0 : Nat) (((0 : Int), (0 : Int)), ((0 : Int), (0 : Int)))).2.2, ((List.getD y1.1 (0 : Nat) (((0 : Int), (0 : Int)), ((0 : Int), (0 : Int)))).1.1, ((List.getD y1.1 (0 : Nat) (((0 : Int), (0 : Int)), ((0 : Int), (0 : Int)))).1.2, ((List.getD y1.1 (0 : Nat) (((0 : Int), (0 : Int)), ((0 : Int), (0 : Int)))).2.1, ((List.getD y1.1 (0 : Nat) (((0 : Int), (0 : Int)), ((0 : Int), (0 : Int)))).2.2, Unit.unit)))))))))))))))))))) (Sum.elim (fun y2 => (some (y2.2.2.2.2.2.2.2.2.1, (y2.2.2.2.2.2.2.2.2.2.1, (y2.2.2.2.2.2.2.2.2.2.2.1, (y2.2.2.2.2.2.2.2.2.2.2.2.1, (y2.2.2.2.2.2.2.2.2.2.2.2.2.1, (y2.2.2.2.2.2.2.2.2.2.2.2.2.2.1, (y2.2.2.2.2.2.2.2.2.2.2.2.2.2.2.1, (y2.2.2.2.2.2.2.2.2.2.2.2.2.2.2.2.1, ((0 : Int), Unit.unit))))))))))) Empty.elim))
   else none)
   else none)
   else none)
   else none)) (Sum.elim (fun y1 => (some (y1.2.1, (y1.2.2.1, (y1.2.2.2.1, (y1.2.2.2.2.1, (y1.2.2.2.2.2.1, (y1.2.2.2.2.2.2.1, (y1.2.2.2.2.2.2.2.1, (y1.2.2.2.2.2.2.2.2.1, (y1.1, Unit.unit))))))))))) Empty.elim))))
theorem f11_eq (x : gi11.D) : f11 x = evF P (T27.orc _) Go.Proofs.Try.f11.ntmps fx11 c11 (planAt 64 [([true, true, false, true, false], ⟨g11_1, o11_1, l11_1⟩), ([true, true, true, true, false, true, false], ⟨g11_2, o11_2, l11_2⟩)]) gi11 x (fnKR P Go.Proofs.Try.f11 fx11 [go11]) := by kernel_rfl
theorem pf11 : AllSub P Go.Proofs.Try.f11.ntmps fx11 c11 [([true, true, false, true, false], ⟨g11_1, o11_1, l11_1⟩), ([true, true, true, true, false, true, false], ⟨g11_2, o11_2, l11_2⟩)] := And.intro s11_1_ok (And.intro s11_2_ok (trivial))
theorem qf11 : PlanOk P Go.Proofs.Try.f11.ntmps fx11 (planAt 64 [([true, true, false, true, false], ⟨g11_1, o11_1, l11_1⟩), ([true, true, true, true, false, true, false], ⟨g11_2, o11_2, l11_2⟩)]) c11 := planAt_ok pf11
theorem f11_ok : EntOk P 11 ⟨gi11, [go11], f11⟩ :=
  ent_okR (fn := Go.Proofs.Try.f11) (gi := gi11) (gos := [go11]) (f := f11) (c := c11) (fx := fx11) ⟨Go.Proofs.Try.func11, by kernel_rfl, rfl, by decide +kernel, rfl, rfl⟩ (Table.ok T27_ok _) hmix (qf11) f11_eq
noncomputable def T11 : Table := T27.add 11 [⟨gi11, [go11], f11⟩] []
theorem T11_ok : TableOk P T11 := Table.plus T27_ok (es := [⟨gi11, [go11], f11⟩]) ⟨f11_ok, trivial⟩ []

/-! ## 16: erasure/box.Map -/
noncomputable def c16 : Code := Func.code Go.Proofs.Try.f16
abbrev gi16 : Sg := ⟨[0, 1], [.agg [.lf (.int .i64), .lf (.int .i64), .lf (.int .i64), .lf (.int .i64), .lf (.int .i64), .lf (.int .i64), .lf (.int .i64), .lf (.int .i64), .lf (.int .i64), .lf (.int .i64), .lf (.int .i64), .lf (.int .i64)], .agg [.lf (.int .i64), .lf (.int .i64), .lf (.int .i64), .lf (.int .i64), .lf (.int .i64), .lf (.int .i64), .lf (.int .i64), .lf (.int .i64)]], []⟩
abbrev go16 : Sg := ⟨[0, 5], [.agg [.lf (.int .i64), .lf (.int .i64), .lf (.int .i64), .lf (.int .i64), .lf (.int .i64), .lf (.int .i64), .lf (.int .i64), .lf (.int .i64)], .lf (.int .i64)], []⟩
def fx16 : List Bool := []
abbrev g16_1 : Sg := ⟨[2, 4, 7, 27, 28], [.lf (.ptr 0 0), .lf (.ptr 1 0), .lf (.gr (.pair (.pair (.int .i64) (.int .i64)) (.pair (.int .i64) (.int .i64))) 2), .agg [.many (.pair (.pair (.int .i64) (.int .i64)) (.pair (.int .i64) (.int .i64))) 4], .lf (.int .i64)], [some (.box true [.lf (.int .i64), .lf (.int .i64), .lf (.int .i64), .lf (.int .i64), .lf (.int .i64), .lf (.int .i64), .lf (.int .i64), .lf (.int .i64), .lf (.int .i64), .lf (.int .i64), .lf (.int .i64), .lf (.int .i64)]), some (.box true [.lf (.int .i64), .lf (.int .i64), .lf (.int .i64), .lf (.int .i64), .lf (.int .i64), .lf (.int .i64), .lf (.int .i64), .lf (.int .i64)]), some (.arr true (.pair (.pair (.int .i64) (.int .i64)) (.pair (.int .i64) (.int .i64))))]⟩
abbrev o16_1 : Outs := [(.exit 0, ⟨[4, 7], [.lf (.ptr 0 0), .lf (.gr (.pair (.pair (.int .i64) (.int .i64)) (.pair (.int .i64) (.int .i64))) 1)], [some (.box true [.lf (.int .i64), .lf (.int .i64), .lf (.int .i64), .lf (.int .i64), .lf (.int .i64), .lf (.int .i64), .lf (.int .i64), .lf (.int .i64)]), some (.arr true (.pair (.pair (.int .i64) (.int .i64)) (.pair (.int .i64) (.int .i64))))]⟩), (.ret, ⟨[4, 5], [.lf (.ptr 0 0), .lf (.int .i64)], [some (.box true [.lf (.int .i64), .lf (.int .i64), .lf (.int .i64), .lf (.int .i64), .lf (.int .i64), .lf (.int .i64), .lf (.int .i64), .lf (.int .i64)])]⟩)]
noncomputable def b16_1 (x : g16_1.D) : Option (outD ((.normal, g16_1) :: o16_1)) :=
  (if ((decide (x.2.1 < (4 : Int))) = true) then (if ((0 : Int) ≤ x.2.1) then (if (x.2.1 < (4 : Int)) then (Option.bind (Go.Ev.Box.f19 (x.2.2.1, (x.2.2.2.1, (x.2.2.2.2.1, (x.2.2.2.2.2.1, (x.2.2.2.2.2.2.1, (x.2.2.2.2.2.2.2.1, (x.2.2.2.2.2.2.2.2.1, (x.2.2.2.2.2.2.2.2.2.1, (x.2.2.2.2.2.2.2.2.2.2.1, (x.2.2.2.2.2.2.2.2.2.2.2.1, (x.2.2.2.2.2.2.2.2.2.2.2.2.1, (x.2.2.2.2.2.2.2.2.2.2.2.2.2.1, ((List.getD x.1 (Int.toNat x.2.1) (((0 : Int), (0 : Int)), ((0 : Int), (0 : Int)))).1.1, ((List.getD x.1 (Int.toNat x.2.1) (((0 : Int), (0 : Int)), ((0 : Int), (0 : Int)))).1.2, ((List.getD x.1 (Int.toNat x.2.1) (((0 : Int), (0 : Int)), ((0 : Int), (0 : Int)))).2.1, ((List.getD x.1 (Int.toNat x.2.1) (((0 : Int), (0 : Int)), ((0 : Int), (0 : Int)))).2.2, Unit.unit))))))))))))))))) (fun y1 => (if ((y1.2.2.2.2.1 != (0 : Int)) = true) then (some (Sum.inr (Sum.inr (Sum.inl (y1.2.2.2.2.1, ((0 : Int), ((0 : Int), ((0 : Int), ((0 : Int), ((0 : Int), ((0 : Int), ((0 : Int), ((0 : Int), Unit.unit)))))))))))))
   else (if ((0 : Int) ≤ x.2.1) then (if (x.2.1 < (((List.length x.2.2.2.2.2.2.2.2.2.2.2.2.2.2.2.2.2.2.2.2.2.2.1) : Nat) : Int)) then (if ((List.length x.2.2.2.2.2.2.2.2.2.2.2.2.2.2.2.2.2.2.2.2.2.2.1) = (List.length (List.set x.2.2.2.2.2.2.2.2.2.2.2.2.2.2.2.2.2.2.2.2.2.2.1 ((0 : Nat) + (Int.toNat x.2.1)) ((y1.1, y1.2.1), (y1.2.2.1, y1.2.2.2.1))))) then (some (Sum.inl (x.1, ((Go.IntKind.wrap Go.IntKind.i64 (x.2.1 + (1 : Int))), (x.2.2.1, (x.2.2.2.1, (x.2.2.2.2.1, (x.2.2.2.2.2.1, (x.2.2.2.2.2.2.1, (x.2.2.2.2.2.2.2.1, (x.2.2.2.2.2.2.2.2.1, (x.2.2.2.2.2.2.2.2.2.1, (x.2.2.2.2.2.2.2.2.2.2.1, (x.2.2.2.2.2.2.2.2.2.2.2.1, (x.2.2.2.2.2.2.2.2.2.2.2.2.1, (x.2.2.2.2.2.2.2.2.2.2.2.2.2.1, (x.2.2.2.2.2.2.2.2.2.2.2.2.2.2.1, (x.2.2.2.2.2.2.2.2.2.2.2.2.2.2.2.1, (x.2.2.2.2.2.2.2.2.2.2.2.2.2.2.2.2.1, (x.2.2.2.2.2.2.2.2.2.2.2.2.2.2.2.2.2.1, (x.2.2.2.2.2.2.2.2.2.2.2.2.2.2.2.2.2.2.1, (x.2.2.2.2.2.2.2.2.2.2.2.2.2.2.2.2.2.2.2.1, (x.2.2.2.2.2.2.2.2.2.2.2.2.2.2.2.2.2.2.2.2.1, (x.2.2.2.2.2.2.2.2.2.2.2.2.2.2.2.2.2.2.2.2.2.1, ((List.set x.2.2.2.2.2.2.2.2.2.2.2.2.2.2.2.2.2.2.2.2.2.2.1 ((0 : Nat) + (Int.toNat x.2.1)) ((y1.1, y1.2.1), (y1.2.2.1, y1.2.2.2.1))), Unit.unit)))))))))))))))))))))))))
   else none)
   else none)
   else none))))
   else none)
   else none)
   else (if ((List.length x.2.2.2.2.2.2.2.2.2.2.2.2.2.2.2.2.2.2.2.2.2.2.1) = (List.length x.2.2.2.2.2.2.2.2.2.2.2.2.2.2.2.2.2.2.2.2.2.2.1)) then (some (Sum.inr (Sum.inl (x.2.2.2.2.2.2.2.2.2.2.2.2.2.2.1, (x.2.2.2.2.2.2.2.2.2.2.2.2.2.2.2.1, (x.2.2.2.2.2.2.2.2.2.2.2.2.2.2.2.2.1, (x.2.2.2.2.2.2.2.2.2.2.2.2.2.2.2.2.2.1, (x.2.2.2.2.2.2.2.2.2.2.2.2.2.2.2.2.2.2.1, (x.2.2.2.2.2.2.2.2.2.2.2.2.2.2.2.2.2.2.2.1, (x.2.2.2.2.2.2.2.2.2.2.2.2.2.2.2.2.2.2.2.2.1, (x.2.2.2.2.2.2.2.2.2.2.2.2.2.2.2.2.2.2.2.2.2.1, (x.2.2.2.2.2.2.2.2.2.2.2.2.2.2.2.2.2.2.2.2.2.2.1, Unit.unit))))))))))))
   else none))
theorem b16_1_eq (x : g16_1.D) : b16_1 x = evF P (T11.orc _) Go.Proofs.Try.f16.ntmps fx16 (Code.at [true, true, true, true, true, false, true, false, false] c16) (planAt 64 []) g16_1 x (injK fx16 ((.normal, g16_1) :: o16_1) some) := by kernel_rfl
noncomputable def l16_1 : g16_1.D → Option (outD o16_1) := loopN g16_1 o16_1 b16_1 18446744073709551616
theorem at16_1 : Code.at [true, true, true, true, true, false, true, false] c16 = .loop (Code.at [true, true, true, true, true, false, true, false, false] c16) := by kernel_rfl
theorem s16_1_ok : SubOk P Go.Proofs.Try.f16.ntmps fx16 (Code.at [true, true, true, true, true, false, true, false] c16) ⟨g16_1, o16_1, l16_1⟩ := by
  rw [at16_1]
  exact loop_ok (sub_ok (g := g16_1) (outs := ((.normal, g16_1) :: o16_1)) (f := b16_1) (Table.ok T11_ok _) hmix (planAt_ok (P := P) (n := Go.Proofs.Try.f16.ntmps) (fx := fx16) (c := (Code.at [true, true, true, true, true, false, true, false, false] c16)) (d := 64) (l := []) trivial) b16_1_eq) rfl _
noncomputable def f16 (x : gi16.D) : Option go16.D :=
  (Option.bind (Go.Ev.Box.f33 (x.1, (x.2.1, (x.2.2.1, (x.2.2.2.1, (x.2.2.2.2.1, (x.2.2.2.2.2.1, (x.2.2.2.2.2.2.1, (x.2.2.2.2.2.2.2.1, (x.2.2.2.2.2.2.2.2.1, (x.2.2.2.2.2.2.2.2.2.1, (x.2.2.2.2.2.2.2.2.2.2.1, (x.2.2.2.2.2.2.2.2.2.2.2.1, Unit.unit))))))))))))) (fun y1 => (if ((y1.1 != (0 : Int)) = true) then (some ((0 : Int), ((0 : Int), ((0 : Int), ((0 : Int), ((0 : Int), ((0 : Int), ((0 : Int), ((0 : Int), ((1 : Int), Unit.unit))))))))))
   else (Option.bind (Go.Ev.Box.f9 (x.2.2.2.2.2.2.2.2.2.2.2.2.1, (x.2.2.2.2.2.2.2.2.2.2.2.2.2.1, (x.2.2.2.2.2.2.2.2.2.2.2.2.2.2.1, (x.2.2.2.2.2.2.2.2.2.2.2.2.2.2.2.1, (x.2.2.2.2.2.2.2.2.2.2.2.2.2.2.2.2.1, (x.2.2.2.2.2.2.2.2.2.2.2.2.2.2.2.2.2.1, (x.2.2.2.2.2.2.2.2.2.2.2.2.2.2.2.2.2.2.1, (x.2.2.2.2.2.2.2.2.2.2.2.2.2.2.2.2.2.2.2.1, Unit.unit))))))))) (fun y2 => (if ((y2.1 != (0 : Int)) = true) then (some ((0 : Int), ((0 : Int), ((0 : Int), ((0 : Int), ((0 : Int), ((0 : Int), ((0 : Int), ((0 : Int), ((1 : Int), Unit.unit))))))))))
   else (Option.bind (Go.Ev.Box.f22 (x.2.2.2.2.2.2.2.2.2.2.2.2.1, (x.2.2.2.2.2.2.2.2.2.2.2.2.2.1, (x.2.2.2.2.2.2.2.2.2.2.2.2.2.2.1, (x.2.2.2.2.2.2.2.2.2.2.2.2.2.2.2.1, (x.2.2.2.2.2.2.2.2.2.2.2.2.2.2.2.2.1, (x.2.2.2.2.2.2.2.2.2.2.2.2.2.2.2.2.2.1, (x.2.2.2.2.2.2.2.2.2.2.2.2.2.2.2.2.2.2.1, (x.2.2.2.2.2.2.2.2.2.2.2.2.2.2.2.2.2.2.2.1, Unit.unit))))))))) (fun y3 => (if ((Min.min (List.length (List.take (4 : Nat) (List.drop (0 : Nat) y3.1))) (4 : Nat)) = (0 : Nat)) then (Option.bind (Go.Ev.Box.l16_1 (y3.1, ((0 : Int), (x.1, (x.2.1, (x.2.2.1, (x.2.2.2.1, (x.2.2.2.2.1, (x.2.2.2.2.2.1, (x.2.2.2.2.2.2.1, (x.2.2.2.2.2.2.2.1, (x.2.2.2.2.2.2.2.2.1, (x.2.2.2.2.2.2.2.2.2.1, (x.2.2.2.2.2.2.2.2.2.2.1, (x.2.2.2.2.2.2.2.2.2.2.2.1, ((0 : Int), ((0 : Int), ((0 : Int), ((0 : Int), ((0 : Int), ((0 : Int), ((0 : Int), ((0 : Int), ((List.replicate (4 : Nat) (((0 : Int), (0 : Int)), ((0 : Int), (0 : Int)))), Unit.unit)))))))))))))))))))))))) (Sum.elim (fun y4 => (Option.bind (Go.Ev.Box.f11 ((List.take (List.length y4.2.2.2.2.2.2.2.2.1) (List.drop (0 : Nat) y4.2.2.2.2.2.2.2.2.1)), Unit.unit)) (fun y5 => (some (y5.1, (y5.2.1, (y5.2.2.1, (y5.2.2.2.1, (y5.2.2.2.2.1, (y5.2.2.2.2.2.1, (y5.2.2.2.2.2.2.1, (y5.2.2.2.2.2.2.2.1, (y5.2.2.2.2.2.2.2.2.1, Unit.unit))))))))))))) (Sum.elim (fun y4 => (some (y4.2.1, (y4.2.2.1, (y4.2.2.2.1, (y4.2.2.2.2.1, (y4.2.2.2.2.2.1, (y4.2.2.2.2.2.2.1, (y4.2.2.2.2.2.2.2.1, (y4.2.2.2.2.2.2.2.2.1, (y4.1, Unit.unit))))))))))) Empty.elim)))
   else (if ((4 : Nat) = (List.length ((List.take (0 : Nat) (List.replicate (4 : Nat) (((0 : Int), (0 : Int)), ((0 : Int), (0 : Int))))) ++ ((List.take (Min.min (List.length (List.take (4 : Nat) (List.drop (0 : Nat) y3.1))) (4 : Nat)) (List.take (4 : Nat) (List.drop (0 : Nat) y3.1))) ++ (List.drop ((0 : Nat) + (Min.min (List.length (List.take (4 : Nat) (List.drop (0 : Nat) y3.1))) (4 : Nat))) (List.replicate (4 : Nat) (((0 : Int), (0 : Int)), ((0 : Int), (0 : Int))))))))) then (Option.bind (Go.Ev.Box.l16_1 (y3.1, ((0 : Int), (x.1, (x.2.1, (x.2.2.1, (x.2.2.2.1, (x.2.2.2.2.1, (x.2.2.2.2.2.1, (x.2.2.2.2.2.2.1, (x.2.2.2.2.2.2.2.1, (x.2.2.2.2.2.2.2.2.1, (x.2.2.2.2.2.2.2.2.2.1, (x.2.2.2.2.2.2.2.2.2.2.1, (x.2.2.2.2.2.2.2.2.2.2.2.1, ((0 : Int), ((0 : Int), ((0 : Int), ((0 : Int), ((0 : Int), ((0 : Int), ((0 : Int), ((0 : Int), (((List.take (0 : Nat) (List.replicate (4 : Nat) (((0 : Int), (0 : Int)), ((0 : Int), (0 : Int))))) ++ ((List.take (Min.min (List.length (List.take (4 : Nat) (List.drop (0 : Nat) y3.1))) (4 : Nat)) (List.take (4 : Nat) (List.drop (0 : Nat) y3.1))) ++ (List.drop ((0 : Nat) + (Min.min (List.length (List.take (4 : Nat) (List.drop (0 : Nat) y3.1))) (4 : Nat))) (List.replicate (4 : Nat) (((0 : Int), (0 : Int)), ((0 : Int), (0 : Int))))))), Unit.unit)))))))))))))))))))))))) (Sum.elim (fun y4 => (Option.bind (Go.Ev.Box.f11 ((List.take (List.length y4.2.2.2.2.2.2.2.2.1) (List.drop (0 : Nat) y4.2.2.2.2.2.2.2.2.1)), Unit.unit)) (fun y5 => (some (y5.1, (y5.2.1, (y5.2.2.1, (y5.2.2.2.1, (y5.2.2.2.2.1, (y5.2.2.2.2.2.1, (y5.2.2.2.2.2.2.1, (y5.2.2.2.2.2.2.2.1, (y5.2.2.2.2.2.2.2.2.1, Unit.unit))))))))))))) (Sum.elim (fun y4 => (some (y4.2.1, (y4.2.2.1, (y4.2.2.2.1, (y4.2.2.2.2.1, (y4.2.2.2.2.2.1, (y4.2.2.2.2.2.2.1, (y4.2.2.2.2.2.2.2.1, (y4.2.2.2.2.2.2.2.2.1, (y4.1, Unit.unit))))))))))) Empty.elim)))
   else none))))))))))
theorem f16_eq (x : gi16.D) : f16 x = evF P (T11.orc _) Go.Proofs.Try.f16.ntmps fx16 c16 (planAt 64 [([true, true, true, true, true, false, true, false], ⟨g16_1, o16_1, l16_1⟩)]) gi16 x (fnKR P Go.Proofs.Try.f16 fx16 [go16]) := by kernel_rfl
theorem pf16 : AllSub P Go.Proofs.Try.f16.ntmps fx16 c16 [([true, true, true, true, true, false, true, false], ⟨g16_1, o16_1, l16_1⟩)] := And.intro s16_1_ok (trivial)
theorem qf16 : PlanOk P Go.Proofs.Try.f16.ntmps fx16 (planAt 64 [([true, true, true, true, true, false, true, false], ⟨g16_1, o16_1, l16_1⟩)]) c16 := planAt_ok pf16
theorem f16_ok : EntOk P 16 ⟨gi16, [go16], f16⟩ :=
  ent_okR (fn := Go.Proofs.Try.f16) (gi := gi16) (gos := [go16]) (f := f16) (c := c16) (fx := fx16) ⟨Go.Proofs.Try.func16, by kernel_rfl, rfl, by decide +kernel, rfl, rfl⟩ (Table.ok T11_ok _) hmix (qf16) f16_eq
noncomputable def T16 : Table := T11.add 16 [⟨gi16, [go16], f16⟩] []
theorem T16_ok : TableOk P T16 := Table.plus T11_ok (es := [⟨gi16, [go16], f16⟩]) ⟨f16_ok, trivial⟩ []

/-! ## 8: erasure/erasurelaw03.awake -/
noncomputable def c8 : Code := Func.code Go.Proofs.Try.f8
abbrev gi8 : Sg := ⟨[], [], []⟩
abbrev go8 : Sg := ⟨[0], [.lf .bool], []⟩
def fx8 : List Bool := []
noncomputable def f8 (_ : gi8.D) : Option go8.D :=
  (Option.bind (Go.Ev.Box.f21 ((0 : Int), ((0 : Int), ((1 : Int), ((1 : Int), Unit.unit))))) (fun y1 => (Option.bind (Go.Ev.Box.f21 ((1 : Int), ((1 : Int), ((2 : Int), ((2 : Int), Unit.unit))))) (fun y2 => (Option.bind (Go.Ev.Box.f7 (y1.1, (y1.2.1, (y1.2.2.1, (y1.2.2.2.1, (y1.2.2.2.2.1, (y1.2.2.2.2.2.1, (y1.2.2.2.2.2.2.1, (y1.2.2.2.2.2.2.2.1, (y2.1, (y2.2.1, (y2.2.2.1, (y2.2.2.2.1, (y2.2.2.2.2.1, (y2.2.2.2.2.2.1, (y2.2.2.2.2.2.2.1, (y2.2.2.2.2.2.2.2.1, Unit.unit))))))))))))))))) (fun y3 => (Option.bind (Go.Ev.Box.f21 ((0 : Int), ((0 : Int), ((2 : Int), ((2 : Int), Unit.unit))))) (fun y4 => (Option.bind (Go.Ev.Box.f21 ((0 : Int), ((0 : Int), ((1 : Int), ((1 : Int), Unit.unit))))) (fun y5 => (Option.bind (Go.Ev.Box.f7 (y5.1, (y5.2.1, (y5.2.2.1, (y5.2.2.2.1, (y5.2.2.2.2.1, (y5.2.2.2.2.2.1, (y5.2.2.2.2.2.2.1, (y5.2.2.2.2.2.2.2.1, ((11 : Int), ((1 : Int), (y4.2.2.1, (y4.2.2.2.1, (y4.2.2.2.2.1, (y4.2.2.2.2.2.1, (y4.2.2.2.2.2.2.1, (y4.2.2.2.2.2.2.2.1, Unit.unit))))))))))))))))) (fun y6 => (Option.bind (Go.Ev.Box.f21 ((0 : Int), ((0 : Int), ((2 : Int), ((1 : Int), Unit.unit))))) (fun y7 => (Option.bind (Go.Ev.Box.f16 ((0 : Int), ((0 : Int), ((1 : Int), ((0 : Int), ((-1 : Int), ((0 : Int), ((0 : Int), ((0 : Int), ((0 : Int), ((0 : Int), ((0 : Int), ((0 : Int), (y7.1, (y7.2.1, (y7.2.2.1, (y7.2.2.2.1, (y7.2.2.2.2.1, (y7.2.2.2.2.2.1, (y7.2.2.2.2.2.2.1, (y7.2.2.2.2.2.2.2.1, Unit.unit))))))))))))))))))))) (fun y8 => (if (y3.1 = true) then (if ((y3.2.1 == (0 : Int)) = true) then (if ((Bool.not y6.1) = true) then (if ((y6.2.1 == y3.2.1) = true) then (Option.bind (Go.Ev.Box.f21 ((-1 : Int), ((0 : Int), ((0 : Int), ((2 : Int), Unit.unit))))) (fun y9 => (if ((Go.Ev.allEq ((((y8.1, y9.1) :: []) ++ (((y8.2.1, y9.2.1) :: []) ++ [])) ++ ((((y8.2.2.1, y9.2.2.1) :: []) ++ (((y8.2.2.2.1, y9.2.2.2.1) :: []) ++ [])) ++ ((((y8.2.2.2.2.1, y9.2.2.2.2.1) :: []) ++ (((y8.2.2.2.2.2.1, y9.2.2.2.2.2.1) :: []) ++ [])) ++ ((((y8.2.2.2.2.2.2.1, y9.2.2.2.2.2.2.1) :: []) ++ (((y8.2.2.2.2.2.2.2.1, y9.2.2.2.2.2.2.2.1) :: []) ++ [])) ++ []))))) = true) then (some ((y8.2.2.2.2.2.2.2.2.1 == y3.2.1), Unit.unit))
   else (some (false, Unit.unit)))))
   else (some (false, Unit.unit)))
   else (some (false, Unit.unit)))
   else (some (false, Unit.unit)))
   else (some (false, Unit.unit)))))))))))))))))))
theorem f8_eq (x : gi8.D) : f8 x = evF P (T16.orc _) Go.Proofs.Try.f8.ntmps fx8 c8 (planAt 64 []) gi8 x (fnK fx8 [go8]) := by kernel_rfl
theorem f8_ok : EntOk P 8 ⟨gi8, [go8], f8⟩ :=
  ent_ok (fn := Go.Proofs.Try.f8) (gi := gi8) (gos := [go8]) (f := f8) (c := c8) (fx := fx8) ⟨Go.Proofs.Try.func8, by kernel_rfl, rfl, by decide +kernel, rfl, rfl⟩ (by kernel_rfl) (Table.ok T16_ok _) hmix (planAt_ok (P := P) (n := Go.Proofs.Try.f8.ntmps) (fx := fx8) (c := c8) (d := 64) (l := []) trivial) f8_eq
noncomputable def T8 : Table := T16.add 8 [⟨gi8, [go8], f8⟩] []
theorem T8_ok : TableOk P T8 := Table.plus T16_ok (es := [⟨gi8, [go8], f8⟩]) ⟨f8_ok, trivial⟩ []

/-! ## 3: erasure/erasurelaw03.BoxApart -/
noncomputable def c3 : Code := Func.code Go.Proofs.Try.f3
abbrev gi3 : Sg := ⟨[0, 1], [.agg [.lf (.int .i64), .lf (.int .i64), .lf (.int .i64), .lf (.int .i64), .lf (.int .i64), .lf (.int .i64), .lf (.int .i64), .lf (.int .i64)], .agg [.lf (.int .i64), .lf (.int .i64), .lf (.int .i64), .lf (.int .i64), .lf (.int .i64), .lf (.int .i64), .lf (.int .i64), .lf (.int .i64)]], []⟩
abbrev go3 : Sg := ⟨[4], [.lf .bool], []⟩
def fx3 : List Bool := []
abbrev g3_1 : Sg := ⟨[2, 3, 5], [.lf (.ptr 0 0), .lf (.ptr 1 0), .lf .bool], [some (.box true [.lf (.int .i64), .lf (.int .i64), .lf (.int .i64), .lf (.int .i64), .lf (.int .i64), .lf (.int .i64), .lf (.int .i64), .lf (.int .i64)]), some (.box true [.lf (.int .i64), .lf (.int .i64), .lf (.int .i64), .lf (.int .i64), .lf (.int .i64), .lf (.int .i64), .lf (.int .i64), .lf (.int .i64)])]⟩
abbrev o3_1 : Outs := [(.normal, ⟨[4], [.lf .bool], []⟩)]
noncomputable def b3_1 (x : g3_1.D) : Option (outD o3_1) :=
  (Option.bind (Go.Ev.Box.f8 Unit.unit) (fun y1 => (if (y1.1 = true) then (if ((Bool.not x.1) = true) then (Option.bind (Go.Ev.Box.f9 (x.2.1, (x.2.2.1, (x.2.2.2.1, (x.2.2.2.2.1, (x.2.2.2.2.2.1, (x.2.2.2.2.2.2.1, (x.2.2.2.2.2.2.2.1, (x.2.2.2.2.2.2.2.2.1, Unit.unit))))))))) (fun y2 => (if ((y2.1 != (0 : Int)) = true) then (some (Sum.inl (true, Unit.unit)))
   else (Option.bind (Go.Ev.Box.f9 (x.2.2.2.2.2.2.2.2.2.1, (x.2.2.2.2.2.2.2.2.2.2.1, (x.2.2.2.2.2.2.2.2.2.2.2.1, (x.2.2.2.2.2.2.2.2.2.2.2.2.1, (x.2.2.2.2.2.2.2.2.2.2.2.2.2.1, (x.2.2.2.2.2.2.2.2.2.2.2.2.2.2.1, (x.2.2.2.2.2.2.2.2.2.2.2.2.2.2.2.1, (x.2.2.2.2.2.2.2.2.2.2.2.2.2.2.2.2.1, Unit.unit))))))))) (fun y3 => (some (Sum.inl ((y3.1 != (0 : Int)), Unit.unit))))))))
   else (some (Sum.inl (false, Unit.unit))))
   else (some (Sum.inl (false, Unit.unit))))))
theorem b3_1_eq (x : g3_1.D) : b3_1 x = evF P (T8.orc _) Go.Proofs.Try.f3.ntmps fx3 (Code.at [true, true, false, true, false, false] c3) (planAt 64 []) g3_1 x (injK fx3 o3_1 some) := by kernel_rfl
theorem s3_1_ok : SubOk P Go.Proofs.Try.f3.ntmps fx3 (Code.at [true, true, false, true, false, false] c3) ⟨g3_1, o3_1, b3_1⟩ :=
  sub_ok (g := g3_1) (outs := o3_1) (f := b3_1) (Table.ok T8_ok _) hmix (planAt_ok (P := P) (n := Go.Proofs.Try.f3.ntmps) (fx := fx3) (c := (Code.at [true, true, false, true, false, false] c3)) (d := 64) (l := []) trivial) b3_1_eq
noncomputable def f3 (x : gi3.D) : Option go3.D :=
  (Option.bind (Go.Ev.Box.f7 (x.1, (x.2.1, (x.2.2.1, (x.2.2.2.1, (x.2.2.2.2.1, (x.2.2.2.2.2.1, (x.2.2.2.2.2.2.1, (x.2.2.2.2.2.2.2.1, (x.2.2.2.2.2.2.2.2.1, (x.2.2.2.2.2.2.2.2.2.1, (x.2.2.2.2.2.2.2.2.2.2.1, (x.2.2.2.2.2.2.2.2.2.2.2.1, (x.2.2.2.2.2.2.2.2.2.2.2.2.1, (x.2.2.2.2.2.2.2.2.2.2.2.2.2.1, (x.2.2.2.2.2.2.2.2.2.2.2.2.2.2.1, (x.2.2.2.2.2.2.2.2.2.2.2.2.2.2.2.1, Unit.unit))))))))))))))))) (fun y1 => (if ((y1.2.1 != (0 : Int)) = true) then (Option.bind (Go.Ev.Box.b3_1 (y1.1, (x.1, (x.2.1, (x.2.2.1, (x.2.2.2.1, (x.2.2.2.2.1, (x.2.2.2.2.2.1, (x.2.2.2.2.2.2.1, (x.2.2.2.2.2.2.2.1, (x.2.2.2.2.2.2.2.2.1, (x.2.2.2.2.2.2.2.2.2.1, (x.2.2.2.2.2.2.2.2.2.2.1, (x.2.2.2.2.2.2.2.2.2.2.2.1, (x.2.2.2.2.2.2.2.2.2.2.2.2.1, (x.2.2.2.2.2.2.2.2.2.2.2.2.2.1, (x.2.2.2.2.2.2.2.2.2.2.2.2.2.2.1, (x.2.2.2.2.2.2.2.2.2.2.2.2.2.2.2.1, Unit.unit)))))))))))))))))) (Sum.elim (fun y2 => (some (y2.1, Unit.unit))) Empty.elim))
   else (Option.bind (Go.Ev.Box.f10 (x.2.2.2.2.1, (x.2.2.2.2.2.1, (x.2.2.2.2.2.2.2.2.1, (x.2.2.2.2.2.2.2.2.2.1, Unit.unit))))) (fun y2 => (Option.bind (Go.Ev.Box.f10 (x.2.2.2.2.2.2.2.2.2.2.2.2.1, (x.2.2.2.2.2.2.2.2.2.2.2.2.2.1, (x.1, (x.2.1, Unit.unit))))) (fun y3 => (Option.bind (Go.Ev.Box.f10 (x.2.2.2.2.2.2.1, (x.2.2.2.2.2.2.2.1, (x.2.2.2.2.2.2.2.2.2.2.1, (x.2.2.2.2.2.2.2.2.2.2.2.1, Unit.unit))))) (fun y4 => (Option.bind (Go.Ev.Box.f10 (x.2.2.2.2.2.2.2.2.2.2.2.2.2.2.1, (x.2.2.2.2.2.2.2.2.2.2.2.2.2.2.2.1, (x.2.2.1, (x.2.2.2.1, Unit.unit))))) (fun y5 => (Option.bind (Go.Ev.Box.f8 Unit.unit) (fun y6 => (if (y6.1 = true) then (if ((decide (y2.1 ≥ (0 : Int))) = true) then (if ((decide (y3.1 ≥ (0 : Int))) = true) then (if ((decide (y4.1 ≥ (0 : Int))) = true) then (some ((y1.1 == (decide (y5.1 ≥ (0 : Int)))), Unit.unit))
   else (some ((y1.1 == false), Unit.unit)))
   else (some ((y1.1 == false), Unit.unit)))
   else (some ((y1.1 == false), Unit.unit)))
   else (some (false, Unit.unit))))))))))))))))
theorem f3_eq (x : gi3.D) : f3 x = evF P (T8.orc _) Go.Proofs.Try.f3.ntmps fx3 c3 (planAt 64 [([true, true, false, true, false, false], ⟨g3_1, o3_1, b3_1⟩)]) gi3 x (fnK fx3 [go3]) := by kernel_rfl
theorem pf3 : AllSub P Go.Proofs.Try.f3.ntmps fx3 c3 [([true, true, false, true, false, false], ⟨g3_1, o3_1, b3_1⟩)] := And.intro s3_1_ok (trivial)
theorem qf3 : PlanOk P Go.Proofs.Try.f3.ntmps fx3 (planAt 64 [([true, true, false, true, false, false], ⟨g3_1, o3_1, b3_1⟩)]) c3 := planAt_ok pf3
theorem f3_ok : EntOk P 3 ⟨gi3, [go3], f3⟩ :=
  ent_ok (fn := Go.Proofs.Try.f3) (gi := gi3) (gos := [go3]) (f := f3) (c := c3) (fx := fx3) ⟨Go.Proofs.Try.func3, by kernel_rfl, rfl, by decide +kernel, rfl, rfl⟩ (by kernel_rfl) (Table.ok T8_ok _) hmix (qf3) f3_eq
noncomputable def T3 : Table := T8.add 3 [⟨gi3, [go3], f3⟩] []
theorem T3_ok : TableOk P T3 := Table.plus T8_ok (es := [⟨gi3, [go3], f3⟩]) ⟨f3_ok, trivial⟩ []

/-! ## 28: erasure/erasureref01.Right -/
noncomputable def c28 : Code := Func.code Go.Proofs.Try.f28
abbrev gi28 : Sg := ⟨[0], [.agg [.lf (.int .i64), .lf (.int .i64)]], []⟩
abbrev go28 : Sg := ⟨[2], [.lf .bool], []⟩
def fx28 : List Bool := []
noncomputable def f28 (x : gi28.D) : Option go28.D :=
  (if ((decide (x.1 ≥ (-999999999999999999 : Int))) = true) then (if ((decide (x.1 ≤ (999999999999999999 : Int))) = true) then (if ((decide (x.2.1 ≥ (0 : Int))) = true) then (if ((decide (x.2.1 ≤ (9 : Int))) = true) then (if ((x.2.1 == (0 : Int)) = true) then (some (true, Unit.unit))
   else (some (((Int.tmod x.1 (10 : Int)) != (0 : Int)), Unit.unit)))
   else (some (false, Unit.unit)))
   else (some (false, Unit.unit)))
   else (some (false, Unit.unit)))
   else (some (false, Unit.unit)))
theorem f28_eq (x : gi28.D) : f28 x = evF P (T3.orc _) Go.Proofs.Try.f28.ntmps fx28 c28 (planAt 64 []) gi28 x (fnK fx28 [go28]) := by kernel_rfl
theorem f28_ok : EntOk P 28 ⟨gi28, [go28], f28⟩ :=
  ent_ok (fn := Go.Proofs.Try.f28) (gi := gi28) (gos := [go28]) (f := f28) (c := c28) (fx := fx28) ⟨Go.Proofs.Try.func28, by kernel_rfl, rfl, by decide +kernel, rfl, rfl⟩ (by kernel_rfl) (Table.ok T3_ok _) hmix (planAt_ok (P := P) (n := Go.Proofs.Try.f28.ntmps) (fx := fx28) (c := c28) (d := 64) (l := []) trivial) f28_eq
noncomputable def T28 : Table := T3.add 28 [⟨gi28, [go28], f28⟩] []
theorem T28_ok : TableOk P T28 := Table.plus T3_ok (es := [⟨gi28, [go28], f28⟩]) ⟨f28_ok, trivial⟩ []

/-! ## 52: erasure/erasureref01.of -/
noncomputable def c52 : Code := Func.code Go.Proofs.Try.f52
abbrev gi52 : Sg := ⟨[0], [.agg [.lf (.int .i64), .lf (.int .i64)]], []⟩
abbrev go52 : Sg := ⟨[0], [.agg [.lf .bool, .lf (.sl (.int .i64)), .lf (.int .i64)]], []⟩
def fx52 : List Bool := []
abbrev g52_1 : Sg := ⟨[2, 3, 4], [.lf (.ptr 0 0), .lf (.ptr 1 0), .lf (.int .i64)], [some (.box true [.lf .bool, .lf (.gr (.int .i64) 2), .lf (.int .i64)]), some (.box true [.lf .bool, .lf (.gr (.int .i64) 3), .lf (.int .i64)]), some (.arr true (.int .i64)), some (.arr true (.int .i64))]⟩
abbrev o52_1 : Outs := [(.exit 0, ⟨[2, 3], [.lf (.ptr 0 0), .lf (.ptr 1 0)], [some (.box true [.lf .bool, .lf (.gr (.int .i64) 2), .lf (.int .i64)]), some (.box true [.lf .bool, .lf (.gr (.int .i64) 3), .lf (.int .i64)]), some (.arr true (.int .i64)), some (.arr true (.int .i64))]⟩)]
noncomputable def b52_1 (x : g52_1.D) : Option (outD ((.normal, g52_1) :: o52_1)) :=
  (if ((decide (x.1 > (0 : Int))) = true) then (if (((List.length (List.take (List.length x.2.2.2.2.2.2.1) (List.drop (0 : Nat) x.2.2.2.2.2.2.1))) + (List.length (List.take (1 : Nat) (List.drop (0 : Nat) (List.set (List.replicate (1 : Nat) (0 : Int)) (0 : Nat) (Int.tmod x.1 (10 : Int))))))) ≤ (17592186044416 : Nat)) then (if ((List.length x.2.2.2.2.2.1) = (List.length x.2.2.2.2.2.1)) then (if ((List.length ((List.take (List.length x.2.2.2.2.2.2.1) (List.drop (0 : Nat) x.2.2.2.2.2.2.1)) ++ (List.take (1 : Nat) (List.drop (0 : Nat) (List.set (List.replicate (1 : Nat) (0 : Int)) (0 : Nat) (Int.tmod x.1 (10 : Int))))))) = (List.length ((List.take (List.length x.2.2.2.2.2.2.1) (List.drop (0 : Nat) x.2.2.2.2.2.2.1)) ++ (List.take (1 : Nat) (List.drop (0 : Nat) (List.set (List.replicate (1 : Nat) (0 : Int)) (0 : Nat) (Int.tmod x.1 (10 : Int)))))))) then (some (Sum.inl ((Go.IntKind.wrap Go.IntKind.i64 (Int.tdiv x.1 (10 : Int))), (x.2.1, (x.2.2.1, (x.2.2.2.1, (x.2.2.2.2.1, (x.2.2.2.2.2.1, (((List.take (List.length x.2.2.2.2.2.2.1) (List.drop (0 : Nat) x.2.2.2.2.2.2.1)) ++ (List.take (1 : Nat) (List.drop (0 : Nat) (List.set (List.replicate (1 : Nat) (0 : Int)) (0 : Nat) (Int.tmod x.1 (10 : Int)))))), Unit.unit)))))))))
   else none)
   else none)
   else none)
   else (if ((List.length x.2.2.2.2.2.1) = (List.length x.2.2.2.2.2.1)) then (if ((List.length x.2.2.2.2.2.2.1) = (List.length x.2.2.2.2.2.2.1)) then (some (Sum.inr (Sum.inl (x.2.1, (x.2.2.1, (x.2.2.2.1, (x.2.2.2.2.1, (x.2.2.2.2.2.1, (x.2.2.2.2.2.2.1, Unit.unit)))))))))
   else none)
   else none))
theorem b52_1_eq (x : g52_1.D) : b52_1 x = evF P (T28.orc _) Go.Proofs.Try.f52.ntmps fx52 (Code.at [true, true, true, true, false, false, false] c52) (planAt 64 []) g52_1 x (injK fx52 ((.normal, g52_1) :: o52_1) some) := by kernel_rfl
noncomputable def l52_1 : g52_1.D → Option (outD o52_1) := loopN g52_1 o52_1 b52_1 18446744073709551616
theorem at52_1 : Code.at [true, true, true, true, false, false] c52 = .loop (Code.at [true, true, true, true, false, false, false] c52) := by kernel_rfl
theorem s52_1_ok : SubOk P Go.Proofs.Try.f52.ntmps fx52 (Code.at [true, true, true, true, false, false] c52) ⟨g52_1, o52_1, l52_1⟩ := by
  rw [at52_1]
  exact loop_ok (sub_ok (g := g52_1) (outs := ((.normal, g52_1) :: o52_1)) (f := b52_1) (Table.ok T28_ok _) hmix (planAt_ok (P := P) (n := Go.Proofs.Try.f52.ntmps) (fx := fx52) (c := (Code.at [true, true, true, true, false, false, false] c52)) (d := 64) (l := []) trivial) b52_1_eq) rfl _
noncomputable def f52 (x : gi52.D) : Option go52.D :=
  (if ((decide (x.1 < (0 : Int))) = true) then (Option.bind (Go.Ev.Box.l52_1 ((Go.IntKind.wrap Go.IntKind.i64 ((0 : Int) - x.1)), (false, ((0 : Int), ((decide (x.1 < (0 : Int))), (x.2.1, ([], ([], Unit.unit)))))))) (Sum.elim (fun y1 => (some (y1.2.2.1, ((List.take (List.length y1.2.2.2.2.2.1) (List.drop (0 : Nat) y1.2.2.2.2.2.1)), (y1.2.2.2.1, Unit.unit))))) Empty.elim))
   else (Option.bind (Go.Ev.Box.l52_1 (x.1, (false, ((0 : Int), ((decide (x.1 < (0 : Int))), (x.2.1, ([], ([], Unit.unit)))))))) (Sum.elim (fun y1 => (some (y1.2.2.1, ((List.take (List.length y1.2.2.2.2.2.1) (List.drop (0 : Nat) y1.2.2.2.2.2.1)), (y1.2.2.2.1, Unit.unit))))) Empty.elim)))
theorem f52_eq (x : gi52.D) : f52 x = evF P (T28.orc _) Go.Proofs.Try.f52.ntmps fx52 c52 (planAt 64 [([true, true, true, true, false, false], ⟨g52_1, o52_1, l52_1⟩)]) gi52 x (fnKR P Go.Proofs.Try.f52 fx52 [go52]) := by kernel_rfl
theorem pf52 : AllSub P Go.Proofs.Try.f52.ntmps fx52 c52 [([true, true, true, true, false, false], ⟨g52_1, o52_1, l52_1⟩)] := And.intro s52_1_ok (trivial)
theorem qf52 : PlanOk P Go.Proofs.Try.f52.ntmps fx52 (planAt 64 [([true, true, true, true, false, false], ⟨g52_1, o52_1, l52_1⟩)]) c52 := planAt_ok pf52
theorem f52_ok : EntOk P 52 ⟨gi52, [go52], f52⟩ :=
  ent_okR (fn := Go.Proofs.Try.f52) (gi := gi52) (gos := [go52]) (f := f52) (c := c52) (fx := fx52) ⟨Go.Proofs.Try.func52, by kernel_rfl, rfl, by decide +kernel, rfl, rfl⟩ (Table.ok T28_ok _) hmix (qf52) f52_eq
noncomputable def T52 : Table := T28.add 52 [⟨gi52, [go52], f52⟩] []
theorem T52_ok : TableOk P T52 := Table.plus T28_ok (es := [⟨gi52, [go52], f52⟩]) ⟨f52_ok, trivial⟩ []

/-! ## 53: erasure/erasureref01.lift -/
noncomputable def c53 : Code := Func.code Go.Proofs.Try.f53
abbrev gi53 : Sg := ⟨[0, 1], [.agg [.lf .bool, .lf (.sl (.int .i64)), .lf (.int .i64)], .lf (.int .i64)], []⟩
abbrev go53 : Sg := ⟨[0], [.agg [.lf .bool, .lf (.sl (.int .i64)), .lf (.int .i64)]], []⟩
def fx53 : List Bool := []
abbrev g53_1 : Sg := ⟨[1, 2, 4, 5], [.lf (.int .i64), .lf (.ptr 0 0), .lf (.ptr 1 0), .lf (.ptr 2 0)], [some (.box true [.lf .bool, .lf (.sl (.int .i64)), .lf (.int .i64)]), some (.box true [.lf .bool, .lf (.gr (.int .i64) 3), .lf (.int .i64)]), some (.box true [.lf .bool, .lf (.gr (.int .i64) 4), .lf (.int .i64)]), some (.arr true (.int .i64)), some (.arr true (.int .i64))]⟩
abbrev o53_1 : Outs := [(.exit 0, ⟨[2, 4, 5], [.lf (.ptr 0 0), .lf (.ptr 1 0), .lf (.ptr 2 0)], [some (.box true [.lf .bool, .lf (.sl (.int .i64)), .lf (.int .i64)]), some (.box true [.lf .bool, .lf (.gr (.int .i64) 3), .lf (.int .i64)]), some (.box true [.lf .bool, .lf (.gr (.int .i64) 4), .lf (.int .i64)]), some (.arr true (.int .i64)), some (.arr true (.int .i64))]⟩)]
noncomputable def b53_1 (x : g53_1.D) : Option (outD ((.normal, g53_1) :: o53_1)) :=
  (if ((decide (x.2.2.2.2.2.2.2.1 < x.1)) = true) then (if (((List.length (List.take (List.length x.2.2.2.2.2.2.2.2.2.1) (List.drop (0 : Nat) x.2.2.2.2.2.2.2.2.2.1))) + (1 : Nat)) ≤ (17592186044416 : Nat)) then (if ((List.length x.2.2.2.2.2.2.2.2.1) = (List.length x.2.2.2.2.2.2.2.2.1)) then (if ((List.length ((List.take (List.length x.2.2.2.2.2.2.2.2.2.1) (List.drop (0 : Nat) x.2.2.2.2.2.2.2.2.2.1)) ++ (List.take (1 : Nat) (List.drop (0 : Nat) (List.set (List.replicate (1 : Nat) (0 : Int)) (0 : Nat) (0 : Int)))))) = (List.length ((List.take (List.length x.2.2.2.2.2.2.2.2.2.1) (List.drop (0 : Nat) x.2.2.2.2.2.2.2.2.2.1)) ++ (List.take (1 : Nat) (List.drop (0 : Nat) (List.set (List.replicate (1 : Nat) (0 : Int)) (0 : Nat) (0 : Int))))))) then (some (Sum.inl (x.1, (x.2.1, (x.2.2.1, (x.2.2.2.1, (x.2.2.2.2.1, (x.2.2.2.2.2.1, (x.2.2.2.2.2.2.1, ((Go.IntKind.wrap Go.IntKind.i64 (x.2.2.2.2.2.2.2.1 + (1 : Int))), (x.2.2.2.2.2.2.2.2.1, (((List.take (List.length x.2.2.2.2.2.2.2.2.2.1) (List.drop (0 : Nat) x.2.2.2.2.2.2.2.2.2.1)) ++ (List.take (1 : Nat) (List.drop (0 : Nat) (List.set (List.replicate (1 : Nat) (0 : Int)) (0 : Nat) (0 : Int))))), Unit.unit))))))))))))
   else none)
   else none)
   else none)
   else (if ((List.length x.2.2.2.2.2.2.2.2.1) = (List.length x.2.2.2.2.2.2.2.2.1)) then (if ((List.length x.2.2.2.2.2.2.2.2.2.1) = (List.length x.2.2.2.2.2.2.2.2.2.1)) then (some (Sum.inr (Sum.inl (x.2.1, (x.2.2.1, (x.2.2.2.1, (x.2.2.2.2.1, (x.2.2.2.2.2.1, (x.2.2.2.2.2.2.1, (x.2.2.2.2.2.2.2.1, (x.2.2.2.2.2.2.2.2.1, (x.2.2.2.2.2.2.2.2.2.1, Unit.unit))))))))))))
   else none)
   else none))
theorem b53_1_eq (x : g53_1.D) : b53_1 x = evF P (T52.orc _) Go.Proofs.Try.f53.ntmps fx53 (Code.at [true, true, false, false, false] c53) (planAt 64 []) g53_1 x (injK fx53 ((.normal, g53_1) :: o53_1) some) := by kernel_rfl
noncomputable def l53_1 : g53_1.D → Option (outD o53_1) := loopN g53_1 o53_1 b53_1 18446744073709551616
theorem at53_1 : Code.at [true, true, false, false] c53 = .loop (Code.at [true, true, false, false, false] c53) := by kernel_rfl
theorem s53_1_ok : SubOk P Go.Proofs.Try.f53.ntmps fx53 (Code.at [true, true, false, false] c53) ⟨g53_1, o53_1, l53_1⟩ := by
  rw [at53_1]
  exact loop_ok (sub_ok (g := g53_1) (outs := ((.normal, g53_1) :: o53_1)) (f := b53_1) (Table.ok T52_ok _) hmix (planAt_ok (P := P) (n := Go.Proofs.Try.f53.ntmps) (fx := fx53) (c := (Code.at [true, true, false, false, false] c53)) (d := 64) (l := []) trivial) b53_1_eq) rfl _
noncomputable def f53 (x : gi53.D) : Option go53.D :=
  (Option.bind (Go.Ev.Box.l53_1 (x.2.2.2.1, (x.1, (x.2.1, (x.2.2.1, (false, ((0 : Int), (x.1, (x.2.2.1, ([], ([], Unit.unit))))))))))) (Sum.elim (fun y1 => (if (((List.length (List.take (List.length y1.2.2.2.2.2.2.2.2.1) (List.drop (0 : Nat) y1.2.2.2.2.2.2.2.2.1))) + (List.length y1.2.1)) ≤ (17592186044416 : Nat)) then (some (y1.2.2.2.2.2.1, ((List.take (List.length ((List.take (List.length y1.2.2.2.2.2.2.2.2.1) (List.drop (0 : Nat) y1.2.2.2.2.2.2.2.2.1)) ++ y1.2.1)) (List.drop (0 : Nat) ((List.take (List.length y1.2.2.2.2.2.2.2.2.1) (List.drop (0 : Nat) y1.2.2.2.2.2.2.2.2.1)) ++ y1.2.1))), (y1.2.2.2.2.2.2.1, Unit.unit))))
   else none)) Empty.elim))
theorem f53_eq (x : gi53.D) : f53 x = evF P (T52.orc _) Go.Proofs.Try.f53.ntmps fx53 c53 (planAt 64 [([true, true, false, false], ⟨g53_1, o53_1, l53_1⟩)]) gi53 x (fnKR P Go.Proofs.Try.f53 fx53 [go53]) := by kernel_rfl
theorem pf53 : AllSub P Go.Proofs.Try.f53.ntmps fx53 c53 [([true, true, false, false], ⟨g53_1, o53_1, l53_1⟩)] := And.intro s53_1_ok (trivial)
theorem qf53 : PlanOk P Go.Proofs.Try.f53.ntmps fx53 (planAt 64 [([true, true, false, false], ⟨g53_1, o53_1, l53_1⟩)]) c53 := planAt_ok pf53
theorem f53_ok : EntOk P 53 ⟨gi53, [go53], f53⟩ :=
  ent_okR (fn := Go.Proofs.Try.f53) (gi := gi53) (gos := [go53]) (f := f53) (c := c53) (fx := fx53) ⟨Go.Proofs.Try.func53, by kernel_rfl, rfl, by decide +kernel, rfl, rfl⟩ (Table.ok T52_ok _) hmix (qf53) f53_eq
noncomputable def T53 : Table := T52.add 53 [⟨gi53, [go53], f53⟩] []
theorem T53_ok : TableOk P T53 := Table.plus T52_ok (es := [⟨gi53, [go53], f53⟩]) ⟨f53_ok, trivial⟩ []

/-! ## 60: erasure/erasureref01.digit -/
noncomputable def c60 : Code := Func.code Go.Proofs.Try.f60
abbrev gi60 : Sg := ⟨[0, 1], [.lf (.sl (.int .i64)), .lf (.int .i64)], []⟩
abbrev go60 : Sg := ⟨[4], [.lf (.int .i64)], []⟩
def fx60 : List Bool := []
noncomputable def f60 (x : gi60.D) : Option go60.D :=
  (if ((decide (x.2.1 < (0 : Int))) = true) then (some ((0 : Int), Unit.unit))
   else (if ((decide (x.2.1 ≥ (((List.length x.1) : Nat) : Int))) = true) then (some ((0 : Int), Unit.unit))
   else (if ((0 : Int) ≤ x.2.1) then (if (x.2.1 < (((List.length x.1) : Nat) : Int)) then (some ((List.getD x.1 (Int.toNat x.2.1) (0 : Int)), Unit.unit))
   else none)
   else none)))
theorem f60_eq (x : gi60.D) : f60 x = evF P (T53.orc _) Go.Proofs.Try.f60.ntmps fx60 c60 (planAt 64 []) gi60 x (fnK fx60 [go60]) := by kernel_rfl
theorem f60_ok : EntOk P 60 ⟨gi60, [go60], f60⟩ :=
  ent_ok (fn := Go.Proofs.Try.f60) (gi := gi60) (gos := [go60]) (f := f60) (c := c60) (fx := fx60) ⟨Go.Proofs.Try.func60, by kernel_rfl, rfl, by decide +kernel, rfl, rfl⟩ (by kernel_rfl) (Table.ok T53_ok _) hmix (planAt_ok (P := P) (n := Go.Proofs.Try.f60.ntmps) (fx := fx60) (c := c60) (d := 64) (l := []) trivial) f60_eq
noncomputable def T60 : Table := T53.add 60 [⟨gi60, [go60], f60⟩] []
theorem T60_ok : TableOk P T60 := Table.plus T53_ok (es := [⟨gi60, [go60], f60⟩]) ⟨f60_ok, trivial⟩ []

/-! ## 54: erasure/erasureref01.less -/
noncomputable def c54 : Code := Func.code Go.Proofs.Try.f54
abbrev gi54 : Sg := ⟨[0, 1], [.lf (.sl (.int .i64)), .lf (.sl (.int .i64))], []⟩
abbrev go54 : Sg := ⟨[4], [.lf .bool], []⟩
def fx54 : List Bool := []
abbrev g54_1 : Sg := ⟨[0, 1, 5], [.lf (.sl (.int .i64)), .lf (.sl (.int .i64)), .lf (.int .i64)], []⟩
abbrev o54_1 : Outs := [(.exit 0, ⟨[], [], []⟩), (.ret, ⟨[4], [.lf .bool], []⟩)]
noncomputable def b54_1 (x : g54_1.D) : Option (outD ((.normal, g54_1) :: o54_1)) :=
  (if ((decide (x.2.2.1 ≥ (0 : Int))) = true) then (Option.bind (Go.Ev.Box.f60 (x.1, (x.2.2.1, Unit.unit))) (fun y1 => (Option.bind (Go.Ev.Box.f60 (x.2.1, (x.2.2.1, Unit.unit))) (fun y2 => (if ((y1.1 != y2.1) = true) then (Option.bind (Go.Ev.Box.f60 (x.1, (x.2.2.1, Unit.unit))) (fun y3 => (Option.bind (Go.Ev.Box.f60 (x.2.1, (x.2.2.1, Unit.unit))) (fun y4 => (some (Sum.inr (Sum.inr (Sum.inl ((decide (y3.1 < y4.1)), Unit.unit)))))))))
   else (some (Sum.inl (x.1, (x.2.1, ((Go.IntKind.wrap Go.IntKind.i64 (x.2.2.1 - (1 : Int))), Unit.unit))))))))))
   else (some (Sum.inr (Sum.inl Unit.unit))))
theorem b54_1_eq (x : g54_1.D) : b54_1 x = evF P (T60.orc _) Go.Proofs.Try.f54.ntmps fx54 (Code.at [true, false, true, false, false] c54) (planAt 64 []) g54_1 x (injK fx54 ((.normal, g54_1) :: o54_1) some) := by kernel_rfl
noncomputable def l54_1 : g54_1.D → Option (outD o54_1) := loopN g54_1 o54_1 b54_1 18446744073709551616
theorem at54_1 : Code.at [true, false, true, false] c54 = .loop (Code.at [true, false, true, false, false] c54) := by kernel_rfl
theorem s54_1_ok : SubOk P Go.Proofs.Try.f54.ntmps fx54 (Code.at [true, false, true, false] c54) ⟨g54_1, o54_1, l54_1⟩ := by
  rw [at54_1]
  exact loop_ok (sub_ok (g := g54_1) (outs := ((.normal, g54_1) :: o54_1)) (f := b54_1) (Table.ok T60_ok _) hmix (planAt_ok (P := P) (n := Go.Proofs.Try.f54.ntmps) (fx := fx54) (c := (Code.at [true, false, true, false, false] c54)) (d := 64) (l := []) trivial) b54_1_eq) rfl _
noncomputable def f54 (x : gi54.D) : Option go54.D :=
  (Option.bind (Go.Ev.Box.l54_1 (x.1, (x.2.1, ((Go.IntKind.wrap Go.IntKind.i64 ((Max.max (((List.length x.1) : Nat) : Int) (((List.length x.2.1) : Nat) : Int)) - (1 : Int))), Unit.unit)))) (Sum.elim (fun _ => (some (false, Unit.unit))) (Sum.elim (fun y1 => (some (y1.1, Unit.unit))) Empty.elim)))
theorem f54_eq (x : gi54.D) : f54 x = evF P (T60.orc _) Go.Proofs.Try.f54.ntmps fx54 c54 (planAt 64 [([true, false, true, false], ⟨g54_1, o54_1, l54_1⟩)]) gi54 x (fnK fx54 [go54]) := by kernel_rfl
theorem pf54 : AllSub P Go.Proofs.Try.f54.ntmps fx54 c54 [([true, false, true, false], ⟨g54_1, o54_1, l54_1⟩)] := And.intro s54_1_ok (trivial)
theorem qf54 : PlanOk P Go.Proofs.Try.f54.ntmps fx54 (planAt 64 [([true, false, true, false], ⟨g54_1, o54_1, l54_1⟩)]) c54 := planAt_ok pf54
theorem f54_ok : EntOk P 54 ⟨gi54, [go54], f54⟩ :=
  ent_ok (fn := Go.Proofs.Try.f54) (gi := gi54) (gos := [go54]) (f := f54) (c := c54) (fx := fx54) ⟨Go.Proofs.Try.func54, by kernel_rfl, rfl, by decide +kernel, rfl, rfl⟩ (by kernel_rfl) (Table.ok T60_ok _) hmix (qf54) f54_eq
noncomputable def T54 : Table := T60.add 54 [⟨gi54, [go54], f54⟩] []
theorem T54_ok : TableOk P T54 := Table.plus T60_ok (es := [⟨gi54, [go54], f54⟩]) ⟨f54_ok, trivial⟩ []

/-! ## 42: erasure/erasureref01.Compare -/
noncomputable def c42 : Code := Func.code Go.Proofs.Try.f42
abbrev gi42 : Sg := ⟨[0, 1], [.agg [.lf (.int .i64), .lf (.int .i64)], .agg [.lf (.int .i64), .lf (.int .i64)]], []⟩
abbrev go42 : Sg := ⟨[4, 5], [.lf (.int .i64), .lf (.int .i64)], []⟩
def fx42 : List Bool := []
noncomputable def f42 (x : gi42.D) : Option go42.D :=
  (Option.bind (Go.Ev.Box.f28 (x.1, (x.2.1, Unit.unit))) (fun y1 => (if ((Bool.not y1.1) = true) then (some ((0 : Int), ((1 : Int), Unit.unit)))
   else (Option.bind (Go.Ev.Box.f28 (x.2.2.1, (x.2.2.2.1, Unit.unit))) (fun y2 => (if ((Bool.not y2.1) = true) then (some ((0 : Int), ((1 : Int), Unit.unit)))
   else (Option.bind (Go.Ev.Box.f52 (x.1, (x.2.1, Unit.unit))) (fun y3 => (Option.bind (Go.Ev.Box.f52 (x.2.2.1, (x.2.2.2.1, Unit.unit))) (fun y4 => (Option.bind (Go.Ev.Box.f53 (y3.1, (y3.2.1, (y3.2.2.1, ((Max.max y3.2.2.1 y4.2.2.1), Unit.unit))))) (fun y5 => (Option.bind (Go.Ev.Box.f53 (y4.1, (y4.2.1, (y4.2.2.1, ((Max.max y3.2.2.1 y4.2.2.1), Unit.unit))))) (fun y6 => (Option.bind (Go.Ev.Box.f54 (y5.2.1, (y6.2.1, Unit.unit))) (fun y7 => (Option.bind (Go.Ev.Box.f54 (y6.2.1, (y5.2.1, Unit.unit))) (fun y8 => (if ((Bool.not (y5.1 == y6.1)) = true) then (if (y5.1 = true) then (some ((-1 : Int), ((0 : Int), Unit.unit)))
   else (if (y6.1 = true) then (some ((1 : Int), ((0 : Int), Unit.unit)))
   else (some ((0 : Int), ((0 : Int), Unit.unit)))))
   else (if (y5.1 = true) then (if (y8.1 = true) then (some ((-1 : Int), ((0 : Int), Unit.unit)))
   else (if (y7.1 = true) then (some ((1 : Int), ((0 : Int), Unit.unit)))
   else (some ((0 : Int), ((0 : Int), Unit.unit)))))
   else (if (y7.1 = true) then (some ((-1 : Int), ((0 : Int), Unit.unit)))
   else (if (y8.1 = true) then (some ((1 : Int), ((0 : Int), Unit.unit)))
   else (some ((0 : Int), ((0 : Int), Unit.unit)))))))))))))))))))))))))
theorem f42_eq (x : gi42.D) : f42 x = evF P (T54.orc _) Go.Proofs.Try.f42.ntmps fx42 c42 (planAt 64 []) gi42 x (fnK fx42 [go42]) := by kernel_rfl
theorem f42_ok : EntOk P 42 ⟨gi42, [go42], f42⟩ :=
  ent_ok (fn := Go.Proofs.Try.f42) (gi := gi42) (gos := [go42]) (f := f42) (c := c42) (fx := fx42) ⟨Go.Proofs.Try.func42, by kernel_rfl, rfl, by decide +kernel, rfl, rfl⟩ (by kernel_rfl) (Table.ok T54_ok _) hmix (planAt_ok (P := P) (n := Go.Proofs.Try.f42.ntmps) (fx := fx42) (c := c42) (d := 64) (l := []) trivial) f42_eq
noncomputable def T42 : Table := T54.add 42 [⟨gi42, [go42], f42⟩] []
theorem T42_ok : TableOk P T42 := Table.plus T54_ok (es := [⟨gi42, [go42], f42⟩]) ⟨f42_ok, trivial⟩ []

/-! ## 30: erasure/erasureref03.upto -/
noncomputable def c30 : Code := Func.code Go.Proofs.Try.f30
abbrev gi30 : Sg := ⟨[0, 1], [.agg [.lf (.int .i64), .lf (.int .i64)], .agg [.lf (.int .i64), .lf (.int .i64)]], []⟩
abbrev go30 : Sg := ⟨[4], [.lf .bool], []⟩
def fx30 : List Bool := []
noncomputable def f30 (x : gi30.D) : Option go30.D :=
  (Option.bind (Go.Ev.Box.f42 (x.1, (x.2.1, (x.2.2.1, (x.2.2.2.1, Unit.unit))))) (fun y1 => (some ((decide (y1.1 ≤ (0 : Int))), Unit.unit))))
theorem f30_eq (x : gi30.D) : f30 x = evF P (T42.orc _) Go.Proofs.Try.f30.ntmps fx30 c30 (planAt 64 []) gi30 x (fnK fx30 [go30]) := by kernel_rfl
theorem f30_ok : EntOk P 30 ⟨gi30, [go30], f30⟩ :=
  ent_ok (fn := Go.Proofs.Try.f30) (gi := gi30) (gos := [go30]) (f := f30) (c := c30) (fx := fx30) ⟨Go.Proofs.Try.func30, by kernel_rfl, rfl, by decide +kernel, rfl, rfl⟩ (by kernel_rfl) (Table.ok T42_ok _) hmix (planAt_ok (P := P) (n := Go.Proofs.Try.f30.ntmps) (fx := fx30) (c := c30) (d := 64) (l := []) trivial) f30_eq
noncomputable def T30 : Table := T42.add 30 [⟨gi30, [go30], f30⟩] []
theorem T30_ok : TableOk P T30 := Table.plus T42_ok (es := [⟨gi30, [go30], f30⟩]) ⟨f30_ok, trivial⟩ []

/-! ## 32: erasure/erasureref03.least -/
noncomputable def c32 : Code := Func.code Go.Proofs.Try.f32
abbrev gi32 : Sg := ⟨[0, 1], [.agg [.lf (.int .i64), .lf (.int .i64)], .agg [.lf (.int .i64), .lf (.int .i64)]], []⟩
abbrev go32 : Sg := ⟨[0], [.agg [.lf (.int .i64), .lf (.int .i64)]], []⟩
def fx32 : List Bool := []
noncomputable def f32 (x : gi32.D) : Option go32.D :=
  (Option.bind (Go.Ev.Box.f30 (x.1, (x.2.1, (x.2.2.1, (x.2.2.2.1, Unit.unit))))) (fun y1 => (if (y1.1 = true) then (some (x.1, (x.2.1, Unit.unit)))
   else (some (x.2.2.1, (x.2.2.2.1, Unit.unit))))))
theorem f32_eq (x : gi32.D) : f32 x = evF P (T30.orc _) Go.Proofs.Try.f32.ntmps fx32 c32 (planAt 64 []) gi32 x (fnKR P Go.Proofs.Try.f32 fx32 [go32]) := by kernel_rfl
theorem f32_ok : EntOk P 32 ⟨gi32, [go32], f32⟩ :=
  ent_okR (fn := Go.Proofs.Try.f32) (gi := gi32) (gos := [go32]) (f := f32) (c := c32) (fx := fx32) ⟨Go.Proofs.Try.func32, by kernel_rfl, rfl, by decide +kernel, rfl, rfl⟩ (Table.ok T30_ok _) hmix (planAt_ok (P := P) (n := Go.Proofs.Try.f32.ntmps) (fx := fx32) (c := c32) (d := 64) (l := []) trivial) f32_eq
noncomputable def T32 : Table := T30.add 32 [⟨gi32, [go32], f32⟩] []
theorem T32_ok : TableOk P T32 := Table.plus T30_ok (es := [⟨gi32, [go32], f32⟩]) ⟨f32_ok, trivial⟩ []

/-! ## 31: erasure/erasureref03.most -/
noncomputable def c31 : Code := Func.code Go.Proofs.Try.f31
abbrev gi31 : Sg := ⟨[0, 1], [.agg [.lf (.int .i64), .lf (.int .i64)], .agg [.lf (.int .i64), .lf (.int .i64)]], []⟩
abbrev go31 : Sg := ⟨[0], [.agg [.lf (.int .i64), .lf (.int .i64)]], []⟩
def fx31 : List Bool := []
noncomputable def f31 (x : gi31.D) : Option go31.D :=
  (Option.bind (Go.Ev.Box.f30 (x.1, (x.2.1, (x.2.2.1, (x.2.2.2.1, Unit.unit))))) (fun y1 => (if (y1.1 = true) then (some (x.2.2.1, (x.2.2.2.1, Unit.unit)))
   else (some (x.1, (x.2.1, Unit.unit))))))
theorem f31_eq (x : gi31.D) : f31 x = evF P (T32.orc _) Go.Proofs.Try.f31.ntmps fx31 c31 (planAt 64 []) gi31 x (fnKR P Go.Proofs.Try.f31 fx31 [go31]) := by kernel_rfl
theorem f31_ok : EntOk P 31 ⟨gi31, [go31], f31⟩ :=
  ent_okR (fn := Go.Proofs.Try.f31) (gi := gi31) (gos := [go31]) (f := f31) (c := c31) (fx := fx31) ⟨Go.Proofs.Try.func31, by kernel_rfl, rfl, by decide +kernel, rfl, rfl⟩ (Table.ok T32_ok _) hmix (planAt_ok (P := P) (n := Go.Proofs.Try.f31.ntmps) (fx := fx31) (c := c31) (d := 64) (l := []) trivial) f31_eq
noncomputable def T31 : Table := T32.add 31 [⟨gi31, [go31], f31⟩] []
theorem T31_ok : TableOk P T31 := Table.plus T32_ok (es := [⟨gi31, [go31], f31⟩]) ⟨f31_ok, trivial⟩ []

/-! ## 29: erasure/erasureref03.around -/
noncomputable def c29 : Code := Func.code Go.Proofs.Try.f29
abbrev gi29 : Sg := ⟨[0, 1], [.agg [.lf (.int .i64), .lf (.int .i64), .lf (.int .i64), .lf (.int .i64), .lf (.int .i64), .lf (.int .i64), .lf (.int .i64), .lf (.int .i64)], .agg [.lf (.int .i64), .lf (.int .i64), .lf (.int .i64), .lf (.int .i64), .lf (.int .i64), .lf (.int .i64), .lf (.int .i64), .lf (.int .i64)]], []⟩
abbrev go29 : Sg := ⟨[0], [.agg [.lf (.int .i64), .lf (.int .i64), .lf (.int .i64), .lf (.int .i64), .lf (.int .i64), .lf (.int .i64), .lf (.int .i64), .lf (.int .i64)]], []⟩
def fx29 : List Bool := []
noncomputable def f29 (x : gi29.D) : Option go29.D :=
  (Option.bind (Go.Ev.Box.f32 (x.1, (x.2.1, (x.2.2.2.2.2.2.2.2.1, (x.2.2.2.2.2.2.2.2.2.1, Unit.unit))))) (fun y1 => (Option.bind (Go.Ev.Box.f32 (x.2.2.1, (x.2.2.2.1, (x.2.2.2.2.2.2.2.2.2.2.1, (x.2.2.2.2.2.2.2.2.2.2.2.1, Unit.unit))))) (fun y2 => (Option.bind (Go.Ev.Box.f31 (x.2.2.2.2.1, (x.2.2.2.2.2.1, (x.2.2.2.2.2.2.2.2.2.2.2.2.1, (x.2.2.2.2.2.2.2.2.2.2.2.2.2.1, Unit.unit))))) (fun y3 => (Option.bind (Go.Ev.Box.f31 (x.2.2.2.2.2.2.1, (x.2.2.2.2.2.2.2.1, (x.2.2.2.2.2.2.2.2.2.2.2.2.2.2.1, (x.2.2.2.2.2.2.2.2.2.2.2.2.2.2.2.1, Unit.unit))))) (fun y4 => (some (y1.1, (y1.2.1, (y2.1, (y2.2.1, (y3.1, (y3.2.1, (y4.1, (y4.2.1, Unit.unit)))))))))))))))))
theorem f29_eq (x : gi29.D) : f29 x = evF P (T31.orc _) Go.Proofs.Try.f29.ntmps fx29 c29 (planAt 64 []) gi29 x (fnKR P Go.Proofs.Try.f29 fx29 [go29]) := by kernel_rfl
theorem f29_ok : EntOk P 29 ⟨gi29, [go29], f29⟩ :=
  ent_okR (fn := Go.Proofs.Try.f29) (gi := gi29) (gos := [go29]) (f := f29) (c := c29) (fx := fx29) ⟨Go.Proofs.Try.func29, by kernel_rfl, rfl, by decide +kernel, rfl, rfl⟩ (Table.ok T31_ok _) hmix (planAt_ok (P := P) (n := Go.Proofs.Try.f29.ntmps) (fx := fx29) (c := c29) (d := 64) (l := []) trivial) f29_eq
noncomputable def T29 : Table := T31.add 29 [⟨gi29, [go29], f29⟩] []
theorem T29_ok : TableOk P T29 := Table.plus T31_ok (es := [⟨gi29, [go29], f29⟩]) ⟨f29_ok, trivial⟩ []

/-! ## 12: erasure/erasureref03.Of -/
noncomputable def c12 : Code := Func.code Go.Proofs.Try.f12
abbrev gi12 : Sg := ⟨[0], [.lf (.sl (.pair (.pair (.int .i64) (.int .i64)) (.pair (.int .i64) (.int .i64))))], []⟩
abbrev go12 : Sg := ⟨[0, 3], [.agg [.lf (.int .i64), .lf (.int .i64), .lf (.int .i64), .lf (.int .i64), .lf (.int .i64), .lf (.int .i64), .lf (.int .i64), .lf (.int .i64)], .lf (.int .i64)], []⟩
def fx12 : List Bool := []
abbrev g12_2 : Sg := ⟨[0, 2, 5, 6], [.lf (.sl (.pair (.pair (.int .i64) (.int .i64)) (.pair (.int .i64) (.int .i64)))), .lf (.ptr 0 0), .lf (.ptr 1 0), .lf (.int .i64)], [some (.box true [.lf (.int .i64), .lf (.int .i64), .lf (.int .i64), .lf (.int .i64), .lf (.int .i64), .lf (.int .i64), .lf (.int .i64), .lf (.int .i64)]), some (.box true [.lf (.int .i64), .lf (.int .i64), .lf (.int .i64), .lf (.int .i64), .lf (.int .i64), .lf (.int .i64), .lf (.int .i64), .lf (.int .i64)])]⟩
abbrev o12_2 : Outs := [(.exit 2, ⟨[2, 5], [.lf (.ptr 0 0), .lf (.ptr 1 0)], [some (.box true [.lf (.int .i64), .lf (.int .i64), .lf (.int .i64), .lf (.int .i64), .lf (.int .i64), .lf (.int .i64), .lf (.int .i64), .lf (.int .i64)]), some (.box true [.lf (.int .i64), .lf (.int .i64), .lf (.int .i64), .lf (.int .i64), .lf (.int .i64), .lf (.int .i64), .lf (.int .i64), .lf (.int .i64)])]⟩)]
noncomputable def b12_2 (x : g12_2.D) : Option (outD ((.normal, g12_2) :: o12_2)) :=
  (if ((decide (x.2.1 < (((List.length x.1) : Nat) : Int))) = true) then (if ((0 : Int) ≤ x.2.1) then (if (x.2.1 < (((List.length x.1) : Nat) : Int)) then (if ((0 : Int) ≤ x.2.1) then (if (x.2.1 < (((List.length x.1) : Nat) : Int)) then (if ((0 : Int) ≤ x.2.1) then (if (x.2.1 < (((List.length x.1) : Nat) : Int)) then (if ((0 : Int) ≤ x.2.1) then (if (x.2.1 < (((List.length x.1) : Nat) : Int)) then (Option.bind (Go.Ev.Box.f29 (x.2.2.2.2.2.2.2.2.2.2.1, (x.2.2.2.2.2.2.2.2.2.2.2.1, (x.2.2.2.2.2.2.2.2.2.2.2.2.1, (x.2.2.2.2.2.2.2.2.2.2.2.2.2.1, (x.2.2.2.2.2.2.2.2.2.2.2.2.2.2.1, (x.2.2.2.2.2.2.2.2.2.2.2.2.2.2.2.1, (x.2.2.2.2.2.2.2.2.2.2.2.2.2.2.2.2.1, (x.2.2.2.2.2.2.2.2.2.2.2.2.2.2.2.2.2.1, ((List.getD x.1 (Int.toNat x.2.1) (((0 : Int), (0 : Int)), ((0 : Int), (0 : Int)))).1.1, ((List.getD x.1 (Int.toNat x.2.1) (((0 : Int), (0 : Int)), ((0 : Int), (0 : Int)))).1.2, ((List.getD x.1 (Int.toNat x.2.1) (((0 : Int), (0 : Int)), ((0 : Int), (0 : Int)))).2.1, ((List.getD x.1 (Int.toNat x.2.1) (((0 : Int), (0 : Int)), ((0 : Int), (0 : Int)))).2.2, ((List.getD x.1 (Int.toNat x.2.1) (((0 : Int), (0 : Int)), ((0 : Int), (0 : Int)))).1.1, ((List.getD x.1 (Int.toNat x.2.1) (((0 : Int), (0 : Int)), ((0 : Int), (0 : Int)))).1.2, ((List.getD x.1 (Int.toNat x.2.1) (((0 : Int), (0 : Int)), ((0 : Int), (0 : Int)))).2.1, ((List.getD x.1 (Int.toNat x.2.1) (((0 : Int), (0 : Int)), ((0 : Int), (0 : Int)))).2.2, Unit.unit))))))))))))))))) (fun y1 => (some (Sum.inl (x.1, ((Go.IntKind.wrap Go.IntKind.i64 (x.2.1 + (1 : Int))), (x.2.2.1, (x.2.2.2.1, (x.2.2.2.2.1, (x.2.2.2.2.2.1, (x.2.2.2.2.2.2.1, (x.2.2.2.2.2.2.2.1, (x.2.2.2.2.2.2.2.2.1, (x.2.2.2.2.2.2.2.2.2.1, (y1.1, (y1.2.1, (y1.2.2.1, (y1.2.2.2.1, (y1.2.2.2.2.1, (y1.2.2.2.2.2.1, (y1.2.2.2.2.2.2.1, (y1.2.2.2.2.2.2.2.1, Unit.unit))))))))))))))))))))))
   else none)
   else none)
   else none)
   else none)
   else none)
   else none)
   else none)
   else none)
   else (some (Sum.inr (Sum.inl (x.2.2.1, (x.2.2.2.1, (x.2.2.2.2.1, (x.2.2.2.2.2.1, (x.2.2.2.2.2.2.1, (x.2.2.2.2.2.2.2.1, (x.2.2.2.2.2.2.2.2.1, (x.2.2.2.2.2.2.2.2.2.1, (x.2.2.2.2.2.2.2.2.2.2.1, (x.2.2.2.2.2.2.2.2.2.2.2.1, (x.2.2.2.2.2.2.2.2.2.2.2.2.1, (x.2.2.2.2.2.2.2.2.2.2.2.2.2.1, (x.2.2.2.2.2.2.2.2.2.2.2.2.2.2.1, (x.2.2.2.2.2.2.2.2.2.2.2.2.2.2.2.1, (x.2.2.2.2.2.2.2.2.2.2.2.2.2.2.2.2.1, (x.2.2.2.2.2.2.2.2.2.2.2.2.2.2.2.2.2.1, Unit.unit))))))))))))))))))))
theorem b12_2_eq (x : g12_2.D) : b12_2 x = evF P (T29.orc _) Go.Proofs.Try.f12.ntmps fx12 (Code.at [true, true, true, true, false, true, false, false] c12) (planAt 64 []) g12_2 x (injK fx12 ((.normal, g12_2) :: o12_2) some) := by kernel_rfl
noncomputable def l12_2 : g12_2.D → Option (outD o12_2) := loopN g12_2 o12_2 b12_2 18446744073709551616
theorem at12_2 : Code.at [true, true, true, true, false, true, false] c12 = .loop (Code.at [true, true, true, true, false, true, false, false] c12) := by kernel_rfl
theorem s12_2_ok : SubOk P Go.Proofs.Try.f12.ntmps fx12 (Code.at [true, true, true, true, false, true, false] c12) ⟨g12_2, o12_2, l12_2⟩ := by
  rw [at12_2]
  exact loop_ok (sub_ok (g := g12_2) (outs := ((.normal, g12_2) :: o12_2)) (f := b12_2) (Table.ok T29_ok _) hmix (planAt_ok (P := P) (n := Go.Proofs.Try.f12.ntmps) (fx := fx12) (c := (Code.at [true, true, true, true, false, true, false, false] c12)) (d := 64) (l := []) trivial) b12_2_eq) rfl _
abbrev g12_1 : Sg := ⟨[0, 2, 4], [.lf (.sl (.pair (.pair (.int .i64) (.int .i64)) (.pair (.int .i64) (.int .i64)))), .lf (.ptr 0 0), .lf (.int .i64)], [some (.box true [.lf (.int .i64), .lf (.int .i64), .lf (.int .i64), .lf (.int .i64), .lf (.int .i64), .lf (.int .i64), .lf (.int .i64), .lf (.int .i64)])]⟩
abbrev o12_1 : Outs := [(.exit 0, ⟨[0, 2], [.lf (.sl (.pair (.pair (.int .i64) (.int .i64)) (.pair (.int .i64) (.int .i64)))), .lf (.ptr 0 0)], [some (.box true [.lf (.int .i64), .lf (.int .i64), .lf (.int .i64), .lf (.int .i64), .lf (.int .i64), .lf (.int .i64), .lf (.int .i64), .lf (.int .i64)])]⟩), (.ret, ⟨[2, 3], [.lf (.ptr 0 0), .lf (.int .i64)], [some (.box true [.lf (.int .i64), .lf (.int .i64), .lf (.int .i64), .lf (.int .i64), .lf (.int .i64), .lf (.int .i64), .lf (.int .i64), .lf (.int .i64)])]⟩)]
noncomputable def b12_1 (x : g12_1.D) : Option (outD ((.normal, g12_1) :: o12_1)) :=
  (if ((decide (x.2.1 < (((List.length x.1) : Nat) : Int))) = true) then (if ((0 : Int) ≤ x.2.1) then (if (x.2.1 < (((List.length x.1) : Nat) : Int)) then (Option.bind (Go.Ev.Box.f28 ((List.getD x.1 (Int.toNat x.2.1) (((0 : Int), (0 : Int)), ((0 : Int), (0 : Int)))).1.1, ((List.getD x.1 (Int.toNat x.2.1) (((0 : Int), (0 : Int)), ((0 : Int), (0 : Int)))).1.2, Unit.unit))) (fun y1 => (if ((Bool.not y1.1) = true) then (some (Sum.inr (Sum.inr (Sum.inl ((1 : Int), ((0 : Int), ((0 : Int), ((0 : Int), ((0 : Int), ((0 : Int), ((0 : Int), ((0 : Int), ((0 : Int), Unit.unit)))))))))))))
   else (if ((0 : Int) ≤ x.2.1) then (if (x.2.1 < (((List.length x.1) : Nat) : Int)) then (Option.bind (Go.Ev.Box.f28 ((List.getD x.1 (Int.toNat x.2.1) (((0 : Int), (0 : Int)), ((0 : Int), (0 : Int)))).2.1, ((List.getD x.1 (Int.toNat x.2.1) (((0 : Int), (0 : Int)), ((0 : Int), (0 : Int)))).2.2, Unit.unit))) (fun y2 => (if ((Bool.not y2.1) = true) then (some (Sum.inr (Sum.inr (Sum.inl ((1 : Int), ((0 : Int), ((0 : Int), ((0 : Int), ((0 : Int), ((0 : Int), ((0 : Int), ((0 : Int), ((0 : Int), Unit.unit)))))))))))))
   else (some (Sum.inl (x.1, ((Go.IntKind.wrap Go.IntKind.i64 (x.2.1 + (1 : Int))), (x.2.2.1, (x.2.2.2.1, (x.2.2.2.2.1, (x.2.2.2.2.2.1, (x.2.2.2.2.2.2.1, (x.2.2.2.2.2.2.2.1, (x.2.2.2.2.2.2.2.2.1, (x.2.2.2.2.2.2.2.2.2.1, Unit.unit)))))))))))))))
   else none)
   else none))))
   else none)
   else none)
   else (some (Sum.inr (Sum.inl (x.1, (x.2.2.1, (x.2.2.2.1, (x.2.2.2.2.1, (x.2.2.2.2.2.1, (x.2.2.2.2.2.2.1, (x.2.2.2.2.2.2.2.1, (x.2.2.2.2.2.2.2.2.1, (x.2.2.2.2.2.2.2.2.2.1, Unit.unit)))))))))))))
theorem b12_1_eq (x : g12_1.D) : b12_1 x = evF P (T29.orc _) Go.Proofs.Try.f12.ntmps fx12 (Code.at [true, true, false, true, false, false] c12) (planAt 64 []) g12_1 x (injK fx12 ((.normal, g12_1) :: o12_1) some) := by kernel_rfl
noncomputable def l12_1 : g12_1.D → Option (outD o12_1) := loopN g12_1 o12_1 b12_1 18446744073709551616
theorem at12_1 : Code.at [true, true, false, true, false] c12 = .loop (Code.at [true, true, false, true, false, false] c12) := by kernel_rfl
theorem s12_1_ok : SubOk P Go.Proofs.Try.f12.ntmps fx12 (Code.at [true, true, false, true, false] c12) ⟨g12_1, o12_1, l12_1⟩ := by
  rw [at12_1]
  exact loop_ok (sub_ok (g := g12_1) (outs := ((.normal, g12_1) :: o12_1)) (f := b12_1) (Table.ok T29_ok _) hmix (planAt_ok (P := P) (n := Go.Proofs.Try.f12.ntmps) (fx := fx12) (c := (Code.at [true, true, false, true, false, false] c12)) (d := 64) (l := []) trivial) b12_1_eq) rfl _
noncomputable def f12 (x : gi12.D) : Option go12.D :=
  (if (((((List.length x.1) : Nat) : Int) == (0 : Int)) = true) then (some ((0 : Int), ((0 : Int), ((0 : Int), ((0 : Int), ((0 : Int), ((0 : Int), ((0 : Int), ((0 : Int), ((8 : Int), Unit.unit))))))))))
   else (Option.bind (Go.Ev.Box.l12_1 (x.1, ((0 : Int), ((0 : Int), ((0 : Int), ((0 : Int), ((0 : Int), ((0 : Int), ((0 : Int), ((0 : Int), ((0 : Int), Unit.unit))))))))))) (Sum.elim (fun y1 => (if ((0 : Int) < (((List.length y1.1) : Nat) : Int)) then (if ((0 : Int) < (((List.length y1.1) : Nat) : Int)) then (if ((0 : Int) < (((List.length y1.1) : Nat) : Int)) then (if ((0 : Int) < (((List.length y1.1) : Nat) : Int)) then (Option.bind (Go.Ev.Box.l12_2 (y1.1, ((1 : Int), (y1.2.1, (y1.2.2.1, (y1.2.2.2.1, (y1.2.2.2.2.1, (y1.2.2.2.2.2.1, (y1.2.2.2.2.2.2.1, (y1.2.2.2.2.2.2.2.1, (y1.2.2.2.2.2.2.2.2.1, ((List.getD y1.1 (0 : Nat) (((0 : Int), (0 : Int)), ((0 : Int), (0 : Int)))).1.1, ((List.getD y1.1 (0 : Nat) (((0 : Int), (0 : Int)), ((0 : Int), (0 : Int)))).1.2, ((List.getD y1.1 (0 : Nat) (((0 : Int), (0 : Int)), ((0 : Int), (0 : Int)))).2.1, ((List.getD y1.1 (0 : Nat) (((0 : Int), (0 : Int)), ((0 : Int), (0 : Int)))).2.2, ((List.getD y1.1 (0 : Nat) (((0 : Int), (0 : Int)), ((0 : Int), (0 : Int)))).1.1, ((List.getD y1.1 (0 : Nat) (((0 : Int), (0 : Int)), ((0 : Int), (0 : Int)))).1.2, ((List.getD y1.1 (0 : Nat) (((0 : Int), (0 : Int)), ((0 : Int), (0 : Int)))).2.1, ((List.getD y1.1 (0 : Nat) (((0 : Int), (0 : Int)), ((0 : Int), (0 : Int)))).2.2, Unit.unit))))))))))))))))))) (Sum.elim (fun y2 => (some (y2.2.2.2.2.2.2.2.2.1, (y2.2.2.2.2.2.2.2.2.2.1, (y2.2.2.2.2.2.2.2.2.2.2.1, (y2.2.2.2.2.2.2.2.2.2.2.2.1, (y2.2.2.2.2.2.2.2.2.2.2.2.2.1, (y2.2.2.2.2.2.2.2.2.2.2.2.2.2.1, (y2.2.2.2.2.2.2.2.2.2.2.2.2.2.2.1, (y2.2.2.2.2.2.2.2.2.2.2.2.2.2.2.2.1, ((0 : Int), Unit.unit))))))))))) Empty.elim))
   else none)
   else none)
   else none)
   else none)) (Sum.elim (fun y1 => (some (y1.2.1, (y1.2.2.1, (y1.2.2.2.1, (y1.2.2.2.2.1, (y1.2.2.2.2.2.1, (y1.2.2.2.2.2.2.1, (y1.2.2.2.2.2.2.2.1, (y1.2.2.2.2.2.2.2.2.1, (y1.1, Unit.unit))))))))))) Empty.elim))))
theorem f12_eq (x : gi12.D) : f12 x = evF P (T29.orc _) Go.Proofs.Try.f12.ntmps fx12 c12 (planAt 64 [([true, true, false, true, false], ⟨g12_1, o12_1, l12_1⟩), ([true, true, true, true, false, true, false], ⟨g12_2, o12_2, l12_2⟩)]) gi12 x (fnKR P Go.Proofs.Try.f12 fx12 [go12]) := by kernel_rfl
theorem pf12 : AllSub P Go.Proofs.Try.f12.ntmps fx12 c12 [([true, true, false, true, false], ⟨g12_1, o12_1, l12_1⟩), ([true, true, true, true, false, true, false], ⟨g12_2, o12_2, l12_2⟩)] := And.intro s12_1_ok (And.intro s12_2_ok (trivial))
theorem qf12 : PlanOk P Go.Proofs.Try.f12.ntmps fx12 (planAt 64 [([true, true, false, true, false], ⟨g12_1, o12_1, l12_1⟩), ([true, true, true, true, false, true, false], ⟨g12_2, o12_2, l12_2⟩)]) c12 := planAt_ok pf12
theorem f12_ok : EntOk P 12 ⟨gi12, [go12], f12⟩ :=
  ent_okR (fn := Go.Proofs.Try.f12) (gi := gi12) (gos := [go12]) (f := f12) (c := c12) (fx := fx12) ⟨Go.Proofs.Try.func12, by kernel_rfl, rfl, by decide +kernel, rfl, rfl⟩ (Table.ok T29_ok _) hmix (qf12) f12_eq
noncomputable def T12 : Table := T29.add 12 [⟨gi12, [go12], f12⟩] []
theorem T12_ok : TableOk P T12 := Table.plus T29_ok (es := [⟨gi12, [go12], f12⟩]) ⟨f12_ok, trivial⟩ []

/-! ## 18: erasure/erasureref03.Right -/
noncomputable def c18 : Code := Func.code Go.Proofs.Try.f18
end Go.Ev.Box
