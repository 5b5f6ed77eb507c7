/- Part of a proof about the given program: F. -/
import Derived.Test.YtdefmjofnceckaaEvZ
import Derived.Test.YtdefmjofnceckaaChecked
namespace Go.Ev.Matrix
open Go.Ev

noncomputable abbrev P := Go.Proofs.Try.prog
set_option maxRecDepth 1000000
theorem hmix : P.follows .mixedOrders = true := by kernel_rfl
noncomputable def TX27 : Table := Table.empty.addX 27 .add64
theorem TX27_ok : TableOk P TX27 := Table.addX_ok (Table.empty_ok P) ⟨Go.Proofs.Try.f27, Go.Proofs.Try.func27, by kernel_rfl, by kernel_rfl, by kernel_rfl, by kernel_rfl⟩
noncomputable def TX30 : Table := TX27.addX 30 .sub64
theorem TX30_ok : TableOk P TX30 := Table.addX_ok TX27_ok ⟨Go.Proofs.Try.f30, Go.Proofs.Try.func30, by kernel_rfl, by kernel_rfl, by kernel_rfl, by kernel_rfl⟩

/-! ## 19: erasure/dec.Check -/
noncomputable def c19 : Code := Func.code Go.Proofs.Try.f19
abbrev gi19 : Sg := ⟨[0], [.agg [.lf (.int .i64), .lf (.int .i64)]], []⟩
abbrev go19 : Sg := ⟨[2], [.lf (.int .i64)], []⟩
def fx19 : List Bool := []
noncomputable def f19 (x : gi19.D) : Option go19.D :=
  (if ((decide (x.1 < (-999999999999999999 : Int))) = true) then (some ((1 : Int), Unit.unit))
   else (if ((decide (x.1 > (999999999999999999 : Int))) = true) then (some ((1 : Int), Unit.unit))
   else (if ((decide (x.2.1 < (0 : Int))) = true) then (some ((1 : Int), Unit.unit))
   else (if ((decide (x.2.1 > (9 : Int))) = true) then (some ((1 : Int), Unit.unit))
   else (if ((decide (x.2.1 > (0 : Int))) = true) then (if (((Int.tmod x.1 (10 : Int)) == (0 : Int)) = true) then (some ((1 : Int), Unit.unit))
   else (some ((0 : Int), Unit.unit)))
   else (some ((0 : Int), Unit.unit)))))))
theorem f19_eq (x : gi19.D) : f19 x = evF P (TX30.orc _) Go.Proofs.Try.f19.ntmps fx19 c19 (planAt 64 []) gi19 x (fnK fx19 [go19]) := by kernel_rfl
theorem f19_ok : EntOk P 19 ⟨gi19, [go19], f19⟩ :=
  ent_ok (fn := Go.Proofs.Try.f19) (gi := gi19) (gos := [go19]) (f := f19) (c := c19) (fx := fx19) ⟨Go.Proofs.Try.func19, by kernel_rfl, rfl, by decide +kernel, rfl, rfl⟩ (by kernel_rfl) (Table.ok TX30_ok _) hmix (planAt_ok (P := P) (n := Go.Proofs.Try.f19.ntmps) (fx := fx19) (c := c19) (d := 64) (l := []) trivial) f19_eq
noncomputable def T19 : Table := TX30.add 19 [⟨gi19, [go19], f19⟩] []
theorem T19_ok : TableOk P T19 := Table.plus TX30_ok (es := [⟨gi19, [go19], f19⟩]) ⟨f19_ok, trivial⟩ []

/-! ## 21: erasure/matrix.right -/
noncomputable def c21 : Code := Func.code Go.Proofs.Try.f21
abbrev gi21 : Sg := ⟨[0], [.lf (.sl (.pair (.int .i64) (.int .i64)))], []⟩
abbrev go21 : Sg := ⟨[2], [.lf .bool], []⟩
def fx21 : List Bool := []
abbrev g21_1 : Sg := ⟨[5, 6, 7], [.lf (.sl (.pair (.int .i64) (.int .i64))), .lf (.int .i64), .lf (.int .i64)], []⟩
abbrev o21_1 : Outs := [(.exit 0, ⟨[], [], []⟩), (.ret, ⟨[2], [.lf .bool], []⟩)]
noncomputable def b21_1 (x : g21_1.D) : Option (outD ((.normal, g21_1) :: o21_1)) :=
  (if ((decide (x.2.2.1 < x.2.1)) = true) then (if ((0 : Int) ≤ x.2.2.1) then (if (x.2.2.1 < (((List.length x.1) : Nat) : Int)) then (Option.bind (Go.Ev.Matrix.f19 ((List.getD x.1 (Int.toNat x.2.2.1) ((0 : Int), (0 : Int))).1, ((List.getD x.1 (Int.toNat x.2.2.1) ((0 : Int), (0 : Int))).2, Unit.unit))) (fun y1 => (if ((y1.1 != (0 : Int)) = true) then (some (Sum.inr (Sum.inr (Sum.inl (false, Unit.unit)))))
   else (some (Sum.inl (x.1, (x.2.1, ((Go.IntKind.wrap Go.IntKind.i64 (x.2.2.1 + (1 : Int))), Unit.unit))))))))
   else none)
   else none)
   else (some (Sum.inr (Sum.inl Unit.unit))))
theorem b21_1_eq (x : g21_1.D) : b21_1 x = evF P (T19.orc _) Go.Proofs.Try.f21.ntmps fx21 (Code.at [true, false, true, false, false] c21) (planAt 64 []) g21_1 x (injK fx21 ((.normal, g21_1) :: o21_1) some) := by kernel_rfl
noncomputable def l21_1 : g21_1.D → Option (outD o21_1) := loopN g21_1 o21_1 b21_1 18446744073709551616
theorem at21_1 : Code.at [true, false, true, false] c21 = .loop (Code.at [true, false, true, false, false] c21) := by kernel_rfl
theorem s21_1_ok : SubOk P Go.Proofs.Try.f21.ntmps fx21 (Code.at [true, false, true, false] c21) ⟨g21_1, o21_1, l21_1⟩ := by
  rw [at21_1]
  exact loop_ok (sub_ok (g := g21_1) (outs := ((.normal, g21_1) :: o21_1)) (f := b21_1) (Table.ok T19_ok _) hmix (planAt_ok (P := P) (n := Go.Proofs.Try.f21.ntmps) (fx := fx21) (c := (Code.at [true, false, true, false, false] c21)) (d := 64) (l := []) trivial) b21_1_eq) rfl _
noncomputable def f21 (x : gi21.D) : Option go21.D :=
  (Option.bind (Go.Ev.Matrix.l21_1 (x.1, ((((List.length x.1) : Nat) : Int), ((0 : Int), Unit.unit)))) (Sum.elim (fun _ => (some (true, Unit.unit))) (Sum.elim (fun y1 => (some (y1.1, Unit.unit))) Empty.elim)))
theorem f21_eq (x : gi21.D) : f21 x = evF P (T19.orc _) Go.Proofs.Try.f21.ntmps fx21 c21 (planAt 64 [([true, false, true, false], ⟨g21_1, o21_1, l21_1⟩)]) gi21 x (fnK fx21 [go21]) := by kernel_rfl
theorem pf21 : AllSub P Go.Proofs.Try.f21.ntmps fx21 c21 [([true, false, true, false], ⟨g21_1, o21_1, l21_1⟩)] := And.intro s21_1_ok (trivial)
theorem qf21 : PlanOk P Go.Proofs.Try.f21.ntmps fx21 (planAt 64 [([true, false, true, false], ⟨g21_1, o21_1, l21_1⟩)]) c21 := planAt_ok pf21
theorem f21_ok : EntOk P 21 ⟨gi21, [go21], f21⟩ :=
  ent_ok (fn := Go.Proofs.Try.f21) (gi := gi21) (gos := [go21]) (f := f21) (c := c21) (fx := fx21) ⟨Go.Proofs.Try.func21, by kernel_rfl, rfl, by decide +kernel, rfl, rfl⟩ (by kernel_rfl) (Table.ok T19_ok _) hmix (qf21) f21_eq
noncomputable def T21 : Table := T19.add 21 [⟨gi21, [go21], f21⟩] []
theorem T21_ok : TableOk P T21 := Table.plus T19_ok (es := [⟨gi21, [go21], f21⟩]) ⟨f21_ok, trivial⟩ []

/-! ## 15: erasure/matrix.Check -/
noncomputable def c15 : Code := Func.code Go.Proofs.Try.f15
abbrev gi15 : Sg := ⟨[0], [.agg [.lf (.int .i64), .lf (.int .i64), .lf (.int .i64), .lf (.int .i64), .lf (.int .i64), .lf (.int .i64), .lf (.int .i64), .lf (.int .i64), .lf (.int .i64), .lf (.int .i64), .lf (.int .i64), .lf (.int .i64)]], []⟩
abbrev go15 : Sg := ⟨[2], [.lf (.int .i64)], []⟩
def fx15 : List Bool := []
noncomputable def f15 (x : gi15.D) : Option go15.D :=
  (Option.bind (Go.Ev.Matrix.f21 ((List.take (6 : Nat) (List.drop (0 : Nat) (List.set (List.set (List.set (List.set (List.set (List.set (List.replicate (6 : Nat) ((0 : Int), (0 : Int))) (0 : Nat) (x.1, x.2.1)) (1 : Nat) (x.2.2.1, x.2.2.2.1)) (2 : Nat) (x.2.2.2.2.1, x.2.2.2.2.2.1)) (3 : Nat) (x.2.2.2.2.2.2.1, x.2.2.2.2.2.2.2.1)) (4 : Nat) (x.2.2.2.2.2.2.2.2.1, x.2.2.2.2.2.2.2.2.2.1)) (5 : Nat) (x.2.2.2.2.2.2.2.2.2.2.1, x.2.2.2.2.2.2.2.2.2.2.2.1)))), Unit.unit)) (fun y1 => (if (y1.1 = true) then (some ((0 : Int), Unit.unit))
   else (some ((1 : Int), Unit.unit)))))
theorem f15_eq (x : gi15.D) : f15 x = evF P (T21.orc _) Go.Proofs.Try.f15.ntmps fx15 c15 (planAt 64 []) gi15 x (fnK fx15 [go15]) := by kernel_rfl
theorem f15_ok : EntOk P 15 ⟨gi15, [go15], f15⟩ :=
  ent_ok (fn := Go.Proofs.Try.f15) (gi := gi15) (gos := [go15]) (f := f15) (c := c15) (fx := fx15) ⟨Go.Proofs.Try.func15, by kernel_rfl, rfl, by decide +kernel, rfl, rfl⟩ (by kernel_rfl) (Table.ok T21_ok _) hmix (planAt_ok (P := P) (n := Go.Proofs.Try.f15.ntmps) (fx := fx15) (c := c15) (d := 64) (l := []) trivial) f15_eq
noncomputable def T15 : Table := T21.add 15 [⟨gi15, [go15], f15⟩] []
theorem T15_ok : TableOk P T15 := Table.plus T21_ok (es := [⟨gi15, [go15], f15⟩]) ⟨f15_ok, trivial⟩ []

/-! ## 22: erasure/matrix.reckoner -/
noncomputable def c22 : Code := Func.code Go.Proofs.Try.f22
abbrev gi22 : Sg := ⟨[], [], []⟩
abbrev go22 : Sg := ⟨[0, 1], [.lf (.fnc 32 [(.ptr 0 0)]), .lf (.fnc 34 [(.ptr 1 0)])], [some (.box true [.lf (.fnc 31 [(.ptr 1 0)])]), some (.box true [.lf (.int .i64)])]⟩
def fx22 : List Bool := []
noncomputable def f22 (_ : gi22.D) : Option go22.D :=
  (some ((0 : Int), Unit.unit))
theorem f22_eq (x : gi22.D) : f22 x = evF P (T15.orc _) Go.Proofs.Try.f22.ntmps fx22 c22 (planAt 64 []) gi22 x (fnK fx22 [go22]) := by kernel_rfl
theorem f22_ok : EntOk P 22 ⟨gi22, [go22], f22⟩ :=
  ent_ok (fn := Go.Proofs.Try.f22) (gi := gi22) (gos := [go22]) (f := f22) (c := c22) (fx := fx22) ⟨Go.Proofs.Try.func22, by kernel_rfl, rfl, by decide +kernel, rfl, rfl⟩ (by kernel_rfl) (Table.ok T15_ok _) hmix (planAt_ok (P := P) (n := Go.Proofs.Try.f22.ntmps) (fx := fx22) (c := c22) (d := 64) (l := []) trivial) f22_eq
noncomputable def T22 : Table := T15.add 22 [⟨gi22, [go22], f22⟩] []
theorem T22_ok : TableOk P T22 := Table.plus T15_ok (es := [⟨gi22, [go22], f22⟩]) ⟨f22_ok, trivial⟩ []

/-! ## 42: erasure/dec.size -/
noncomputable def c42 : Code := Func.code Go.Proofs.Try.f42
abbrev gi42 : Sg := ⟨[0], [.lf (.int .i64)], []⟩
abbrev go42 : Sg := ⟨[2], [.lf (.int .u64)], []⟩
def fx42 : List Bool := []
noncomputable def f42 (x : gi42.D) : Option go42.D :=
  (some ((Go.IntKind.wrap Go.IntKind.u64 (Max.max x.1 (Go.IntKind.wrap Go.IntKind.i64 ((0 : Int) - x.1)))), Unit.unit))
theorem f42_eq (x : gi42.D) : f42 x = evF P (T22.orc _) Go.Proofs.Try.f42.ntmps fx42 c42 (planAt 64 []) gi42 x (fnK fx42 [go42]) := by kernel_rfl
theorem f42_ok : EntOk P 42 ⟨gi42, [go42], f42⟩ :=
  ent_ok (fn := Go.Proofs.Try.f42) (gi := gi42) (gos := [go42]) (f := f42) (c := c42) (fx := fx42) ⟨Go.Proofs.Try.func42, by kernel_rfl, rfl, by decide +kernel, rfl, rfl⟩ (by kernel_rfl) (Table.ok T22_ok _) hmix (planAt_ok (P := P) (n := Go.Proofs.Try.f42.ntmps) (fx := fx42) (c := c42) (d := 64) (l := []) trivial) f42_eq
noncomputable def T42 : Table := T22.add 42 [⟨gi42, [go42], f42⟩] []
theorem T42_ok : TableOk P T42 := Table.plus T22_ok (es := [⟨gi42, [go42], f42⟩]) ⟨f42_ok, trivial⟩ []

/-! ## 41: math/bits.Mul64 -/
noncomputable def c41 : Code := Func.code Go.Proofs.Try.f41
abbrev gi41 : Sg := ⟨[0, 1], [.lf (.int .u64), .lf (.int .u64)], []⟩
abbrev go41 : Sg := ⟨[4, 5], [.lf (.int .u64), .lf (.int .u64)], []⟩
def fx41 : List Bool := []
noncomputable def f41 (x : gi41.D) : Option go41.D :=
  (some ((Go.IntKind.wrap Go.IntKind.u64 ((Go.IntKind.wrap Go.IntKind.u64 ((Go.IntKind.wrap Go.IntKind.u64 ((Int.fdiv x.1 (4294967296 : Int)) * (Int.fdiv x.2.1 (4294967296 : Int)))) + (Int.fdiv (Go.IntKind.wrap Go.IntKind.u64 ((Go.IntKind.wrap Go.IntKind.u64 ((Int.fdiv x.1 (4294967296 : Int)) * (Go.IntKind.wrap Go.IntKind.u64 (((BitVec.toNat ((BitVec.ofInt (64 : Nat) x.2.1) &&& (BitVec.ofInt (64 : Nat) (4294967295 : Int)))) : Nat) : Int)))) + (Int.fdiv (Go.IntKind.wrap Go.IntKind.u64 ((Go.IntKind.wrap Go.IntKind.u64 (((BitVec.toNat ((BitVec.ofInt (64 : Nat) x.1) &&& (BitVec.ofInt (64 : Nat) (4294967295 : Int)))) : Nat) : Int)) * (Go.IntKind.wrap Go.IntKind.u64 (((BitVec.toNat ((BitVec.ofInt (64 : Nat) x.2.1) &&& (BitVec.ofInt (64 : Nat) (4294967295 : Int)))) : Nat) : Int)))) (4294967296 : Int)))) (4294967296 : Int)))) + (Int.fdiv (Go.IntKind.wrap Go.IntKind.u64 ((Go.IntKind.wrap Go.IntKind.u64 (((BitVec.toNat ((BitVec.ofInt (64 : Nat) (Go.IntKind.wrap Go.IntKind.u64 ((Go.IntKind.wrap Go.IntKind.u64 ((Int.fdiv x.1 (4294967296 : Int)) * (Go.IntKind.wrap Go.IntKind.u64 (((BitVec.toNat ((BitVec.ofInt (64 : Nat) x.2.1) &&& (BitVec.ofInt (64 : Nat) (4294967295 : Int)))) : Nat) : Int)))) + (Int.fdiv (Go.IntKind.wrap Go.IntKind.u64 ((Go.IntKind.wrap Go.IntKind.u64 (((BitVec.toNat ((BitVec.ofInt (64 : Nat) x.1) &&& (BitVec.ofInt (64 : Nat) (4294967295 : Int)))) : Nat) : Int)) * (Go.IntKind.wrap Go.IntKind.u64 (((BitVec.toNat ((BitVec.ofInt (64 : Nat) x.2.1) &&& (BitVec.ofInt (64 : Nat) (4294967295 : Int)))) : Nat) : Int)))) (4294967296 : Int))))) &&& (BitVec.ofInt (64 : Nat) (4294967295 : Int)))) : Nat) : Int)) + (Go.IntKind.wrap Go.IntKind.u64 ((Go.IntKind.wrap Go.IntKind.u64 (((BitVec.toNat ((BitVec.ofInt (64 : Nat) x.1) &&& (BitVec.ofInt (64 : Nat) (4294967295 : Int)))) : Nat) : Int)) * (Int.fdiv x.2.1 (4294967296 : Int)))))) (4294967296 : Int)))), ((Go.IntKind.wrap Go.IntKind.u64 (x.1 * x.2.1)), Unit.unit)))
theorem f41_eq (x : gi41.D) : f41 x = evF P (T42.orc _) Go.Proofs.Try.f41.ntmps fx41 c41 (planAt 64 []) gi41 x (fnK fx41 [go41]) := by kernel_rfl
theorem f41_ok : EntOk P 41 ⟨gi41, [go41], f41⟩ :=
  ent_ok (fn := Go.Proofs.Try.f41) (gi := gi41) (gos := [go41]) (f := f41) (c := c41) (fx := fx41) ⟨Go.Proofs.Try.func41, by kernel_rfl, rfl, by decide +kernel, rfl, rfl⟩ (by kernel_rfl) (Table.ok T42_ok _) hmix (planAt_ok (P := P) (n := Go.Proofs.Try.f41.ntmps) (fx := fx41) (c := c41) (d := 64) (l := []) trivial) f41_eq
noncomputable def T41 : Table := T42.add 41 [⟨gi41, [go41], f41⟩] []
theorem T41_ok : TableOk P T41 := Table.plus T42_ok (es := [⟨gi41, [go41], f41⟩]) ⟨f41_ok, trivial⟩ []

/-! ## 52: math/bits.Len64 -/
noncomputable def c52 : Code := Func.code Go.Proofs.Try.f52
abbrev gi52 : Sg := ⟨[0], [.lf (.int .u64)], []⟩
abbrev go52 : Sg := ⟨[2], [.lf (.int .i64)], []⟩
def fx52 : List Bool := []
noncomputable def f52 (x : gi52.D) : Option go52.D :=
  (if ((decide (x.1 ≥ (4294967296 : Int))) = true) then (if ((decide ((Int.fdiv x.1 (4294967296 : Int)) ≥ (65536 : Int))) = true) then (if ((decide ((Int.fdiv (Int.fdiv x.1 (4294967296 : Int)) (65536 : Int)) ≥ (256 : Int))) = true) then (if ((0 : Int) ≤ (Go.IntKind.wrap Go.IntKind.u8 (Int.fdiv (Int.fdiv (Int.fdiv x.1 (4294967296 : Int)) (65536 : Int)) (256 : Int)))) then (if ((Go.IntKind.wrap Go.IntKind.u8 (Int.fdiv (Int.fdiv (Int.fdiv x.1 (4294967296 : Int)) (65536 : Int)) (256 : Int))) < (256 : Int)) then (some ((Go.IntKind.wrap Go.IntKind.i64 ((56 : Int) + (Go.IntKind.wrap Go.IntKind.i64 (((UInt8.toNat (Array.getD (ByteArray.data (ByteArray.mk #[0, 1, 2, 2, 3, 3, 3, 3, 4, 4, 4, 4, 4, 4, 4, 4, 5, 5, 5, 5, 5, 5, 5, 5, 5, 5, 5, 5, 5, 5, 5, 5, 6, 6, 6, 6, 6, 6, 6, 6, 6, 6, 6, 6, 6, 6, 6, 6, 6, 6, 6, 6, 6, 6, 6, 6, 6, 6, 6, 6, 6, 6, 6, 6, 7, 7, 7, 7, 7, 7, 7, 7, 7, 7, 7, 7, 7, 7, 7, 7, 7, 7, 7, 7, 7, 7, 7, 7, 7, 7, 7, 7, 7, 7, 7, 7, 7, 7, 7, 7, 7, 7, 7, 7, 7, 7, 7, 7, 7, 7, 7, 7, 7, 7, 7, 7, 7, 7, 7, 7, 7, 7, 7, 7, 7, 7, 7, 7, 8, 8, 8, 8, 8, 8, 8, 8, 8, 8, 8, 8, 8, 8, 8, 8, 8, 8, 8, 8, 8, 8, 8, 8, 8, 8, 8, 8, 8, 8, 8, 8, 8, 8, 8, 8, 8, 8, 8, 8, 8, 8, 8, 8, 8, 8, 8, 8, 8, 8, 8, 8, 8, 8, 8, 8, 8, 8, 8, 8, 8, 8, 8, 8, 8, 8, 8, 8, 8, 8, 8, 8, 8, 8, 8, 8, 8, 8, 8, 8, 8, 8, 8, 8, 8, 8, 8, 8, 8, 8, 8, 8, 8, 8, 8, 8, 8, 8, 8, 8, 8, 8, 8, 8, 8, 8, 8, 8, 8, 8, 8, 8, 8, 8, 8, 8, 8, 8, 8, 8, 8, 8, 8, 8, 8, 8, 8, 8])) (Int.toNat (Go.IntKind.wrap Go.IntKind.u8 (Int.fdiv (Int.fdiv (Int.fdiv x.1 (4294967296 : Int)) (65536 : Int)) (256 : Int)))) (0 : UInt8))) : Nat) : Int)))), Unit.unit))
   else none)
   else none)
   else (if ((0 : Int) ≤ (Go.IntKind.wrap Go.IntKind.u8 (Int.fdiv (Int.fdiv x.1 (4294967296 : Int)) (65536 : Int)))) then (if ((Go.IntKind.wrap Go.IntKind.u8 (Int.fdiv (Int.fdiv x.1 (4294967296 : Int)) (65536 : Int))) < (256 : Int)) then (some ((Go.IntKind.wrap Go.IntKind.i64 ((48 : Int) + (Go.IntKind.wrap Go.IntKind.i64 (((UInt8.toNat (Array.getD (ByteArray.data (ByteArray.mk #[0, 1, 2, 2, 3, 3, 3, 3, 4, 4, 4, 4, 4, 4, 4, 4, 5, 5, 5, 5, 5, 5, 5, 5, 5, 5, 5, 5, 5, 5, 5, 5, 6, 6, 6, 6, 6, 6, 6, 6, 6, 6, 6, 6, 6, 6, 6, 6, 6, 6, 6, 6, 6, 6, 6, 6, 6, 6, 6, 6, 6, 6, 6, 6, 7, 7, 7, 7, 7, 7, 7, 7, 7, 7, 7, 7, 7, 7, 7, 7, 7, 7, 7, 7, 7, 7, 7, 7, 7, 7, 7, 7, 7, 7, 7, 7, 7, 7, 7, 7, 7, 7, 7, 7, 7, 7, 7, 7, 7, 7, 7, 7, 7, 7, 7, 7, 7, 7, 7, 7, 7, 7, 7, 7, 7, 7, 7, 7, 8, 8, 8, 8, 8, 8, 8, 8, 8, 8, 8, 8, 8, 8, 8, 8, 8, 8, 8, 8, 8, 8, 8, 8, 8, 8, 8, 8, 8, 8, 8, 8, 8, 8, 8, 8, 8, 8, 8, 8, 8, 8, 8, 8, 8, 8, 8, 8, 8, 8, 8, 8, 8, 8, 8, 8, 8, 8, 8, 8, 8, 8, 8, 8, 8, 8, 8, 8, 8, 8, 8, 8, 8, 8, 8, 8, 8, 8, 8, 8, 8, 8, 8, 8, 8, 8, 8, 8, 8, 8, 8, 8, 8, 8, 8, 8, 8, 8, 8, 8, 8, 8, 8, 8, 8, 8, 8, 8, 8, 8, 8, 8, 8, 8, 8, 8, 8, 8, 8, 8, 8, 8, 8, 8, 8, 8, 8, 8])) (Int.toNat (Go.IntKind.wrap Go.IntKind.u8 (Int.fdiv (Int.fdiv x.1 (4294967296 : Int)) (65536 : Int)))) (0 : UInt8))) : Nat) : Int)))), Unit.unit))
   else none)
   else none))
   else (if ((decide ((Int.fdiv x.1 (4294967296 : Int)) ≥ (256 : Int))) = true) then (if ((0 : Int) ≤ (Go.IntKind.wrap Go.IntKind.u8 (Int.fdiv (Int.fdiv x.1 (4294967296 : Int)) (256 : Int)))) then (if ((Go.IntKind.wrap Go.IntKind.u8 (Int.fdiv (Int.fdiv x.1 (4294967296 : Int)) (256 : Int))) < (256 : Int)) then (some ((Go.IntKind.wrap Go.IntKind.i64 ((40 : Int) + (Go.IntKind.wrap Go.IntKind.i64 (((UInt8.toNat (Array.getD (ByteArray.data (ByteArray.mk #[0, 1, 2, 2, 3, 3, 3, 3, 4, 4, 4, 4, 4, 4, 4, 4, 5, 5, 5, 5, 5, 5, 5, 5, 5, 5, 5, 5, 5, 5, 5, 5, 6, 6, 6, 6, 6, 6, 6, 6, 6, 6, 6, 6, 6, 6, 6, 6, 6, 6, 6, 6, 6, 6, 6, 6, 6, 6, 6, 6, 6, 6, 6, 6, 7, 7, 7, 7, 7, 7, 7, 7, 7, 7, 7, 7, 7, 7, 7, 7, 7, 7, 7, 7, 7, 7, 7, 7, 7, 7, 7, 7, 7, 7, 7, 7, 7, 7, 7, 7, 7, 7, 7, 7, 7, 7, 7, 7, 7, 7, 7, 7, 7, 7, 7, 7, 7, 7, 7, 7, 7, 7, 7, 7, 7, 7, 7, 7, 8, 8, 8, 8, 8, 8, 8, 8, 8, 8, 8, 8, 8, 8, 8, 8, 8, 8, 8, 8, 8, 8, 8, 8, 8, 8, 8, 8, 8, 8, 8, 8, 8, 8, 8, 8, 8, 8, 8, 8, 8, 8, 8, 8, 8, 8, 8, 8, 8, 8, 8, 8, 8, 8, 8, 8, 8, 8, 8, 8, 8, 8, 8, 8, 8, 8, 8, 8, 8, 8, 8, 8, 8, 8, 8, 8, 8, 8, 8, 8, 8, 8, 8, 8, 8, 8, 8, 8, 8, 8, 8, 8, 8, 8, 8, 8, 8, 8, 8, 8, 8, 8, 8, 8, 8, 8, 8, 8, 8, 8, 8, 8, 8, 8, 8, 8, 8, 8, 8, 8, 8, 8, 8, 8, 8, 8, 8, 8])) (Int.toNat (Go.IntKind.wrap Go.IntKind.u8 (Int.fdiv (Int.fdiv x.1 (4294967296 : Int)) (256 : Int)))) (0 : UInt8))) : Nat) : Int)))), Unit.unit))
   else none)
   else none)
   else (if ((0 : Int) ≤ (Go.IntKind.wrap Go.IntKind.u8 (Int.fdiv x.1 (4294967296 : Int)))) then (if ((Go.IntKind.wrap Go.IntKind.u8 (Int.fdiv x.1 (4294967296 : Int))) < (256 : Int)) then (some ((Go.IntKind.wrap Go.IntKind.i64 ((32 : Int) + (Go.IntKind.wrap Go.IntKind.i64 (((UInt8.toNat (Array.getD (ByteArray.data (ByteArray.mk #[0, 1, 2, 2, 3, 3, 3, 3, 4, 4, 4, 4, 4, 4, 4, 4, 5, 5, 5, 5, 5, 5, 5, 5, 5, 5, 5, 5, 5, 5, 5, 5, 6, 6, 6, 6, 6, 6, 6, 6, 6, 6, 6, 6, 6, 6, 6, 6, 6, 6, 6, 6, 6, 6, 6, 6, 6, 6, 6, 6, 6, 6, 6, 6, 7, 7, 7, 7, 7, 7, 7, 7, 7, 7, 7, 7, 7, 7, 7, 7, 7, 7, 7, 7, 7, 7, 7, 7, 7, 7, 7, 7, 7, 7, 7, 7, 7, 7, 7, 7, 7, 7, 7, 7, 7, 7, 7, 7, 7, 7, 7, 7, 7, 7, 7, 7, 7, 7, 7, 7, 7, 7, 7, 7, 7, 7, 7, 7, 8, 8, 8, 8, 8, 8, 8, 8, 8, 8, 8, 8, 8, 8, 8, 8, 8, 8, 8, 8, 8, 8, 8, 8, 8, 8, 8, 8, 8, 8, 8, 8, 8, 8, 8, 8, 8, 8, 8, 8, 8, 8, 8, 8, 8, 8, 8, 8, 8, 8, 8, 8, 8, 8, 8, 8, 8, 8, 8, 8, 8, 8, 8, 8, 8, 8, 8, 8, 8, 8, 8, 8, 8, 8, 8, 8, 8, 8, 8, 8, 8, 8, 8, 8, 8, 8, 8, 8, 8, 8, 8, 8, 8, 8, 8, 8, 8, 8, 8, 8, 8, 8, 8, 8, 8, 8, 8, 8, 8, 8, 8, 8, 8, 8, 8, 8, 8, 8, 8, 8, 8, 8, 8, 8, 8, 8, 8, 8])) (Int.toNat (Go.IntKind.wrap Go.IntKind.u8 (Int.fdiv x.1 (4294967296 : Int)))) (0 : UInt8))) : Nat) : Int)))), Unit.unit))
   else none)
   else none)))
   else (if ((decide (x.1 ≥ (65536 : Int))) = true) then (if ((decide ((Int.fdiv x.1 (65536 : Int)) ≥ (256 : Int))) = true) then (if ((0 : Int) ≤ (Go.IntKind.wrap Go.IntKind.u8 (Int.fdiv (Int.fdiv x.1 (65536 : Int)) (256 : Int)))) then (if ((Go.IntKind.wrap Go.IntKind.u8 (Int.fdiv (Int.fdiv x.1 (65536 : Int)) (256 : Int))) < (256 : Int)) then (some ((Go.IntKind.wrap Go.IntKind.i64 ((24 : Int) + (Go.IntKind.wrap Go.IntKind.i64 (((UInt8.toNat (Array.getD (ByteArray.data (ByteArray.mk #[0, 1, 2, 2, 3, 3, 3, 3, 4, 4, 4, 4, 4, 4, 4, 4, 5, 5, 5, 5, 5, 5, 5, 5, 5, 5, 5, 5, 5, 5, 5, 5, 6, 6, 6, 6, 6, 6, 6, 6, 6, 6, 6, 6, 6, 6, 6, 6, 6, 6, 6, 6, 6, 6, 6, 6, 6, 6, 6, 6, 6, 6, 6, 6, 7, 7, 7, 7, 7, 7, 7, 7, 7, 7, 7, 7, 7, 7, 7, 7, 7, 7, 7, 7, 7, 7, 7, 7, 7, 7, 7, 7, 7, 7, 7, 7, 7, 7, 7, 7, 7, 7, 7, 7, 7, 7, 7, 7, 7, 7, 7, 7, 7, 7, 7, 7, 7, 7, 7, 7, 7, 7, 7, 7, 7, 7, 7, 7, 8, 8, 8, 8, 8, 8, 8, 8, 8, 8, 8, 8, 8, 8, 8, 8, 8, 8, 8, 8, 8, 8, 8, 8, 8, 8, 8, 8, 8, 8, 8, 8, 8, 8, 8, 8, 8, 8, 8, 8, 8, 8, 8, 8, 8, 8, 8, 8, 8, 8, 8, 8, 8, 8, 8, 8, 8, 8, 8, 8, 8, 8, 8, 8, 8, 8, 8, 8, 8, 8, 8, 8, 8, 8, 8, 8, 8, 8, 8, 8, 8, 8, 8, 8, 8, 8, 8, 8, 8, 8, 8, 8, 8, 8, 8, 8, 8, 8, 8, 8, 8, 8, 8, 8, 8, 8, 8, 8, 8, 8, 8, 8, 8, 8, 8, 8, 8, 8, 8, 8, 8, 8, 8, 8, 8, 8, 8, 8])) (Int.toNat (Go.IntKind.wrap Go.IntKind.u8 (Int.fdiv (Int.fdiv x.1 (65536 : Int)) (256 : Int)))) (0 : UInt8))) : Nat) : Int)))), Unit.unit))
   else none)
   else none)
   else (if ((0 : Int) ≤ (Go.IntKind.wrap Go.IntKind.u8 (Int.fdiv x.1 (65536 : Int)))) then (if ((Go.IntKind.wrap Go.IntKind.u8 (Int.fdiv x.1 (65536 : Int))) < (256 : Int)) then (some ((Go.IntKind.wrap Go.IntKind.i64 ((16 : Int) + (Go.IntKind.wrap Go.IntKind.i64 (((UInt8.toNat (Array.getD (ByteArray.data (ByteArray.mk #[0, 1, 2, 2, 3, 3, 3, 3, 4, 4, 4, 4, 4, 4, 4, 4, 5, 5, 5, 5, 5, 5, 5, 5, 5, 5, 5, 5, 5, 5, 5, 5, 6, 6, 6, 6, 6, 6, 6, 6, 6, 6, 6, 6, 6, 6, 6, 6, 6, 6, 6, 6, 6, 6, 6, 6, 6, 6, 6, 6, 6, 6, 6, 6, 7, 7, 7, 7, 7, 7, 7, 7, 7, 7, 7, 7, 7, 7, 7, 7, 7, 7, 7, 7, 7, 7, 7, 7, 7, 7, 7, 7, 7, 7, 7, 7, 7, 7, 7, 7, 7, 7, 7, 7, 7, 7, 7, 7, 7, 7, 7, 7, 7, 7, 7, 7, 7, 7, 7, 7, 7, 7, 7, 7, 7, 7, 7, 7, 8, 8, 8, 8, 8, 8, 8, 8, 8, 8, 8, 8, 8, 8, 8, 8, 8, 8, 8, 8, 8, 8, 8, 8, 8, 8, 8, 8, 8, 8, 8, 8, 8, 8, 8, 8, 8, 8, 8, 8, 8, 8, 8, 8, 8, 8, 8, 8, 8, 8, 8, 8, 8, 8, 8, 8, 8, 8, 8, 8, 8, 8, 8, 8, 8, 8, 8, 8, 8, 8, 8, 8, 8, 8, 8, 8, 8, 8, 8, 8, 8, 8, 8, 8, 8, 8, 8, 8, 8, 8, 8, 8, 8, 8, 8, 8, 8, 8, 8, 8, 8, 8, 8, 8, 8, 8, 8, 8, 8, 8, 8, 8, 8, 8, 8, 8, 8, 8, 8, 8, 8, 8, 8, 8, 8, 8, 8, 8])) (Int.toNat (Go.IntKind.wrap Go.IntKind.u8 (Int.fdiv x.1 (65536 : Int)))) (0 : UInt8))) : Nat) : Int)))), Unit.unit))
   else none)
   else none))
   else (if ((decide (x.1 ≥ (256 : Int))) = true) then (if ((0 : Int) ≤ (Go.IntKind.wrap Go.IntKind.u8 (Int.fdiv x.1 (256 : Int)))) then (if ((Go.IntKind.wrap Go.IntKind.u8 (Int.fdiv x.1 (256 : Int))) < (256 : Int)) then (some ((Go.IntKind.wrap Go.IntKind.i64 ((8 : Int) + (Go.IntKind.wrap Go.IntKind.i64 (((UInt8.toNat (Array.getD (ByteArray.data (ByteArray.mk #[0, 1, 2, 2, 3, 3, 3, 3, 4, 4, 4, 4, 4, 4, 4, 4, 5, 5, 5, 5, 5, 5, 5, 5, 5, 5, 5, 5, 5, 5, 5, 5, 6, 6, 6, 6, 6, 6, 6, 6, 6, 6, 6, 6, 6, 6, 6, 6, 6, 6, 6, 6, 6, 6, 6, 6, 6, 6, 6, 6, 6, 6, 6, 6, 7, 7, 7, 7, 7, 7, 7, 7, 7, 7, 7, 7, 7, 7, 7, 7, 7, 7, 7, 7, 7, 7, 7, 7, 7, 7, 7, 7, 7, 7, 7, 7, 7, 7, 7, 7, 7, 7, 7, 7, 7, 7, 7, 7, 7, 7, 7, 7, 7, 7, 7, 7, 7, 7, 7, 7, 7, 7, 7, 7, 7, 7, 7, 7, 8, 8, 8, 8, 8, 8, 8, 8, 8, 8, 8, 8, 8, 8, 8, 8, 8, 8, 8, 8, 8, 8, 8, 8, 8, 8, 8, 8, 8, 8, 8, 8, 8, 8, 8, 8, 8, 8, 8, 8, 8, 8, 8, 8, 8, 8, 8, 8, 8, 8, 8, 8, 8, 8, 8, 8, 8, 8, 8, 8, 8, 8, 8, 8, 8, 8, 8, 8, 8, 8, 8, 8, 8, 8, 8, 8, 8, 8, 8, 8, 8, 8, 8, 8, 8, 8, 8, 8, 8, 8, 8, 8, 8, 8, 8, 8, 8, 8, 8, 8, 8, 8, 8, 8, 8, 8, 8, 8, 8, 8, 8, 8, 8, 8, 8, 8, 8, 8, 8, 8, 8, 8, 8, 8, 8, 8, 8, 8])) (Int.toNat (Go.IntKind.wrap Go.IntKind.u8 (Int.fdiv x.1 (256 : Int)))) (0 : UInt8))) : Nat) : Int)))), Unit.unit))
   else none)
   else none)
   else (if ((0 : Int) ≤ (Go.IntKind.wrap Go.IntKind.u8 x.1)) then (if ((Go.IntKind.wrap Go.IntKind.u8 x.1) < (256 : Int)) then (some ((Go.IntKind.wrap Go.IntKind.i64 ((0 : Int) + (Go.IntKind.wrap Go.IntKind.i64 (((UInt8.toNat (Array.getD (ByteArray.data (ByteArray.mk #[0, 1, 2, 2, 3, 3, 3, 3, 4, 4, 4, 4, 4, 4, 4, 4, 5, 5, 5, 5, 5, 5, 5, 5, 5, 5, 5, 5, 5, 5, 5, 5, 6, 6, 6, 6, 6, 6, 6, 6, 6, 6, 6, 6, 6, 6, 6, 6, 6, 6, 6, 6, 6, 6, 6, 6, 6, 6, 6, 6, 6, 6, 6, 6, 7, 7, 7, 7, 7, 7, 7, 7, 7, 7, 7, 7, 7, 7, 7, 7, 7, 7, 7, 7, 7, 7, 7, 7, 7, 7, 7, 7, 7, 7, 7, 7, 7, 7, 7, 7, 7, 7, 7, 7, 7, 7, 7, 7, 7, 7, 7, 7, 7, 7, 7, 7, 7, 7, 7, 7, 7, 7, 7, 7, 7, 7, 7, 7, 8, 8, 8, 8, 8, 8, 8, 8, 8, 8, 8, 8, 8, 8, 8, 8, 8, 8, 8, 8, 8, 8, 8, 8, 8, 8, 8, 8, 8, 8, 8, 8, 8, 8, 8, 8, 8, 8, 8, 8, 8, 8, 8, 8, 8, 8, 8, 8, 8, 8, 8, 8, 8, 8, 8, 8, 8, 8, 8, 8, 8, 8, 8, 8, 8, 8, 8, 8, 8, 8, 8, 8, 8, 8, 8, 8, 8, 8, 8, 8, 8, 8, 8, 8, 8, 8, 8, 8, 8, 8, 8, 8, 8, 8, 8, 8, 8, 8, 8, 8, 8, 8, 8, 8, 8, 8, 8, 8, 8, 8, 8, 8, 8, 8, 8, 8, 8, 8, 8, 8, 8, 8, 8, 8, 8, 8, 8, 8])) (Int.toNat (Go.IntKind.wrap Go.IntKind.u8 x.1)) (0 : UInt8))) : Nat) : Int)))), Unit.unit))
   else none)
   else none))))
theorem f52_eq (x : gi52.D) : f52 x = evF P (T41.orc _) Go.Proofs.Try.f52.ntmps fx52 c52 (planAt 64 []) gi52 x (fnK fx52 [go52]) := by kernel_rfl
theorem f52_ok : EntOk P 52 ⟨gi52, [go52], f52⟩ :=
  ent_ok (fn := Go.Proofs.Try.f52) (gi := gi52) (gos := [go52]) (f := f52) (c := c52) (fx := fx52) ⟨Go.Proofs.Try.func52, by kernel_rfl, rfl, by decide +kernel, rfl, rfl⟩ (by kernel_rfl) (Table.ok T41_ok _) hmix (planAt_ok (P := P) (n := Go.Proofs.Try.f52.ntmps) (fx := fx52) (c := c52) (d := 64) (l := []) trivial) f52_eq
noncomputable def T52 : Table := T41.add 52 [⟨gi52, [go52], f52⟩] []
theorem T52_ok : TableOk P T52 := Table.plus T41_ok (es := [⟨gi52, [go52], f52⟩]) ⟨f52_ok, trivial⟩ []

/-! ## 51: math/bits.LeadingZeros64 -/
noncomputable def c51 : Code := Func.code Go.Proofs.Try.f51
abbrev gi51 : Sg := ⟨[0], [.lf (.int .u64)], []⟩
abbrev go51 : Sg := ⟨[2], [.lf (.int .i64)], []⟩
def fx51 : List Bool := []
noncomputable def f51 (x : gi51.D) : Option go51.D :=
  (Option.bind (Go.Ev.Matrix.f52 (x.1, Unit.unit)) (fun y1 => (some ((Go.IntKind.wrap Go.IntKind.i64 ((64 : Int) - y1.1)), Unit.unit))))
theorem f51_eq (x : gi51.D) : f51 x = evF P (T52.orc _) Go.Proofs.Try.f51.ntmps fx51 c51 (planAt 64 []) gi51 x (fnK fx51 [go51]) := by kernel_rfl
theorem f51_ok : EntOk P 51 ⟨gi51, [go51], f51⟩ :=
  ent_ok (fn := Go.Proofs.Try.f51) (gi := gi51) (gos := [go51]) (f := f51) (c := c51) (fx := fx51) ⟨Go.Proofs.Try.func51, by kernel_rfl, rfl, by decide +kernel, rfl, rfl⟩ (by kernel_rfl) (Table.ok T52_ok _) hmix (planAt_ok (P := P) (n := Go.Proofs.Try.f51.ntmps) (fx := fx51) (c := c51) (d := 64) (l := []) trivial) f51_eq
noncomputable def T51 : Table := T52.add 51 [⟨gi51, [go51], f51⟩] []
theorem T51_ok : TableOk P T51 := Table.plus T52_ok (es := [⟨gi51, [go51], f51⟩]) ⟨f51_ok, trivial⟩ []

/-! ## 46: math/bits.Div64 -/
noncomputable def c46 : Code := Func.code Go.Proofs.Try.f46
abbrev gi46 : Sg := ⟨[0, 1, 2], [.lf (.int .u64), .lf (.int .u64), .lf (.int .u64)], []⟩
abbrev go46 : Sg := ⟨[6, 7], [.lf (.int .u64), .lf (.int .u64)], []⟩
def fx46 : List Bool := []
abbrev g46_2 : Sg := ⟨[2, 8, 9, 10, 14, 15, 16, 17, 18], [.lf (.int .u64), .lf (.int .u64), .lf (.int .u64), .lf (.int .u64), .lf (.int .u64), .lf (.int .u64), .lf (.int .u64), .lf (.int .u64), .lf (.int .u64)], []⟩
abbrev o46_2 : Outs := [(.exit 2, ⟨[2, 8, 14, 15, 17, 18], [.lf (.int .u64), .lf (.int .u64), .lf (.int .u64), .lf (.int .u64), .lf (.int .u64), .lf (.int .u64)], []⟩)]
noncomputable def b46_2 (x : g46_2.D) : Option (outD ((.normal, g46_2) :: o46_2)) :=
  (if ((decide (x.2.2.2.2.2.2.2.2.1 ≥ (4294967296 : Int))) = true) then (if ((decide ((Go.IntKind.wrap Go.IntKind.u64 (x.2.2.2.2.2.2.1 + x.2.2.1)) ≥ (4294967296 : Int))) = true) then (some (Sum.inr (Sum.inl (x.1, (x.2.1, (x.2.2.2.2.1, (x.2.2.2.2.2.1, (x.2.2.2.2.2.2.2.1, ((Go.IntKind.wrap Go.IntKind.u64 (x.2.2.2.2.2.2.2.2.1 - (1 : Int))), Unit.unit)))))))))
   else (some (Sum.inl (x.1, (x.2.1, (x.2.2.1, (x.2.2.2.1, (x.2.2.2.2.1, (x.2.2.2.2.2.1, ((Go.IntKind.wrap Go.IntKind.u64 (x.2.2.2.2.2.2.1 + x.2.2.1)), (x.2.2.2.2.2.2.2.1, ((Go.IntKind.wrap Go.IntKind.u64 (x.2.2.2.2.2.2.2.2.1 - (1 : Int))), Unit.unit))))))))))))
   else (if ((decide ((Go.IntKind.wrap Go.IntKind.u64 (x.2.2.2.2.2.2.2.2.1 * x.2.2.2.1)) > (Go.IntKind.wrap Go.IntKind.u64 ((Go.IntKind.wrap Go.IntKind.u64 ((4294967296 : Int) * x.2.2.2.2.2.2.1)) + x.2.2.2.2.1)))) = true) then (if ((decide ((Go.IntKind.wrap Go.IntKind.u64 (x.2.2.2.2.2.2.1 + x.2.2.1)) ≥ (4294967296 : Int))) = true) then (some (Sum.inr (Sum.inl (x.1, (x.2.1, (x.2.2.2.2.1, (x.2.2.2.2.2.1, (x.2.2.2.2.2.2.2.1, ((Go.IntKind.wrap Go.IntKind.u64 (x.2.2.2.2.2.2.2.2.1 - (1 : Int))), Unit.unit)))))))))
   else (some (Sum.inl (x.1, (x.2.1, (x.2.2.1, (x.2.2.2.1, (x.2.2.2.2.1, (x.2.2.2.2.2.1, ((Go.IntKind.wrap Go.IntKind.u64 (x.2.2.2.2.2.2.1 + x.2.2.1)), (x.2.2.2.2.2.2.2.1, ((Go.IntKind.wrap Go.IntKind.u64 (x.2.2.2.2.2.2.2.2.1 - (1 : Int))), Unit.unit))))))))))))
   else (some (Sum.inr (Sum.inl (x.1, (x.2.1, (x.2.2.2.2.1, (x.2.2.2.2.2.1, (x.2.2.2.2.2.2.2.1, (x.2.2.2.2.2.2.2.2.1, Unit.unit)))))))))))
theorem b46_2_eq (x : g46_2.D) : b46_2 x = evF P (T51.orc _) Go.Proofs.Try.f46.ntmps fx46 (Code.at [true, true, true, true, true, true, true, true, true, true, true, true, true, true, true, true, true, true, false, false, false] c46) (planAt 64 []) g46_2 x (injK fx46 ((.normal, g46_2) :: o46_2) some) := by kernel_rfl
noncomputable def l46_2 : g46_2.D → Option (outD o46_2) := loopN g46_2 o46_2 b46_2 18446744073709551616
theorem at46_2 : Code.at [true, true, true, true, true, true, true, true, true, true, true, true, true, true, true, true, true, true, false, false] c46 = .loop (Code.at [true, true, true, true, true, true, true, true, true, true, true, true, true, true, true, true, true, true, false, false, false] c46) := by kernel_rfl
theorem s46_2_ok : SubOk P Go.Proofs.Try.f46.ntmps fx46 (Code.at [true, true, true, true, true, true, true, true, true, true, true, true, true, true, true, true, true, true, false, false] c46) ⟨g46_2, o46_2, l46_2⟩ := by
  rw [at46_2]
  exact loop_ok (sub_ok (g := g46_2) (outs := ((.normal, g46_2) :: o46_2)) (f := b46_2) (Table.ok T51_ok _) hmix (planAt_ok (P := P) (n := Go.Proofs.Try.f46.ntmps) (fx := fx46) (c := (Code.at [true, true, true, true, true, true, true, true, true, true, true, true, true, true, true, true, true, true, false, false, false] c46)) (d := 64) (l := []) trivial) b46_2_eq) rfl _
abbrev g46_1 : Sg := ⟨[2, 8, 9, 10, 11, 13, 14, 15, 16], [.lf (.int .u64), .lf (.int .u64), .lf (.int .u64), .lf (.int .u64), .lf (.int .u64), .lf (.int .u64), .lf (.int .u64), .lf (.int .u64), .lf (.int .u64)], []⟩
abbrev o46_1 : Outs := [(.exit 0, ⟨[2, 8, 9, 10, 11, 13, 14, 15], [.lf (.int .u64), .lf (.int .u64), .lf (.int .u64), .lf (.int .u64), .lf (.int .u64), .lf (.int .u64), .lf (.int .u64), .lf (.int .u64)], []⟩)]
noncomputable def b46_1 (x : g46_1.D) : Option (outD ((.normal, g46_1) :: o46_1)) :=
  (if ((decide (x.2.2.2.2.2.2.2.1 ≥ (4294967296 : Int))) = true) then (if ((decide ((Go.IntKind.wrap Go.IntKind.u64 (x.2.2.2.2.2.2.2.2.1 + x.2.2.1)) ≥ (4294967296 : Int))) = true) then (some (Sum.inr (Sum.inl (x.1, (x.2.1, (x.2.2.1, (x.2.2.2.1, (x.2.2.2.2.1, (x.2.2.2.2.2.1, (x.2.2.2.2.2.2.1, ((Go.IntKind.wrap Go.IntKind.u64 (x.2.2.2.2.2.2.2.1 - (1 : Int))), Unit.unit)))))))))))
   else (some (Sum.inl (x.1, (x.2.1, (x.2.2.1, (x.2.2.2.1, (x.2.2.2.2.1, (x.2.2.2.2.2.1, (x.2.2.2.2.2.2.1, ((Go.IntKind.wrap Go.IntKind.u64 (x.2.2.2.2.2.2.2.1 - (1 : Int))), ((Go.IntKind.wrap Go.IntKind.u64 (x.2.2.2.2.2.2.2.2.1 + x.2.2.1)), Unit.unit))))))))))))
   else (if ((decide ((Go.IntKind.wrap Go.IntKind.u64 (x.2.2.2.2.2.2.2.1 * x.2.2.2.1)) > (Go.IntKind.wrap Go.IntKind.u64 ((Go.IntKind.wrap Go.IntKind.u64 ((4294967296 : Int) * x.2.2.2.2.2.2.2.2.1)) + x.2.2.2.2.2.1)))) = true) then (if ((decide ((Go.IntKind.wrap Go.IntKind.u64 (x.2.2.2.2.2.2.2.2.1 + x.2.2.1)) ≥ (4294967296 : Int))) = true) then (some (Sum.inr (Sum.inl (x.1, (x.2.1, (x.2.2.1, (x.2.2.2.1, (x.2.2.2.2.1, (x.2.2.2.2.2.1, (x.2.2.2.2.2.2.1, ((Go.IntKind.wrap Go.IntKind.u64 (x.2.2.2.2.2.2.2.1 - (1 : Int))), Unit.unit)))))))))))
   else (some (Sum.inl (x.1, (x.2.1, (x.2.2.1, (x.2.2.2.1, (x.2.2.2.2.1, (x.2.2.2.2.2.1, (x.2.2.2.2.2.2.1, ((Go.IntKind.wrap Go.IntKind.u64 (x.2.2.2.2.2.2.2.1 - (1 : Int))), ((Go.IntKind.wrap Go.IntKind.u64 (x.2.2.2.2.2.2.2.2.1 + x.2.2.1)), Unit.unit))))))))))))
   else (some (Sum.inr (Sum.inl (x.1, (x.2.1, (x.2.2.1, (x.2.2.2.1, (x.2.2.2.2.1, (x.2.2.2.2.2.1, (x.2.2.2.2.2.2.1, (x.2.2.2.2.2.2.2.1, Unit.unit)))))))))))))
theorem b46_1_eq (x : g46_1.D) : b46_1 x = evF P (T51.orc _) Go.Proofs.Try.f46.ntmps fx46 (Code.at [true, true, true, true, true, true, true, true, true, true, true, true, true, true, false, false, false] c46) (planAt 64 []) g46_1 x (injK fx46 ((.normal, g46_1) :: o46_1) some) := by kernel_rfl
noncomputable def l46_1 : g46_1.D → Option (outD o46_1) := loopN g46_1 o46_1 b46_1 18446744073709551616
theorem at46_1 : Code.at [true, true, true, true, true, true, true, true, true, true, true, true, true, true, false, false] c46 = .loop (Code.at [true, true, true, true, true, true, true, true, true, true, true, true, true, true, false, false, false] c46) := by kernel_rfl
theorem s46_1_ok : SubOk P Go.Proofs.Try.f46.ntmps fx46 (Code.at [true, true, true, true, true, true, true, true, true, true, true, true, true, true, false, false] c46) ⟨g46_1, o46_1, l46_1⟩ := by
  rw [at46_1]
  exact loop_ok (sub_ok (g := g46_1) (outs := ((.normal, g46_1) :: o46_1)) (f := b46_1) (Table.ok T51_ok _) hmix (planAt_ok (P := P) (n := Go.Proofs.Try.f46.ntmps) (fx := fx46) (c := (Code.at [true, true, true, true, true, true, true, true, true, true, true, true, true, true, false, false, false] c46)) (d := 64) (l := []) trivial) b46_1_eq) rfl _
noncomputable def f46 (x : gi46.D) : Option go46.D :=
  (if ((x.2.2.1 == (0 : Int)) = true) then none
   else (if ((decide (x.2.2.1 ≤ x.1)) = true) then none
   else (if ((x.1 == (0 : Int)) = true) then (if (x.2.2.1 = (0 : Int)) then none
   else (if (x.2.2.1 = (0 : Int)) then none
   else (some ((Go.IntKind.wrap Go.IntKind.u64 (Int.tdiv x.2.1 x.2.2.1)), ((Int.tmod x.2.1 x.2.2.1), Unit.unit)))))
   else (Option.bind (Go.Ev.Matrix.f51 (x.2.2.1, Unit.unit)) (fun y1 => (if ((Go.IntKind.wrap Go.IntKind.u64 y1.1) < (0 : Int)) then none
   else (if ((Go.IntKind.wrap Go.IntKind.u64 y1.1) < (0 : Int)) then none
   else (if ((Go.IntKind.wrap Go.IntKind.u64 ((64 : Int) - (Go.IntKind.wrap Go.IntKind.u64 y1.1))) < (0 : Int)) then none
   else (if ((Go.IntKind.wrap Go.IntKind.u64 y1.1) < (0 : Int)) then none
   else (if ((Int.fdiv (Go.IntKind.wrap Go.IntKind.u64 (x.2.2.1 * ((2 : Int) ^ (Min.min (Int.toNat (Go.IntKind.wrap Go.IntKind.u64 y1.1)) (64 : Nat))))) (4294967296 : Int)) = (0 : Int)) then none
   else (Option.bind (Go.Ev.Matrix.l46_1 ((Go.IntKind.wrap Go.IntKind.u64 (x.2.2.1 * ((2 : Int) ^ (Min.min (Int.toNat (Go.IntKind.wrap Go.IntKind.u64 y1.1)) (64 : Nat))))), ((Go.IntKind.wrap Go.IntKind.u64 y1.1), ((Int.fdiv (Go.IntKind.wrap Go.IntKind.u64 (x.2.2.1 * ((2 : Int) ^ (Min.min (Int.toNat (Go.IntKind.wrap Go.IntKind.u64 y1.1)) (64 : Nat))))) (4294967296 : Int)), ((Go.IntKind.wrap Go.IntKind.u64 (((BitVec.toNat ((BitVec.ofInt (64 : Nat) (Go.IntKind.wrap Go.IntKind.u64 (x.2.2.1 * ((2 : Int) ^ (Min.min (Int.toNat (Go.IntKind.wrap Go.IntKind.u64 y1.1)) (64 : Nat)))))) &&& (BitVec.ofInt (64 : Nat) (4294967295 : Int)))) : Nat) : Int)), ((Go.IntKind.wrap Go.IntKind.u64 (((BitVec.toNat ((BitVec.ofInt (64 : Nat) (Go.IntKind.wrap Go.IntKind.u64 (x.1 * ((2 : Int) ^ (Min.min (Int.toNat (Go.IntKind.wrap Go.IntKind.u64 y1.1)) (64 : Nat)))))) ||| (BitVec.ofInt (64 : Nat) (Int.fdiv x.2.1 ((2 : Int) ^ (Min.min (Int.toNat (Go.IntKind.wrap Go.IntKind.u64 ((64 : Int) - (Go.IntKind.wrap Go.IntKind.u64 y1.1)))) (64 : Nat))))))) : Nat) : Int)), ((Int.fdiv (Go.IntKind.wrap Go.IntKind.u64 (x.2.1 * ((2 : Int) ^ (Min.min (Int.toNat (Go.IntKind.wrap Go.IntKind.u64 y1.1)) (64 : Nat))))) (4294967296 : Int)), ((Go.IntKind.wrap Go.IntKind.u64 (((BitVec.toNat ((BitVec.ofInt (64 : Nat) (Go.IntKind.wrap Go.IntKind.u64 (x.2.1 * ((2 : Int) ^ (Min.min (Int.toNat (Go.IntKind.wrap Go.IntKind.u64 y1.1)) (64 : Nat)))))) &&& (BitVec.ofInt (64 : Nat) (4294967295 : Int)))) : Nat) : Int)), ((Go.IntKind.wrap Go.IntKind.u64 (Int.tdiv (Go.IntKind.wrap Go.IntKind.u64 (((BitVec.toNat ((BitVec.ofInt (64 : Nat) (Go.IntKind.wrap Go.IntKind.u64 (x.1 * ((2 : Int) ^ (Min.min (Int.toNat (Go.IntKind.wrap Go.IntKind.u64 y1.1)) (64 : Nat)))))) ||| (BitVec.ofInt (64 : Nat) (Int.fdiv x.2.1 ((2 : Int) ^ (Min.min (Int.toNat (Go.IntKind.wrap Go.IntKind.u64 ((64 : Int) - (Go.IntKind.wrap Go.IntKind.u64 y1.1)))) (64 : Nat))))))) : Nat) : Int)) (Int.fdiv (Go.IntKind.wrap Go.IntKind.u64 (x.2.2.1 * ((2 : Int) ^ (Min.min (Int.toNat (Go.IntKind.wrap Go.IntKind.u64 y1.1)) (64 : Nat))))) (4294967296 : Int)))), ((Go.IntKind.wrap Go.IntKind.u64 ((Go.IntKind.wrap Go.IntKind.u64 (((BitVec.toNat ((BitVec.ofInt (64 : Nat) (Go.IntKind.wrap Go.IntKind.u64 (x.1 * ((2 : Int) ^ (Min.min (Int.toNat (Go.IntKind.wrap Go.IntKind.u64 y1.1)) (64 : Nat)))))) ||| (BitVec.ofInt (64 : Nat) (Int.fdiv x.2.1 ((2 : Int) ^ (Min.min (Int.toNat (Go.IntKind.wrap Go.IntKind.u64 ((64 : Int) - (Go.IntKind.wrap Go.IntKind.u64 y1.1)))) (64 : Nat))))))) : Nat) : Int)) - (Go.IntKind.wrap Go.IntKind.u64 ((Go.IntKind.wrap Go.IntKind.u64 (Int.tdiv (Go.IntKind.wrap Go.IntKind.u64 (((BitVec.toNat ((BitVec.ofInt (64 : Nat) (Go.IntKind.wrap Go.IntKind.u64 (x.1 * ((2 : Int) ^ (Min.min (Int.toNat (Go.IntKind.wrap Go.IntKind.u64 y1.1)) (64 : Nat)))))) ||| (BitVec.ofInt (64 : Nat) (Int.fdiv x.2.1 ((2 : Int) ^ (Min.min (Int.toNat (Go.IntKind.wrap Go.IntKind.u64 ((64 : Int) - (Go.IntKind.wrap Go.IntKind.u64 y1.1)))) (64 : Nat))))))) : Nat) : Int)) (Int.fdiv (Go.IntKind.wrap Go.IntKind.u64 (x.2.2.1 * ((2 : Int) ^ (Min.min (Int.toNat (Go.IntKind.wrap Go.IntKind.u64 y1.1)) (64 : Nat))))) (4294967296 : Int)))) * (Int.fdiv (Go.IntKind.wrap Go.IntKind.u64 (x.2.2.1 * ((2 : Int) ^ (Min.min (Int.toNat (Go.IntKind.wrap Go.IntKind.u64 y1.1)) (64 : Nat))))) (4294967296 : Int)))))), Unit.unit)))))))))) (Sum.elim (fun y2 => (if (y2.2.2.1 = (0 : Int)) then none
   else (Option.bind (Go.Ev.Matrix.l46_2 (y2.1, (y2.2.1, (y2.2.2.1, (y2.2.2.2.1, (y2.2.2.2.2.2.2.1, (y2.2.2.2.2.2.2.2.1, ((Go.IntKind.wrap Go.IntKind.u64 ((Go.IntKind.wrap Go.IntKind.u64 ((Go.IntKind.wrap Go.IntKind.u64 ((Go.IntKind.wrap Go.IntKind.u64 (y2.2.2.2.2.1 * (4294967296 : Int))) + y2.2.2.2.2.2.1)) - (Go.IntKind.wrap Go.IntKind.u64 (y2.2.2.2.2.2.2.2.1 * y2.1)))) - (Go.IntKind.wrap Go.IntKind.u64 ((Go.IntKind.wrap Go.IntKind.u64 (Int.tdiv (Go.IntKind.wrap Go.IntKind.u64 ((Go.IntKind.wrap Go.IntKind.u64 ((Go.IntKind.wrap Go.IntKind.u64 (y2.2.2.2.2.1 * (4294967296 : Int))) + y2.2.2.2.2.2.1)) - (Go.IntKind.wrap Go.IntKind.u64 (y2.2.2.2.2.2.2.2.1 * y2.1)))) y2.2.2.1)) * y2.2.2.1)))), ((Go.IntKind.wrap Go.IntKind.u64 ((Go.IntKind.wrap Go.IntKind.u64 ((Go.IntKind.wrap Go.IntKind.u64 (y2.2.2.2.2.1 * (4294967296 : Int))) + y2.2.2.2.2.2.1)) - (Go.IntKind.wrap Go.IntKind.u64 (y2.2.2.2.2.2.2.2.1 * y2.1)))), ((Go.IntKind.wrap Go.IntKind.u64 (Int.tdiv (Go.IntKind.wrap Go.IntKind.u64 ((Go.IntKind.wrap Go.IntKind.u64 ((Go.IntKind.wrap Go.IntKind.u64 (y2.2.2.2.2.1 * (4294967296 : Int))) + y2.2.2.2.2.2.1)) - (Go.IntKind.wrap Go.IntKind.u64 (y2.2.2.2.2.2.2.2.1 * y2.1)))) y2.2.2.1)), Unit.unit)))))))))) (Sum.elim (fun y3 => (if (y3.2.1 < (0 : Int)) then none
   else (some ((Go.IntKind.wrap Go.IntKind.u64 ((Go.IntKind.wrap Go.IntKind.u64 (y3.2.2.2.1 * (4294967296 : Int))) + y3.2.2.2.2.2.1)), ((Int.fdiv (Go.IntKind.wrap Go.IntKind.u64 ((Go.IntKind.wrap Go.IntKind.u64 ((Go.IntKind.wrap Go.IntKind.u64 (y3.2.2.2.2.1 * (4294967296 : Int))) + y3.2.2.1)) - (Go.IntKind.wrap Go.IntKind.u64 (y3.2.2.2.2.2.1 * y3.1)))) ((2 : Int) ^ (Min.min (Int.toNat y3.2.1) (64 : Nat)))), Unit.unit))))) Empty.elim)))) Empty.elim))))))))))))
theorem f46_eq (x : gi46.D) : f46 x = evF P (T51.orc _) Go.Proofs.Try.f46.ntmps fx46 c46 (planAt 64 [([true, true, true, true, true, true, true, true, true, true, true, true, true, true, false, false], ⟨g46_1, o46_1, l46_1⟩), ([true, true, true, true, true, true, true, true, true, true, true, true, true, true, true, true, true, true, false, false], ⟨g46_2, o46_2, l46_2⟩)]) gi46 x (fnK fx46 [go46]) := by kernel_rfl
theorem pf46 : AllSub P Go.Proofs.Try.f46.ntmps fx46 c46 [([true, true, true, true, true, true, true, true, true, true, true, true, true, true, false, false], ⟨g46_1, o46_1, l46_1⟩), ([true, true, true, true, true, true, true, true, true, true, true, true, true, true, true, true, true, true, false, false], ⟨g46_2, o46_2, l46_2⟩)] := And.intro s46_1_ok (And.intro s46_2_ok (trivial))
theorem qf46 : PlanOk P Go.Proofs.Try.f46.ntmps fx46 (planAt 64 [([true, true, true, true, true, true, true, true, true, true, true, true, true, true, false, false], ⟨g46_1, o46_1, l46_1⟩), ([true, true, true, true, true, true, true, true, true, true, true, true, true, true, true, true, true, true, false, false], ⟨g46_2, o46_2, l46_2⟩)]) c46 := planAt_ok pf46
theorem f46_ok : EntOk P 46 ⟨gi46, [go46], f46⟩ :=
  ent_ok (fn := Go.Proofs.Try.f46) (gi := gi46) (gos := [go46]) (f := f46) (c := c46) (fx := fx46) ⟨Go.Proofs.Try.func46, by kernel_rfl, rfl, by decide +kernel, rfl, rfl⟩ (by kernel_rfl) (Table.ok T51_ok _) hmix (qf46) f46_eq
noncomputable def T46 : Table := T51.add 46 [⟨gi46, [go46], f46⟩] []
theorem T46_ok : TableOk P T46 := Table.plus T51_ok (es := [⟨gi46, [go46], f46⟩]) ⟨f46_ok, trivial⟩ []

/-! ## 38: (erasure/dec.wide).by -/
noncomputable def c38 : Code := Func.code Go.Proofs.Try.f38
abbrev gi38 : Sg := ⟨[0], [.agg [.lf (.int .u64), .lf (.int .u64)]], []⟩
abbrev go38 : Sg := ⟨[0, 3], [.agg [.lf (.int .u64), .lf (.int .u64)], .lf (.int .u64)], []⟩
def fx38 : List Bool := []
noncomputable def f38 (x : gi38.D) : Option go38.D :=
  (Option.bind (Go.Ev.Matrix.f46 ((Int.tmod x.1 (10 : Int)), (x.2.1, ((10 : Int), Unit.unit)))) (fun y1 => (some ((Go.IntKind.wrap Go.IntKind.u64 (Int.tdiv x.1 (10 : Int))), (y1.1, (y1.2.1, Unit.unit))))))
theorem f38_eq (x : gi38.D) : f38 x = evF P (T46.orc _) Go.Proofs.Try.f38.ntmps fx38 c38 (planAt 64 []) gi38 x (fnKR P Go.Proofs.Try.f38 fx38 [go38]) := by kernel_rfl
theorem f38_ok : EntOk P 38 ⟨gi38, [go38], f38⟩ :=
  ent_okR (fn := Go.Proofs.Try.f38) (gi := gi38) (gos := [go38]) (f := f38) (c := c38) (fx := fx38) ⟨Go.Proofs.Try.func38, by kernel_rfl, rfl, by decide +kernel, rfl, rfl⟩ (Table.ok T46_ok _) hmix (planAt_ok (P := P) (n := Go.Proofs.Try.f38.ntmps) (fx := fx38) (c := c38) (d := 64) (l := []) trivial) f38_eq
noncomputable def T38 : Table := T46.add 38 [⟨gi38, [go38], f38⟩] []
theorem T38_ok : TableOk P T38 := Table.plus T46_ok (es := [⟨gi38, [go38], f38⟩]) ⟨f38_ok, trivial⟩ []

/-! ## 28: erasure/dec.tell -/
noncomputable def c28 : Code := Func.code Go.Proofs.Try.f28
abbrev gi28 : Sg := ⟨[0, 1, 2], [.lf .bool, .agg [.lf (.int .u64), .lf (.int .u64)], .lf (.int .i64)], []⟩
abbrev go28 : Sg := ⟨[0, 7], [.agg [.lf (.int .i64), .lf (.int .i64)], .lf (.int .i64)], []⟩
def fx28 : List Bool := []
abbrev g28_1 : Sg := ⟨[0, 2, 4, 6], [.lf .bool, .lf (.int .i64), .lf (.ptr 0 0), .lf (.ptr 1 0)], [some (.box true [.lf (.int .u64), .lf (.int .u64)]), some (.box true [.lf (.int .i64), .lf (.int .i64)])]⟩
abbrev o28_1 : Outs := [(.exit 0, ⟨[0, 2, 4, 6], [.lf .bool, .lf (.int .i64), .lf (.ptr 0 0), .lf (.ptr 1 0)], [some (.box true [.lf (.int .u64), .lf (.int .u64)]), some (.box true [.lf (.int .i64), .lf (.int .i64)])]⟩)]
noncomputable def b28_1 (x : g28_1.D) : Option (outD ((.normal, g28_1) :: o28_1)) :=
  (if ((decide (x.2.1 > (0 : Int))) = true) then (Option.bind (Go.Ev.Matrix.f38 (x.2.2.1, (x.2.2.2.1, Unit.unit))) (fun y1 => (if ((y1.2.2.1 != (0 : Int)) = true) then (some (Sum.inr (Sum.inl (x.1, (x.2.1, (x.2.2.1, (x.2.2.2.1, (x.2.2.2.2.1, (x.2.2.2.2.2.1, Unit.unit)))))))))
   else (some (Sum.inl (x.1, ((Go.IntKind.wrap Go.IntKind.i64 (x.2.1 - (1 : Int))), (y1.1, (y1.2.1, (x.2.2.2.2.1, (x.2.2.2.2.2.1, Unit.unit)))))))))))
   else (some (Sum.inr (Sum.inl (x.1, (x.2.1, (x.2.2.1, (x.2.2.2.1, (x.2.2.2.2.1, (x.2.2.2.2.2.1, Unit.unit))))))))))
theorem b28_1_eq (x : g28_1.D) : b28_1 x = evF P (T38.orc _) Go.Proofs.Try.f28.ntmps fx28 (Code.at [true, false, false, false] c28) (planAt 64 []) g28_1 x (injK fx28 ((.normal, g28_1) :: o28_1) some) := by kernel_rfl
noncomputable def l28_1 : g28_1.D → Option (outD o28_1) := loopN g28_1 o28_1 b28_1 18446744073709551616
theorem at28_1 : Code.at [true, false, false] c28 = .loop (Code.at [true, false, false, false] c28) := by kernel_rfl
theorem s28_1_ok : SubOk P Go.Proofs.Try.f28.ntmps fx28 (Code.at [true, false, false] c28) ⟨g28_1, o28_1, l28_1⟩ := by
  rw [at28_1]
  exact loop_ok (sub_ok (g := g28_1) (outs := ((.normal, g28_1) :: o28_1)) (f := b28_1) (Table.ok T38_ok _) hmix (planAt_ok (P := P) (n := Go.Proofs.Try.f28.ntmps) (fx := fx28) (c := (Code.at [true, false, false, false] c28)) (d := 64) (l := []) trivial) b28_1_eq) rfl _
noncomputable def f28 (x : gi28.D) : Option go28.D :=
  (Option.bind (Go.Ev.Matrix.l28_1 (x.1, (x.2.2.2.1, (x.2.1, (x.2.2.1, ((0 : Int), ((0 : Int), Unit.unit))))))) (Sum.elim (fun y1 => (if ((y1.2.2.1 != (0 : Int)) = true) then (some ((0 : Int), ((0 : Int), ((5 : Int), Unit.unit))))
   else (if ((decide (y1.2.2.2.1 > (999999999999999999 : Int))) = true) then (some ((0 : Int), ((0 : Int), ((5 : Int), Unit.unit))))
   else (if ((decide (y1.2.1 > (9 : Int))) = true) then (some ((0 : Int), ((0 : Int), ((5 : Int), Unit.unit))))
   else (if (y1.1 = true) then (some ((Go.IntKind.wrap Go.IntKind.i64 ((0 : Int) - (Go.IntKind.wrap Go.IntKind.i64 y1.2.2.2.1))), (y1.2.1, ((0 : Int), Unit.unit))))
   else (some ((Go.IntKind.wrap Go.IntKind.i64 y1.2.2.2.1), (y1.2.1, ((0 : Int), Unit.unit))))))))) Empty.elim))
theorem f28_eq (x : gi28.D) : f28 x = evF P (T38.orc _) Go.Proofs.Try.f28.ntmps fx28 c28 (planAt 64 [([true, false, false], ⟨g28_1, o28_1, l28_1⟩)]) gi28 x (fnKR P Go.Proofs.Try.f28 fx28 [go28]) := by kernel_rfl
theorem pf28 : AllSub P Go.Proofs.Try.f28.ntmps fx28 c28 [([true, false, false], ⟨g28_1, o28_1, l28_1⟩)] := And.intro s28_1_ok (trivial)
theorem qf28 : PlanOk P Go.Proofs.Try.f28.ntmps fx28 (planAt 64 [([true, false, false], ⟨g28_1, o28_1, l28_1⟩)]) c28 := planAt_ok pf28
theorem f28_ok : EntOk P 28 ⟨gi28, [go28], f28⟩ :=
  ent_okR (fn := Go.Proofs.Try.f28) (gi := gi28) (gos := [go28]) (f := f28) (c := c28) (fx := fx28) ⟨Go.Proofs.Try.func28, by kernel_rfl, rfl, by decide +kernel, rfl, rfl⟩ (Table.ok T38_ok _) hmix (qf28) f28_eq
noncomputable def T28 : Table := T38.add 28 [⟨gi28, [go28], f28⟩] []
theorem T28_ok : TableOk P T28 := Table.plus T38_ok (es := [⟨gi28, [go28], f28⟩]) ⟨f28_ok, trivial⟩ []

/-! ## 33: erasure/dec.Mul -/
noncomputable def c33 : Code := Func.code Go.Proofs.Try.f33
abbrev gi33 : Sg := ⟨[0, 1], [.agg [.lf (.int .i64), .lf (.int .i64)], .agg [.lf (.int .i64), .lf (.int .i64)]], []⟩
abbrev go33 : Sg := ⟨[0, 5], [.agg [.lf (.int .i64), .lf (.int .i64)], .lf (.int .i64)], []⟩
def fx33 : List Bool := []
noncomputable def f33 (x : gi33.D) : Option go33.D :=
  (Option.bind (Go.Ev.Matrix.f19 (x.1, (x.2.1, Unit.unit))) (fun y1 => (if ((y1.1 != (0 : Int)) = true) then (some ((0 : Int), ((0 : Int), ((1 : Int), Unit.unit))))
   else (Option.bind (Go.Ev.Matrix.f19 (x.2.2.1, (x.2.2.2.1, Unit.unit))) (fun y2 => (if ((y2.1 != (0 : Int)) = true) then (some ((0 : Int), ((0 : Int), ((1 : Int), Unit.unit))))
   else (Option.bind (Go.Ev.Matrix.f42 (x.1, Unit.unit)) (fun y3 => (Option.bind (Go.Ev.Matrix.f42 (x.2.2.1, Unit.unit)) (fun y4 => (Option.bind (Go.Ev.Matrix.f41 (y3.1, (y4.1, Unit.unit))) (fun y5 => (Option.bind (Go.Ev.Matrix.f28 ((Bool.not ((decide (x.1 < (0 : Int))) == (decide (x.2.2.1 < (0 : Int))))), (y5.1, (y5.2.1, ((Go.IntKind.wrap Go.IntKind.i64 (x.2.1 + x.2.2.2.1)), Unit.unit))))) (fun y6 => (some (y6.1, (y6.2.1, (y6.2.2.1, Unit.unit))))))))))))))))))
theorem f33_eq (x : gi33.D) : f33 x = evF P (T28.orc _) Go.Proofs.Try.f33.ntmps fx33 c33 (planAt 64 []) gi33 x (fnKR P Go.Proofs.Try.f33 fx33 [go33]) := by kernel_rfl
theorem f33_ok : EntOk P 33 ⟨gi33, [go33], f33⟩ :=
  ent_okR (fn := Go.Proofs.Try.f33) (gi := gi33) (gos := [go33]) (f := f33) (c := c33) (fx := fx33) ⟨Go.Proofs.Try.func33, by kernel_rfl, rfl, by decide +kernel, rfl, rfl⟩ (Table.ok T28_ok _) hmix (planAt_ok (P := P) (n := Go.Proofs.Try.f33.ntmps) (fx := fx33) (c := c33) (d := 64) (l := []) trivial) f33_eq
noncomputable def T33 : Table := T28.add 33 [⟨gi33, [go33], f33⟩] []
theorem T33_ok : TableOk P T33 := Table.plus T28_ok (es := [⟨gi33, [go33], f33⟩]) ⟨f33_ok, trivial⟩ []

/-! ## 31: erasure/matrix.reckoner$1 -/
noncomputable def c31 : Code := Func.code Go.Proofs.Try.f31
abbrev gi31 : Sg := ⟨[0, 1, 2], [.agg [.lf (.int .i64), .lf (.int .i64)], .lf (.int .i64), .lf (.ptr 0 0)], [some (.box true [.lf (.int .i64)])]⟩
abbrev go31 : Sg := ⟨[0], [.agg [.lf (.int .i64), .lf (.int .i64)]], [some (.box true [.lf (.int .i64)])]⟩
def fx31 : List Bool := [true]
noncomputable def f31 (x : gi31.D) : Option go31.D :=
  (if ((x.2.2.2.1 == (0 : Int)) = true) then (some (x.1, (x.2.1, (x.2.2.1, Unit.unit))))
   else (some (x.1, (x.2.1, (x.2.2.2.1, Unit.unit)))))
theorem f31_eq (x : gi31.D) : f31 x = evF P (T33.orc _) Go.Proofs.Try.f31.ntmps fx31 c31 (planAt 64 []) gi31 x (fnKR P Go.Proofs.Try.f31 fx31 [go31]) := by kernel_rfl
theorem f31_ok : EntOk P 31 ⟨gi31, [go31], f31⟩ :=
  ent_okR (fn := Go.Proofs.Try.f31) (gi := gi31) (gos := [go31]) (f := f31) (c := c31) (fx := fx31) ⟨Go.Proofs.Try.func31, by kernel_rfl, rfl, by decide +kernel, rfl, rfl⟩ (Table.ok T33_ok _) hmix (planAt_ok (P := P) (n := Go.Proofs.Try.f31.ntmps) (fx := fx31) (c := c31) (d := 64) (l := []) trivial) f31_eq
noncomputable def T31 : Table := T33.add 31 [⟨gi31, [go31], f31⟩] []
theorem T31_ok : TableOk P T31 := Table.plus T33_ok (es := [⟨gi31, [go31], f31⟩]) ⟨f31_ok, trivial⟩ []

/-! ## 37: erasure/dec.lift -/
noncomputable def c37 : Code := Func.code Go.Proofs.Try.f37
abbrev gi37 : Sg := ⟨[0, 1], [.agg [.lf (.int .i64), .lf (.int .i64)], .lf (.int .i64)], []⟩
abbrev go37 : Sg := ⟨[0], [.agg [.lf (.int .u64), .lf (.int .u64)]], []⟩
def fx37 : List Bool := []
abbrev g37_1 : Sg := ⟨[1, 4, 5, 6], [.lf (.int .i64), .lf (.ptr 0 0), .lf (.ptr 1 0), .lf (.int .i64)], [some (.box true [.lf (.int .u64), .lf (.int .u64)]), some (.box true [.lf (.int .u64), .lf (.int .u64)])]⟩
abbrev o37_1 : Outs := [(.exit 0, ⟨[4, 5], [.lf (.ptr 0 0), .lf (.ptr 1 0)], [some (.box true [.lf (.int .u64), .lf (.int .u64)]), some (.box true [.lf (.int .u64), .lf (.int .u64)])]⟩)]
noncomputable def b37_1 (x : g37_1.D) : Option (outD ((.normal, g37_1) :: o37_1)) :=
  (if ((decide (x.2.1 < x.1)) = true) then (Option.bind (Go.Ev.Matrix.f41 (x.2.2.2.2.2.1, ((10 : Int), Unit.unit))) (fun y1 => (some (Sum.inl (x.1, ((Go.IntKind.wrap Go.IntKind.i64 (x.2.1 + (1 : Int))), (x.2.2.1, (x.2.2.2.1, ((Go.IntKind.wrap Go.IntKind.u64 ((Go.IntKind.wrap Go.IntKind.u64 (x.2.2.2.2.1 * (10 : Int))) + y1.1)), (y1.2.1, Unit.unit))))))))))
   else (some (Sum.inr (Sum.inl (x.2.2.1, (x.2.2.2.1, (x.2.2.2.2.1, (x.2.2.2.2.2.1, Unit.unit))))))))
theorem b37_1_eq (x : g37_1.D) : b37_1 x = evF P (T31.orc _) Go.Proofs.Try.f37.ntmps fx37 (Code.at [true, true, false, true, false, false] c37) (planAt 64 []) g37_1 x (injK fx37 ((.normal, g37_1) :: o37_1) some) := by kernel_rfl
noncomputable def l37_1 : g37_1.D → Option (outD o37_1) := loopN g37_1 o37_1 b37_1 18446744073709551616
theorem at37_1 : Code.at [true, true, false, true, false] c37 = .loop (Code.at [true, true, false, true, false, false] c37) := by kernel_rfl
theorem s37_1_ok : SubOk P Go.Proofs.Try.f37.ntmps fx37 (Code.at [true, true, false, true, false] c37) ⟨g37_1, o37_1, l37_1⟩ := by
  rw [at37_1]
  exact loop_ok (sub_ok (g := g37_1) (outs := ((.normal, g37_1) :: o37_1)) (f := b37_1) (Table.ok T31_ok _) hmix (planAt_ok (P := P) (n := Go.Proofs.Try.f37.ntmps) (fx := fx37) (c := (Code.at [true, true, false, true, false, false] c37)) (d := 64) (l := []) trivial) b37_1_eq) rfl _
noncomputable def f37 (x : gi37.D) : Option go37.D :=
  (Option.bind (Go.Ev.Matrix.f42 (x.1, Unit.unit)) (fun y1 => (Option.bind (Go.Ev.Matrix.l37_1 (x.2.2.1, (x.2.1, ((0 : Int), ((0 : Int), ((0 : Int), (y1.1, Unit.unit))))))) (Sum.elim (fun y2 => (some (y2.2.2.1, (y2.2.2.2.1, Unit.unit)))) Empty.elim))))
theorem f37_eq (x : gi37.D) : f37 x = evF P (T31.orc _) Go.Proofs.Try.f37.ntmps fx37 c37 (planAt 64 [([true, true, false, true, false], ⟨g37_1, o37_1, l37_1⟩)]) gi37 x (fnKR P Go.Proofs.Try.f37 fx37 [go37]) := by kernel_rfl
theorem pf37 : AllSub P Go.Proofs.Try.f37.ntmps fx37 c37 [([true, true, false, true, false], ⟨g37_1, o37_1, l37_1⟩)] := And.intro s37_1_ok (trivial)
theorem qf37 : PlanOk P Go.Proofs.Try.f37.ntmps fx37 (planAt 64 [([true, true, false, true, false], ⟨g37_1, o37_1, l37_1⟩)]) c37 := planAt_ok pf37
theorem f37_ok : EntOk P 37 ⟨gi37, [go37], f37⟩ :=
  ent_okR (fn := Go.Proofs.Try.f37) (gi := gi37) (gos := [go37]) (f := f37) (c := c37) (fx := fx37) ⟨Go.Proofs.Try.func37, by kernel_rfl, rfl, by decide +kernel, rfl, rfl⟩ (Table.ok T31_ok _) hmix (qf37) f37_eq
noncomputable def T37 : Table := T31.add 37 [⟨gi37, [go37], f37⟩] []
theorem T37_ok : TableOk P T37 := Table.plus T31_ok (es := [⟨gi37, [go37], f37⟩]) ⟨f37_ok, trivial⟩ []

/-! ## 26: erasure/dec.pair -/
noncomputable def c26 : Code := Func.code Go.Proofs.Try.f26
abbrev gi26 : Sg := ⟨[0, 1], [.agg [.lf (.int .i64), .lf (.int .i64)], .agg [.lf (.int .i64), .lf (.int .i64)]], []⟩
abbrev go26 : Sg := ⟨[0, 0, 6, 7], [.agg [.lf (.int .u64), .lf (.int .u64)], .agg [.lf (.int .u64), .lf (.int .u64)], .lf (.int .i64), .lf (.int .i64)], []⟩
def fx26 : List Bool := []
noncomputable def f26 (x : gi26.D) : Option go26.D :=
  (Option.bind (Go.Ev.Matrix.f19 (x.1, (x.2.1, Unit.unit))) (fun y1 => (if ((y1.1 != (0 : Int)) = true) then (some ((0 : Int), ((0 : Int), ((0 : Int), ((0 : Int), ((0 : Int), ((1 : Int), Unit.unit)))))))
   else (Option.bind (Go.Ev.Matrix.f19 (x.2.2.1, (x.2.2.2.1, Unit.unit))) (fun y2 => (if ((y2.1 != (0 : Int)) = true) then (some ((0 : Int), ((0 : Int), ((0 : Int), ((0 : Int), ((0 : Int), ((1 : Int), Unit.unit)))))))
   else (Option.bind (Go.Ev.Matrix.f37 (x.1, (x.2.1, ((Max.max x.2.1 x.2.2.2.1), Unit.unit)))) (fun y3 => (Option.bind (Go.Ev.Matrix.f37 (x.2.2.1, (x.2.2.2.1, ((Max.max x.2.1 x.2.2.2.1), Unit.unit)))) (fun y4 => (some (y3.1, (y3.2.1, (y4.1, (y4.2.1, ((Max.max x.2.1 x.2.2.2.1), ((0 : Int), Unit.unit)))))))))))))))))
theorem f26_eq (x : gi26.D) : f26 x = evF P (T37.orc _) Go.Proofs.Try.f26.ntmps fx26 c26 (planAt 64 []) gi26 x (fnKR P Go.Proofs.Try.f26 fx26 [go26]) := by kernel_rfl
theorem f26_ok : EntOk P 26 ⟨gi26, [go26], f26⟩ :=
  ent_okR (fn := Go.Proofs.Try.f26) (gi := gi26) (gos := [go26]) (f := f26) (c := c26) (fx := fx26) ⟨Go.Proofs.Try.func26, by kernel_rfl, rfl, by decide +kernel, rfl, rfl⟩ (Table.ok T37_ok _) hmix (planAt_ok (P := P) (n := Go.Proofs.Try.f26.ntmps) (fx := fx26) (c := c26) (d := 64) (l := []) trivial) f26_eq
noncomputable def T26 : Table := T37.add 26 [⟨gi26, [go26], f26⟩] []
theorem T26_ok : TableOk P T26 := Table.plus T37_ok (es := [⟨gi26, [go26], f26⟩]) ⟨f26_ok, trivial⟩ []

/-! ## 47: cmp.isNaN[uint64] -/
noncomputable def c47 : Code := Func.code Go.Proofs.Try.f47
abbrev gi47 : Sg := ⟨[0], [.lf (.int .u64)], []⟩
abbrev go47 : Sg := ⟨[2], [.lf .bool], []⟩
def fx47 : List Bool := []
noncomputable def f47 (x : gi47.D) : Option go47.D :=
  (some ((x.1 != x.1), Unit.unit))
theorem f47_eq (x : gi47.D) : f47 x = evF P (T26.orc _) Go.Proofs.Try.f47.ntmps fx47 c47 (planAt 64 []) gi47 x (fnK fx47 [go47]) := by kernel_rfl
theorem f47_ok : EntOk P 47 ⟨gi47, [go47], f47⟩ :=
  ent_ok (fn := Go.Proofs.Try.f47) (gi := gi47) (gos := [go47]) (f := f47) (c := c47) (fx := fx47) ⟨Go.Proofs.Try.func47, by kernel_rfl, rfl, by decide +kernel, rfl, rfl⟩ (by kernel_rfl) (Table.ok T26_ok _) hmix (planAt_ok (P := P) (n := Go.Proofs.Try.f47.ntmps) (fx := fx47) (c := c47) (d := 64) (l := []) trivial) f47_eq
noncomputable def T47 : Table := T26.add 47 [⟨gi47, [go47], f47⟩] []
theorem T47_ok : TableOk P T47 := Table.plus T26_ok (es := [⟨gi47, [go47], f47⟩]) ⟨f47_ok, trivial⟩ []

/-! ## 40: cmp.Compare[uint64] -/
noncomputable def c40 : Code := Func.code Go.Proofs.Try.f40
abbrev gi40 : Sg := ⟨[0, 1], [.lf (.int .u64), .lf (.int .u64)], []⟩
abbrev go40 : Sg := ⟨[4], [.lf (.int .i64)], []⟩
def fx40 : List Bool := []
noncomputable def f40 (x : gi40.D) : Option go40.D :=
  (Option.bind (Go.Ev.Matrix.f47 (x.1, Unit.unit)) (fun y1 => (Option.bind (Go.Ev.Matrix.f47 (x.2.1, Unit.unit)) (fun y2 => (if (y1.1 = true) then (if (y2.1 = true) then (some ((0 : Int), Unit.unit))
   else (some ((-1 : Int), Unit.unit)))
   else (if (y2.1 = true) then (some ((1 : Int), Unit.unit))
   else (if ((decide (x.1 < x.2.1)) = true) then (some ((-1 : Int), Unit.unit))
   else (if ((decide (x.1 > x.2.1)) = true) then (some ((1 : Int), Unit.unit))
   else (some ((0 : Int), Unit.unit))))))))))
theorem f40_eq (x : gi40.D) : f40 x = evF P (T47.orc _) Go.Proofs.Try.f40.ntmps fx40 c40 (planAt 64 []) gi40 x (fnK fx40 [go40]) := by kernel_rfl
theorem f40_ok : EntOk P 40 ⟨gi40, [go40], f40⟩ :=
  ent_ok (fn := Go.Proofs.Try.f40) (gi := gi40) (gos := [go40]) (f := f40) (c := c40) (fx := fx40) ⟨Go.Proofs.Try.func40, by kernel_rfl, rfl, by decide +kernel, rfl, rfl⟩ (by kernel_rfl) (Table.ok T47_ok _) hmix (planAt_ok (P := P) (n := Go.Proofs.Try.f40.ntmps) (fx := fx40) (c := c40) (d := 64) (l := []) trivial) f40_eq
noncomputable def T40 : Table := T47.add 40 [⟨gi40, [go40], f40⟩] []
theorem T40_ok : TableOk P T40 := Table.plus T47_ok (es := [⟨gi40, [go40], f40⟩]) ⟨f40_ok, trivial⟩ []

/-! ## 39: cmp.Or[int] -/
noncomputable def c39 : Code := Func.code Go.Proofs.Try.f39
abbrev gi39 : Sg := ⟨[0], [.lf (.sl (.int .i64))], []⟩
abbrev go39 : Sg := ⟨[2], [.lf (.int .i64)], []⟩
def fx39 : List Bool := []
abbrev g39_1 : Sg := ⟨[3, 6, 7, 8], [.lf (.int .i64), .lf (.sl (.int .i64)), .lf (.int .i64), .lf (.int .i64)], []⟩
abbrev o39_1 : Outs := [(.exit 0, ⟨[3], [.lf (.int .i64)], []⟩), (.ret, ⟨[2], [.lf (.int .i64)], []⟩)]
noncomputable def b39_1 (x : g39_1.D) : Option (outD ((.normal, g39_1) :: o39_1)) :=
  (if ((decide (x.2.2.2.1 < x.2.2.1)) = true) then (if ((0 : Int) ≤ x.2.2.2.1) then (if (x.2.2.2.1 < (((List.length x.2.1) : Nat) : Int)) then (if (((List.getD x.2.1 (Int.toNat x.2.2.2.1) (0 : Int)) != x.1) = true) then (some (Sum.inr (Sum.inr (Sum.inl ((List.getD x.2.1 (Int.toNat x.2.2.2.1) (0 : Int)), Unit.unit)))))
   else (some (Sum.inl (x.1, (x.2.1, (x.2.2.1, ((Go.IntKind.wrap Go.IntKind.i64 (x.2.2.2.1 + (1 : Int))), Unit.unit)))))))
   else none)
   else none)
   else (some (Sum.inr (Sum.inl (x.1, Unit.unit)))))
theorem b39_1_eq (x : g39_1.D) : b39_1 x = evF P (T40.orc _) Go.Proofs.Try.f39.ntmps fx39 (Code.at [true, true, false, true, false, false] c39) (planAt 64 []) g39_1 x (injK fx39 ((.normal, g39_1) :: o39_1) some) := by kernel_rfl
noncomputable def l39_1 : g39_1.D → Option (outD o39_1) := loopN g39_1 o39_1 b39_1 18446744073709551616
theorem at39_1 : Code.at [true, true, false, true, false] c39 = .loop (Code.at [true, true, false, true, false, false] c39) := by kernel_rfl
theorem s39_1_ok : SubOk P Go.Proofs.Try.f39.ntmps fx39 (Code.at [true, true, false, true, false] c39) ⟨g39_1, o39_1, l39_1⟩ := by
  rw [at39_1]
  exact loop_ok (sub_ok (g := g39_1) (outs := ((.normal, g39_1) :: o39_1)) (f := b39_1) (Table.ok T40_ok _) hmix (planAt_ok (P := P) (n := Go.Proofs.Try.f39.ntmps) (fx := fx39) (c := (Code.at [true, true, false, true, false, false] c39)) (d := 64) (l := []) trivial) b39_1_eq) rfl _
noncomputable def f39 (x : gi39.D) : Option go39.D :=
  (Option.bind (Go.Ev.Matrix.l39_1 ((0 : Int), (x.1, ((((List.length x.1) : Nat) : Int), ((0 : Int), Unit.unit))))) (Sum.elim (fun y1 => (some (y1.1, Unit.unit))) (Sum.elim (fun y1 => (some (y1.1, Unit.unit))) Empty.elim)))
theorem f39_eq (x : gi39.D) : f39 x = evF P (T40.orc _) Go.Proofs.Try.f39.ntmps fx39 c39 (planAt 64 [([true, true, false, true, false], ⟨g39_1, o39_1, l39_1⟩)]) gi39 x (fnK fx39 [go39]) := by kernel_rfl
theorem pf39 : AllSub P Go.Proofs.Try.f39.ntmps fx39 c39 [([true, true, false, true, false], ⟨g39_1, o39_1, l39_1⟩)] := And.intro s39_1_ok (trivial)
theorem qf39 : PlanOk P Go.Proofs.Try.f39.ntmps fx39 (planAt 64 [([true, true, false, true, false], ⟨g39_1, o39_1, l39_1⟩)]) c39 := planAt_ok pf39
theorem f39_ok : EntOk P 39 ⟨gi39, [go39], f39⟩ :=
  ent_ok (fn := Go.Proofs.Try.f39) (gi := gi39) (gos := [go39]) (f := f39) (c := c39) (fx := fx39) ⟨Go.Proofs.Try.func39, by kernel_rfl, rfl, by decide +kernel, rfl, rfl⟩ (by kernel_rfl) (Table.ok T40_ok _) hmix (qf39) f39_eq
noncomputable def T39 : Table := T40.add 39 [⟨gi39, [go39], f39⟩] []
theorem T39_ok : TableOk P T39 := Table.plus T40_ok (es := [⟨gi39, [go39], f39⟩]) ⟨f39_ok, trivial⟩ []

/-! ## 29: (erasure/dec.wide).compare -/
noncomputable def c29 : Code := Func.code Go.Proofs.Try.f29
abbrev gi29 : Sg := ⟨[0, 1], [.agg [.lf (.int .u64), .lf (.int .u64)], .agg [.lf (.int .u64), .lf (.int .u64)]], []⟩
abbrev go29 : Sg := ⟨[4], [.lf (.int .i64)], []⟩
def fx29 : List Bool := []
noncomputable def f29 (x : gi29.D) : Option go29.D :=
  (Option.bind (Go.Ev.Matrix.f40 (x.1, (x.2.2.1, Unit.unit))) (fun y1 => (Option.bind (Go.Ev.Matrix.f40 (x.2.1, (x.2.2.2.1, Unit.unit))) (fun y2 => (Option.bind (Go.Ev.Matrix.f39 ((List.take (2 : Nat) (List.drop (0 : Nat) (List.set (List.set (List.replicate (2 : Nat) (0 : Int)) (0 : Nat) y1.1) (1 : Nat) y2.1))), Unit.unit)) (fun y3 => (some (y3.1, Unit.unit))))))))
theorem f29_eq (x : gi29.D) : f29 x = evF P (T39.orc _) Go.Proofs.Try.f29.ntmps fx29 c29 (planAt 64 []) gi29 x (fnK fx29 [go29]) := by kernel_rfl
theorem f29_ok : EntOk P 29 ⟨gi29, [go29], f29⟩ :=
  ent_ok (fn := Go.Proofs.Try.f29) (gi := gi29) (gos := [go29]) (f := f29) (c := c29) (fx := fx29) ⟨Go.Proofs.Try.func29, by kernel_rfl, rfl, by decide +kernel, rfl, rfl⟩ (by kernel_rfl) (Table.ok T39_ok _) hmix (planAt_ok (P := P) (n := Go.Proofs.Try.f29.ntmps) (fx := fx29) (c := c29) (d := 64) (l := []) trivial) f29_eq
noncomputable def T29 : Table := T39.add 29 [⟨gi29, [go29], f29⟩] []
theorem T29_ok : TableOk P T29 := Table.plus T39_ok (es := [⟨gi29, [go29], f29⟩]) ⟨f29_ok, trivial⟩ []

/-! ## 20: erasure/dec.Add -/
noncomputable def c20 : Code := Func.code Go.Proofs.Try.f20
abbrev gi20 : Sg := ⟨[0, 1], [.agg [.lf (.int .i64), .lf (.int .i64)], .agg [.lf (.int .i64), .lf (.int .i64)]], []⟩
abbrev go20 : Sg := ⟨[0, 5], [.agg [.lf (.int .i64), .lf (.int .i64)], .lf (.int .i64)], []⟩
def fx20 : List Bool := []
noncomputable def f20 (x : gi20.D) : Option go20.D :=
  (Option.bind (Go.Ev.Matrix.f26 (x.1, (x.2.1, (x.2.2.1, (x.2.2.2.1, Unit.unit))))) (fun y1 => (if ((y1.2.2.2.2.2.1 != (0 : Int)) = true) then (some ((0 : Int), ((0 : Int), (y1.2.2.2.2.2.1, Unit.unit))))
   else (if (((decide (x.1 < (0 : Int))) == (decide (x.2.2.1 < (0 : Int)))) = true) then (if (((0 : Int) ≤ y1.2.1) ∧ (((0 : Int) ≤ y1.2.2.2.1) ∧ (((0 : Int) ≤ (0 : Int)) ∧ ((0 : Int) ≤ (1 : Int))))) then (Option.bind (Go.Ev.Matrix.f28 ((decide (x.1 < (0 : Int))), ((Go.IntKind.wrap Go.IntKind.u64 ((Go.IntKind.wrap Go.IntKind.u64 (y1.1 + y1.2.2.1)) + (((y1.2.1 + y1.2.2.2.1) + (0 : Int)) / (18446744073709551616 : Int)))), ((((y1.2.1 + y1.2.2.2.1) + (0 : Int)) % (18446744073709551616 : Int)), (y1.2.2.2.2.1, Unit.unit))))) (fun y2 => (some (y2.1, (y2.2.1, (y2.2.2.1, Unit.unit))))))
   else none)
   else (Option.bind (Go.Ev.Matrix.f29 (y1.1, (y1.2.1, (y1.2.2.1, (y1.2.2.2.1, Unit.unit))))) (fun y2 => (if ((decide (y2.1 < (0 : Int))) = true) then (if (((0 : Int) ≤ y1.2.2.2.1) ∧ (((0 : Int) ≤ y1.2.1) ∧ (((0 : Int) ≤ (0 : Int)) ∧ (((0 : Int) ≤ (1 : Int)) ∧ ((y1.2.1 + (0 : Int)) ≤ (y1.2.2.2.1 + (18446744073709551616 : Int))))))) then (Option.bind (Go.Ev.Matrix.f28 ((Bool.not (decide (x.1 < (0 : Int)))), ((Go.IntKind.wrap Go.IntKind.u64 ((Go.IntKind.wrap Go.IntKind.u64 (y1.2.2.1 - y1.1)) - (((Go.Ev.nat01 (decide (y1.2.2.2.1 < (y1.2.1 + (0 : Int))))) : Nat) : Int))), (((((y1.2.2.2.1 + (18446744073709551616 : Int)) - y1.2.1) - (0 : Int)) % (18446744073709551616 : Int)), (y1.2.2.2.2.1, Unit.unit))))) (fun y3 => (some (y3.1, (y3.2.1, (y3.2.2.1, Unit.unit))))))
   else none)
   else (if (((0 : Int) ≤ y1.2.1) ∧ (((0 : Int) ≤ y1.2.2.2.1) ∧ (((0 : Int) ≤ (0 : Int)) ∧ (((0 : Int) ≤ (1 : Int)) ∧ ((y1.2.2.2.1 + (0 : Int)) ≤ (y1.2.1 + (18446744073709551616 : Int))))))) then (Option.bind (Go.Ev.Matrix.f28 ((decide (x.1 < (0 : Int))), ((Go.IntKind.wrap Go.IntKind.u64 ((Go.IntKind.wrap Go.IntKind.u64 (y1.1 - y1.2.2.1)) - (((Go.Ev.nat01 (decide (y1.2.1 < (y1.2.2.2.1 + (0 : Int))))) : Nat) : Int))), (((((y1.2.1 + (18446744073709551616 : Int)) - y1.2.2.2.1) - (0 : Int)) % (18446744073709551616 : Int)), (y1.2.2.2.2.1, Unit.unit))))) (fun y3 => (some (y3.1, (y3.2.1, (y3.2.2.1, Unit.unit))))))
   else none))))))))
theorem f20_eq (x : gi20.D) : f20 x = evF P (T29.orc _) Go.Proofs.Try.f20.ntmps fx20 c20 (planAt 64 []) gi20 x (fnKR P Go.Proofs.Try.f20 fx20 [go20]) := by kernel_rfl
theorem f20_ok : EntOk P 20 ⟨gi20, [go20], f20⟩ :=
  ent_okR (fn := Go.Proofs.Try.f20) (gi := gi20) (gos := [go20]) (f := f20) (c := c20) (fx := fx20) ⟨Go.Proofs.Try.func20, by kernel_rfl, rfl, by decide +kernel, rfl, rfl⟩ (Table.ok T29_ok _) hmix (planAt_ok (P := P) (n := Go.Proofs.Try.f20.ntmps) (fx := fx20) (c := c20) (d := 64) (l := []) trivial) f20_eq
noncomputable def T20 : Table := T29.add 20 [⟨gi20, [go20], f20⟩] []
theorem T20_ok : TableOk P T20 := Table.plus T29_ok (es := [⟨gi20, [go20], f20⟩]) ⟨f20_ok, trivial⟩ []

/-! ## 32: erasure/matrix.reckoner$2 -/
noncomputable def c32 : Code := Func.code Go.Proofs.Try.f32
abbrev gi32 : Sg := ⟨[0, 1, 2, 3, 4, 5], [.agg [.lf (.int .i64), .lf (.int .i64)], .agg [.lf (.int .i64), .lf (.int .i64)], .agg [.lf (.int .i64), .lf (.int .i64)], .agg [.lf (.int .i64), .lf (.int .i64)], .agg [.lf (.int .i64), .lf (.int .i64)], .lf (.ptr 0 0)], [some (.box true [.lf (.fnc 31 [(.ptr 1 0)])]), some (.box true [.lf (.int .i64)])]⟩
abbrev go32 : Sg := ⟨[0], [.agg [.lf (.int .i64), .lf (.int .i64)]], [some (.box true [.lf (.fnc 31 [(.ptr 1 0)])]), some (.box true [.lf (.int .i64)])]⟩
def fx32 : List Bool := [true, true]
noncomputable def f32 (x : gi32.D) : Option go32.D :=
  (Option.bind (Go.Ev.Matrix.f33 (x.1, (x.2.1, (x.2.2.1, (x.2.2.2.1, Unit.unit))))) (fun y1 => (Option.bind (Go.Ev.Matrix.f31 (y1.1, (y1.2.1, (y1.2.2.1, (x.2.2.2.2.2.2.2.2.2.2.1, Unit.unit))))) (fun y2 => (Option.bind (Go.Ev.Matrix.f33 (x.2.2.2.2.1, (x.2.2.2.2.2.1, (x.2.2.2.2.2.2.1, (x.2.2.2.2.2.2.2.1, Unit.unit))))) (fun y3 => (Option.bind (Go.Ev.Matrix.f31 (y3.1, (y3.2.1, (y3.2.2.1, (y2.2.2.1, Unit.unit))))) (fun y4 => (Option.bind (Go.Ev.Matrix.f20 (y2.1, (y2.2.1, (y4.1, (y4.2.1, Unit.unit))))) (fun y5 => (Option.bind (Go.Ev.Matrix.f31 (y5.1, (y5.2.1, (y5.2.2.1, (y4.2.2.1, Unit.unit))))) (fun y6 => (Option.bind (Go.Ev.Matrix.f20 (y6.1, (y6.2.1, (x.2.2.2.2.2.2.2.2.1, (x.2.2.2.2.2.2.2.2.2.1, Unit.unit))))) (fun y7 => (Option.bind (Go.Ev.Matrix.f31 (y7.1, (y7.2.1, (y7.2.2.1, (y6.2.2.1, Unit.unit))))) (fun y8 => (some (y8.1, (y8.2.1, (y8.2.2.1, Unit.unit))))))))))))))))))))
theorem f32_eq (x : gi32.D) : f32 x = evF P (T20.orc _) Go.Proofs.Try.f32.ntmps fx32 c32 (planAt 64 []) gi32 x (fnKR P Go.Proofs.Try.f32 fx32 [go32]) := by kernel_rfl
theorem f32_ok : EntOk P 32 ⟨gi32, [go32], f32⟩ :=
  ent_okR (fn := Go.Proofs.Try.f32) (gi := gi32) (gos := [go32]) (f := f32) (c := c32) (fx := fx32) ⟨Go.Proofs.Try.func32, by kernel_rfl, rfl, by decide +kernel, rfl, rfl⟩ (Table.ok T20_ok _) hmix (planAt_ok (P := P) (n := Go.Proofs.Try.f32.ntmps) (fx := fx32) (c := c32) (d := 64) (l := []) trivial) f32_eq
noncomputable def T32 : Table := T20.add 32 [⟨gi32, [go32], f32⟩] []
theorem T32_ok : TableOk P T32 := Table.plus T20_ok (es := [⟨gi32, [go32], f32⟩]) ⟨f32_ok, trivial⟩ []

/-! ## 34: erasure/matrix.reckoner$3 -/
noncomputable def c34 : Code := Func.code Go.Proofs.Try.f34
abbrev gi34 : Sg := ⟨[0], [.lf (.ptr 0 0)], [some (.box true [.lf (.int .i64)])]⟩
abbrev go34 : Sg := ⟨[1], [.lf (.int .i64)], [some (.box true [.lf (.int .i64)])]⟩
def fx34 : List Bool := [true]
noncomputable def f34 (x : gi34.D) : Option go34.D :=
  (some (x.1, (x.1, Unit.unit)))
theorem f34_eq (x : gi34.D) : f34 x = evF P (T32.orc _) Go.Proofs.Try.f34.ntmps fx34 c34 (planAt 64 []) gi34 x (fnK fx34 [go34]) := by kernel_rfl
theorem f34_ok : EntOk P 34 ⟨gi34, [go34], f34⟩ :=
  ent_ok (fn := Go.Proofs.Try.f34) (gi := gi34) (gos := [go34]) (f := f34) (c := c34) (fx := fx34) ⟨Go.Proofs.Try.func34, by kernel_rfl, rfl, by decide +kernel, rfl, rfl⟩ (by kernel_rfl) (Table.ok T32_ok _) hmix (planAt_ok (P := P) (n := Go.Proofs.Try.f34.ntmps) (fx := fx34) (c := c34) (d := 64) (l := []) trivial) f34_eq
noncomputable def T34 : Table := T32.add 34 [⟨gi34, [go34], f34⟩] []
theorem T34_ok : TableOk P T34 := Table.plus T32_ok (es := [⟨gi34, [go34], f34⟩]) ⟨f34_ok, trivial⟩ []

/-! ## 8: erasure/matrix.Map -/
noncomputable def c8 : Code := Func.code Go.Proofs.Try.f8
abbrev gi8 : Sg := ⟨[0, 1], [.agg [.lf (.int .i64), .lf (.int .i64), .lf (.int .i64), .lf (.int .i64), .lf (.int .i64), .lf (.int .i64), .lf (.int .i64), .lf (.int .i64), .lf (.int .i64), .lf (.int .i64), .lf (.int .i64), .lf (.int .i64)], .agg [.lf (.int .i64), .lf (.int .i64), .lf (.int .i64), .lf (.int .i64)]], []⟩
abbrev go8 : Sg := ⟨[0, 5], [.agg [.lf (.int .i64), .lf (.int .i64), .lf (.int .i64), .lf (.int .i64)], .lf (.int .i64)], []⟩
def fx8 : List Bool := []
noncomputable def f8 (x : gi8.D) : Option go8.D :=
  (Option.bind (Go.Ev.Matrix.f15 (x.1, (x.2.1, (x.2.2.1, (x.2.2.2.1, (x.2.2.2.2.1, (x.2.2.2.2.2.1, (x.2.2.2.2.2.2.1, (x.2.2.2.2.2.2.2.1, (x.2.2.2.2.2.2.2.2.1, (x.2.2.2.2.2.2.2.2.2.1, (x.2.2.2.2.2.2.2.2.2.2.1, (x.2.2.2.2.2.2.2.2.2.2.2.1, Unit.unit))))))))))))) (fun y1 => (if ((y1.1 != (0 : Int)) = true) then (some ((0 : Int), ((0 : Int), ((0 : Int), ((0 : Int), ((1 : Int), Unit.unit))))))
   else (Option.bind (Go.Ev.Matrix.f21 ((List.take (2 : Nat) (List.drop (0 : Nat) (List.set (List.set (List.replicate (2 : Nat) ((0 : Int), (0 : Int))) (0 : Nat) (x.2.2.2.2.2.2.2.2.2.2.2.2.1, x.2.2.2.2.2.2.2.2.2.2.2.2.2.1)) (1 : Nat) (x.2.2.2.2.2.2.2.2.2.2.2.2.2.2.1, x.2.2.2.2.2.2.2.2.2.2.2.2.2.2.2.1)))), Unit.unit)) (fun y2 => (if ((Bool.not y2.1) = true) then (some ((0 : Int), ((0 : Int), ((0 : Int), ((0 : Int), ((1 : Int), Unit.unit))))))
   else (Option.bind (Go.Ev.Matrix.f22 Unit.unit) (fun y3 => (Option.bind (Go.Ev.Matrix.f32 (x.1, (x.2.1, (x.2.2.2.2.2.2.2.2.2.2.2.2.1, (x.2.2.2.2.2.2.2.2.2.2.2.2.2.1, (x.2.2.2.2.1, (x.2.2.2.2.2.1, (x.2.2.2.2.2.2.2.2.2.2.2.2.2.2.1, (x.2.2.2.2.2.2.2.2.2.2.2.2.2.2.2.1, (x.2.2.2.2.2.2.2.2.1, (x.2.2.2.2.2.2.2.2.2.1, (y3.1, Unit.unit)))))))))))) (fun y4 => (Option.bind (Go.Ev.Matrix.f32 (x.2.2.1, (x.2.2.2.1, (x.2.2.2.2.2.2.2.2.2.2.2.2.1, (x.2.2.2.2.2.2.2.2.2.2.2.2.2.1, (x.2.2.2.2.2.2.1, (x.2.2.2.2.2.2.2.1, (x.2.2.2.2.2.2.2.2.2.2.2.2.2.2.1, (x.2.2.2.2.2.2.2.2.2.2.2.2.2.2.2.1, (x.2.2.2.2.2.2.2.2.2.2.1, (x.2.2.2.2.2.2.2.2.2.2.2.1, (y4.2.2.1, Unit.unit)))))))))))) (fun y5 => (Option.bind (Go.Ev.Matrix.f34 (y5.2.2.1, Unit.unit)) (fun y6 => (if ((y6.1 != (0 : Int)) = true) then (some ((0 : Int), ((0 : Int), ((0 : Int), ((0 : Int), (y6.1, Unit.unit))))))
   else (some (y4.1, (y4.2.1, (y5.1, (y5.2.1, ((0 : Int), Unit.unit)))))))))))))))))))))
theorem f8_eq (x : gi8.D) : f8 x = evF P (T34.orc _) Go.Proofs.Try.f8.ntmps fx8 c8 (planAt 64 []) gi8 x (fnKR P Go.Proofs.Try.f8 fx8 [go8]) := by kernel_rfl
theorem f8_ok : EntOk P 8 ⟨gi8, [go8], f8⟩ :=
  ent_okR (fn := Go.Proofs.Try.f8) (gi := gi8) (gos := [go8]) (f := f8) (c := c8) (fx := fx8) ⟨Go.Proofs.Try.func8, by kernel_rfl, rfl, by decide +kernel, rfl, rfl⟩ (Table.ok T34_ok _) hmix (planAt_ok (P := P) (n := Go.Proofs.Try.f8.ntmps) (fx := fx8) (c := c8) (d := 64) (l := []) trivial) f8_eq
noncomputable def T8 : Table := T34.add 8 [⟨gi8, [go8], f8⟩] []
theorem T8_ok : TableOk P T8 := Table.plus T34_ok (es := [⟨gi8, [go8], f8⟩]) ⟨f8_ok, trivial⟩ []

/-! ## 23: erasure/erasureref01.Right -/
noncomputable def c23 : Code := Func.code Go.Proofs.Try.f23
abbrev gi23 : Sg := ⟨[0], [.agg [.lf (.int .i64), .lf (.int .i64)]], []⟩
abbrev go23 : Sg := ⟨[2], [.lf .bool], []⟩
def fx23 : List Bool := []
noncomputable def f23 (x : gi23.D) : Option go23.D :=
  (if ((decide (x.1 ≥ (-999999999999999999 : Int))) = true) then (if ((decide (x.1 ≤ (999999999999999999 : Int))) = true) then (if ((decide (x.2.1 ≥ (0 : Int))) = true) then (if ((decide (x.2.1 ≤ (9 : Int))) = true) then (if ((x.2.1 == (0 : Int)) = true) then (some (true, Unit.unit))
   else (some (((Int.tmod x.1 (10 : Int)) != (0 : Int)), Unit.unit)))
   else (some (false, Unit.unit)))
   else (some (false, Unit.unit)))
   else (some (false, Unit.unit)))
   else (some (false, Unit.unit)))
theorem f23_eq (x : gi23.D) : f23 x = evF P (T8.orc _) Go.Proofs.Try.f23.ntmps fx23 c23 (planAt 64 []) gi23 x (fnK fx23 [go23]) := by kernel_rfl
theorem f23_ok : EntOk P 23 ⟨gi23, [go23], f23⟩ :=
  ent_ok (fn := Go.Proofs.Try.f23) (gi := gi23) (gos := [go23]) (f := f23) (c := c23) (fx := fx23) ⟨Go.Proofs.Try.func23, by kernel_rfl, rfl, by decide +kernel, rfl, rfl⟩ (by kernel_rfl) (Table.ok T8_ok _) hmix (planAt_ok (P := P) (n := Go.Proofs.Try.f23.ntmps) (fx := fx23) (c := c23) (d := 64) (l := []) trivial) f23_eq
noncomputable def T23 : Table := T8.add 23 [⟨gi23, [go23], f23⟩] []
theorem T23_ok : TableOk P T23 := Table.plus T8_ok (es := [⟨gi23, [go23], f23⟩]) ⟨f23_ok, trivial⟩ []

/-! ## 16: erasure/erasureref02.Right -/
noncomputable def c16 : Code := Func.code Go.Proofs.Try.f16
abbrev gi16 : Sg := ⟨[0], [.agg [.lf (.int .i64), .lf (.int .i64), .lf (.int .i64), .lf (.int .i64), .lf (.int .i64), .lf (.int .i64), .lf (.int .i64), .lf (.int .i64), .lf (.int .i64), .lf (.int .i64), .lf (.int .i64), .lf (.int .i64)]], []⟩
abbrev go16 : Sg := ⟨[2], [.lf .bool], []⟩
def fx16 : List Bool := []
noncomputable def f16 (x : gi16.D) : Option go16.D :=
  (Option.bind (Go.Ev.Matrix.f23 (x.1, (x.2.1, Unit.unit))) (fun y1 => (if (y1.1 = true) then (Option.bind (Go.Ev.Matrix.f23 (x.2.2.1, (x.2.2.2.1, Unit.unit))) (fun y2 => (if (y2.1 = true) then (Option.bind (Go.Ev.Matrix.f23 (x.2.2.2.2.1, (x.2.2.2.2.2.1, Unit.unit))) (fun y3 => (if (y3.1 = true) then (Option.bind (Go.Ev.Matrix.f23 (x.2.2.2.2.2.2.1, (x.2.2.2.2.2.2.2.1, Unit.unit))) (fun y4 => (if (y4.1 = true) then (Option.bind (Go.Ev.Matrix.f23 (x.2.2.2.2.2.2.2.2.1, (x.2.2.2.2.2.2.2.2.2.1, Unit.unit))) (fun y5 => (if (y5.1 = true) then (Option.bind (Go.Ev.Matrix.f23 (x.2.2.2.2.2.2.2.2.2.2.1, (x.2.2.2.2.2.2.2.2.2.2.2.1, Unit.unit))) (fun y6 => (some (y6.1, Unit.unit))))
   else (some (false, Unit.unit)))))
   else (some (false, Unit.unit)))))
   else (some (false, Unit.unit)))))
   else (some (false, Unit.unit)))))
   else (some (false, Unit.unit)))))
theorem f16_eq (x : gi16.D) : f16 x = evF P (T23.orc _) Go.Proofs.Try.f16.ntmps fx16 c16 (planAt 64 []) gi16 x (fnK fx16 [go16]) := by kernel_rfl
theorem f16_ok : EntOk P 16 ⟨gi16, [go16], f16⟩ :=
  ent_ok (fn := Go.Proofs.Try.f16) (gi := gi16) (gos := [go16]) (f := f16) (c := c16) (fx := fx16) ⟨Go.Proofs.Try.func16, by kernel_rfl, rfl, by decide +kernel, rfl, rfl⟩ (by kernel_rfl) (Table.ok T23_ok _) hmix (planAt_ok (P := P) (n := Go.Proofs.Try.f16.ntmps) (fx := fx16) (c := c16) (d := 64) (l := []) trivial) f16_eq
noncomputable def T16 : Table := T23.add 16 [⟨gi16, [go16], f16⟩] []
theorem T16_ok : TableOk P T16 := Table.plus T23_ok (es := [⟨gi16, [go16], f16⟩]) ⟨f16_ok, trivial⟩ []

/-! ## 43: erasure/erasureref01.of -/
noncomputable def c43 : Code := Func.code Go.Proofs.Try.f43
abbrev gi43 : Sg := ⟨[0], [.agg [.lf (.int .i64), .lf (.int .i64)]], []⟩
abbrev go43 : Sg := ⟨[0], [.agg [.lf .bool, .lf (.sl (.int .i64)), .lf (.int .i64)]], []⟩
def fx43 : List Bool := []
abbrev g43_1 : Sg := ⟨[2, 3, 4], [.lf (.ptr 0 0), .lf (.ptr 1 0), .lf (.int .i64)], [some (.box true [.lf .bool, .lf (.gr (.int .i64) 2), .lf (.int .i64)]), some (.box true [.lf .bool, .lf (.gr (.int .i64) 3), .lf (.int .i64)]), some (.arr true (.int .i64)), some (.arr true (.int .i64))]⟩
abbrev o43_1 : Outs := [(.exit 0, ⟨[2, 3], [.lf (.ptr 0 0), .lf (.ptr 1 0)], [some (.box true [.lf .bool, .lf (.gr (.int .i64) 2), .lf (.int .i64)]), some (.box true [.lf .bool, .lf (.gr (.int .i64) 3), .lf (.int .i64)]), some (.arr true (.int .i64)), some (.arr true (.int .i64))]⟩)]
noncomputable def b43_1 (x : g43_1.D) : Option (outD ((.normal, g43_1) :: o43_1)) :=
  (if ((decide (x.1 > (0 : Int))) = true) then (if (((List.length (List.take (List.length x.2.2.2.2.2.2.1) (List.drop (0 : Nat) x.2.2.2.2.2.2.1))) + (List.length (List.take (1 : Nat) (List.drop (0 : Nat) (List.set (List.replicate (1 : Nat) (0 : Int)) (0 : Nat) (Int.tmod x.1 (10 : Int))))))) ≤ (17592186044416 : Nat)) then (if ((List.length x.2.2.2.2.2.1) = (List.length x.2.2.2.2.2.1)) then (if ((List.length ((List.take (List.length x.2.2.2.2.2.2.1) (List.drop (0 : Nat) x.2.2.2.2.2.2.1)) ++ (List.take (1 : Nat) (List.drop (0 : Nat) (List.set (List.replicate (1 : Nat) (0 : Int)) (0 : Nat) (Int.tmod x.1 (10 : Int))))))) = (List.length ((List.take (List.length x.2.2.2.2.2.2.1) (List.drop (0 : Nat) x.2.2.2.2.2.2.1)) ++ (List.take (1 : Nat) (List.drop (0 : Nat) (List.set (List.replicate (1 : Nat) (0 : Int)) (0 : Nat) (Int.tmod x.1 (10 : Int)))))))) then (some (Sum.inl ((Go.IntKind.wrap Go.IntKind.i64 (Int.tdiv x.1 (10 : Int))), (x.2.1, (x.2.2.1, (x.2.2.2.1, (x.2.2.2.2.1, (x.2.2.2.2.2.1, (((List.take (List.length x.2.2.2.2.2.2.1) (List.drop (0 : Nat) x.2.2.2.2.2.2.1)) ++ (List.take (1 : Nat) (List.drop (0 : Nat) (List.set (List.replicate (1 : Nat) (0 : Int)) (0 : Nat) (Int.tmod x.1 (10 : Int)))))), Unit.unit)))))))))
   else none)
   else none)
   else none)
   else (if ((List.length x.2.2.2.2.2.1) = (List.length x.2.2.2.2.2.1)) then (if ((List.length x.2.2.2.2.2.2.1) = (List.length x.2.2.2.2.2.2.1)) then (some (Sum.inr (Sum.inl (x.2.1, (x.2.2.1, (x.2.2.2.1, (x.2.2.2.2.1, (x.2.2.2.2.2.1, (x.2.2.2.2.2.2.1, Unit.unit)))))))))
   else none)
   else none))
theorem b43_1_eq (x : g43_1.D) : b43_1 x = evF P (T16.orc _) Go.Proofs.Try.f43.ntmps fx43 (Code.at [true, true, true, true, false, false, false] c43) (planAt 64 []) g43_1 x (injK fx43 ((.normal, g43_1) :: o43_1) some) := by kernel_rfl
noncomputable def l43_1 : g43_1.D → Option (outD o43_1) := loopN g43_1 o43_1 b43_1 18446744073709551616
theorem at43_1 : Code.at [true, true, true, true, false, false] c43 = .loop (Code.at [true, true, true, true, false, false, false] c43) := by kernel_rfl
theorem s43_1_ok : SubOk P Go.Proofs.Try.f43.ntmps fx43 (Code.at [true, true, true, true, false, false] c43) ⟨g43_1, o43_1, l43_1⟩ := by
  rw [at43_1]
  exact loop_ok (sub_ok (g := g43_1) (outs := ((.normal, g43_1) :: o43_1)) (f := b43_1) (Table.ok T16_ok _) hmix (planAt_ok (P := P) (n := Go.Proofs.Try.f43.ntmps) (fx := fx43) (c := (Code.at [true, true, true, true, false, false, false] c43)) (d := 64) (l := []) trivial) b43_1_eq) rfl _
noncomputable def f43 (x : gi43.D) : Option go43.D :=
  (if ((decide (x.1 < (0 : Int))) = true) then (Option.bind (Go.Ev.Matrix.l43_1 ((Go.IntKind.wrap Go.IntKind.i64 ((0 : Int) - x.1)), (false, ((0 : Int), ((decide (x.1 < (0 : Int))), (x.2.1, ([], ([], Unit.unit)))))))) (Sum.elim (fun y1 => (some (y1.2.2.1, ((List.take (List.length y1.2.2.2.2.2.1) (List.drop (0 : Nat) y1.2.2.2.2.2.1)), (y1.2.2.2.1, Unit.unit))))) Empty.elim))
   else (Option.bind (Go.Ev.Matrix.l43_1 (x.1, (false, ((0 : Int), ((decide (x.1 < (0 : Int))), (x.2.1, ([], ([], Unit.unit)))))))) (Sum.elim (fun y1 => (some (y1.2.2.1, ((List.take (List.length y1.2.2.2.2.2.1) (List.drop (0 : Nat) y1.2.2.2.2.2.1)), (y1.2.2.2.1, Unit.unit))))) Empty.elim)))
theorem f43_eq (x : gi43.D) : f43 x = evF P (T16.orc _) Go.Proofs.Try.f43.ntmps fx43 c43 (planAt 64 [([true, true, true, true, false, false], ⟨g43_1, o43_1, l43_1⟩)]) gi43 x (fnKR P Go.Proofs.Try.f43 fx43 [go43]) := by kernel_rfl
theorem pf43 : AllSub P Go.Proofs.Try.f43.ntmps fx43 c43 [([true, true, true, true, false, false], ⟨g43_1, o43_1, l43_1⟩)] := And.intro s43_1_ok (trivial)
theorem qf43 : PlanOk P Go.Proofs.Try.f43.ntmps fx43 (planAt 64 [([true, true, true, true, false, false], ⟨g43_1, o43_1, l43_1⟩)]) c43 := planAt_ok pf43
theorem f43_ok : EntOk P 43 ⟨gi43, [go43], f43⟩ :=
  ent_okR (fn := Go.Proofs.Try.f43) (gi := gi43) (gos := [go43]) (f := f43) (c := c43) (fx := fx43) ⟨Go.Proofs.Try.func43, by kernel_rfl, rfl, by decide +kernel, rfl, rfl⟩ (Table.ok T16_ok _) hmix (qf43) f43_eq
noncomputable def T43 : Table := T16.add 43 [⟨gi43, [go43], f43⟩] []
theorem T43_ok : TableOk P T43 := Table.plus T16_ok (es := [⟨gi43, [go43], f43⟩]) ⟨f43_ok, trivial⟩ []

/-! ## 48: erasure/erasureref01.digit -/
noncomputable def c48 : Code := Func.code Go.Proofs.Try.f48
abbrev gi48 : Sg := ⟨[0, 1], [.lf (.sl (.int .i64)), .lf (.int .i64)], []⟩
abbrev go48 : Sg := ⟨[4], [.lf (.int .i64)], []⟩
def fx48 : List Bool := []
noncomputable def f48 (x : gi48.D) : Option go48.D :=
  (if ((decide (x.2.1 < (0 : Int))) = true) then (some ((0 : Int), Unit.unit))
   else (if ((decide (x.2.1 ≥ (((List.length x.1) : Nat) : Int))) = true) then (some ((0 : Int), Unit.unit))
   else (if ((0 : Int) ≤ x.2.1) then (if (x.2.1 < (((List.length x.1) : Nat) : Int)) then (some ((List.getD x.1 (Int.toNat x.2.1) (0 : Int)), Unit.unit))
   else none)
   else none)))
theorem f48_eq (x : gi48.D) : f48 x = evF P (T43.orc _) Go.Proofs.Try.f48.ntmps fx48 c48 (planAt 64 []) gi48 x (fnK fx48 [go48]) := by kernel_rfl
theorem f48_ok : EntOk P 48 ⟨gi48, [go48], f48⟩ :=
  ent_ok (fn := Go.Proofs.Try.f48) (gi := gi48) (gos := [go48]) (f := f48) (c := c48) (fx := fx48) ⟨Go.Proofs.Try.func48, by kernel_rfl, rfl, by decide +kernel, rfl, rfl⟩ (by kernel_rfl) (Table.ok T43_ok _) hmix (planAt_ok (P := P) (n := Go.Proofs.Try.f48.ntmps) (fx := fx48) (c := c48) (d := 64) (l := []) trivial) f48_eq
noncomputable def T48 : Table := T43.add 48 [⟨gi48, [go48], f48⟩] []
theorem T48_ok : TableOk P T48 := Table.plus T43_ok (es := [⟨gi48, [go48], f48⟩]) ⟨f48_ok, trivial⟩ []

/-! ## 44: erasure/erasureref01.told -/
noncomputable def c44 : Code := Func.code Go.Proofs.Try.f44
abbrev gi44 : Sg := ⟨[0], [.agg [.lf .bool, .lf (.sl (.int .i64)), .lf (.int .i64)]], []⟩
abbrev go44 : Sg := ⟨[0, 3], [.agg [.lf (.int .i64), .lf (.int .i64)], .lf (.int .i64)], []⟩
def fx44 : List Bool := []
abbrev g44_3 : Sg := ⟨[1, 2, 4, 5, 6, 7], [.lf (.ptr 0 0), .lf (.ptr 1 0), .lf (.vw (.int .i64) 2), .lf (.int .i64), .lf (.int .i64), .lf (.int .i64)], [some (.box true [.lf .bool, .lf (.sl (.int .i64)), .lf (.int .i64)]), some (.box true [.lf (.int .i64), .lf (.int .i64)]), some (.arr true (.int .i64))]⟩
abbrev o44_3 : Outs := [(.exit 4, ⟨[1, 2, 5, 6], [.lf (.ptr 0 0), .lf (.ptr 1 0), .lf (.int .i64), .lf (.int .i64)], [some (.box true [.lf .bool, .lf (.sl (.int .i64)), .lf (.int .i64)]), some (.box true [.lf (.int .i64), .lf (.int .i64)])]⟩)]
noncomputable def b44_3 (x : g44_3.D) : Option (outD ((.normal, g44_3) :: o44_3)) :=
  (if ((decide (x.2.2.2.2.1 ≥ (0 : Int))) = true) then (if ((0 : Int) ≤ x.2.2.2.2.1) then (if (x.2.2.2.2.1 < ((x.2.1 : Nat) : Int)) then (some (Sum.inl (x.1, (x.2.1, (x.2.2.1, ((Go.IntKind.wrap Go.IntKind.i64 ((Go.IntKind.wrap Go.IntKind.i64 ((10 : Int) * x.2.2.2.1)) + (List.getD x.2.2.2.2.2.2.2.2.2.2.1 (x.1 + (Int.toNat x.2.2.2.2.1)) (0 : Int)))), ((Go.IntKind.wrap Go.IntKind.i64 (x.2.2.2.2.1 - (1 : Int))), (x.2.2.2.2.2.1, (x.2.2.2.2.2.2.1, (x.2.2.2.2.2.2.2.1, (x.2.2.2.2.2.2.2.2.1, (x.2.2.2.2.2.2.2.2.2.1, (x.2.2.2.2.2.2.2.2.2.2.1, Unit.unit)))))))))))))
   else none)
   else none)
   else (some (Sum.inr (Sum.inl (x.2.2.1, (x.2.2.2.1, (x.2.2.2.2.2.1, (x.2.2.2.2.2.2.1, (x.2.2.2.2.2.2.2.1, (x.2.2.2.2.2.2.2.2.1, (x.2.2.2.2.2.2.2.2.2.1, Unit.unit)))))))))))
theorem b44_3_eq (x : g44_3.D) : b44_3 x = evF P (T48.orc _) Go.Proofs.Try.f44.ntmps fx44 (Code.at [true, true, true, true, true, true, true, true, false, true, false, false] c44) (planAt 64 []) g44_3 x (injK fx44 ((.normal, g44_3) :: o44_3) some) := by kernel_rfl
noncomputable def l44_3 : g44_3.D → Option (outD o44_3) := loopN g44_3 o44_3 b44_3 18446744073709551616
theorem at44_3 : Code.at [true, true, true, true, true, true, true, true, false, true, false] c44 = .loop (Code.at [true, true, true, true, true, true, true, true, false, true, false, false] c44) := by kernel_rfl
theorem s44_3_ok : SubOk P Go.Proofs.Try.f44.ntmps fx44 (Code.at [true, true, true, true, true, true, true, true, false, true, false] c44) ⟨g44_3, o44_3, l44_3⟩ := by
  rw [at44_3]
  exact loop_ok (sub_ok (g := g44_3) (outs := ((.normal, g44_3) :: o44_3)) (f := b44_3) (Table.ok T48_ok _) hmix (planAt_ok (P := P) (n := Go.Proofs.Try.f44.ntmps) (fx := fx44) (c := (Code.at [true, true, true, true, true, true, true, true, false, true, false, false] c44)) (d := 64) (l := []) trivial) b44_3_eq) rfl _
abbrev g44_2 : Sg := ⟨[1, 2, 4, 5], [.lf (.ptr 0 0), .lf (.ptr 1 0), .lf (.vw (.int .i64) 2), .lf (.int .i64)], [some (.box true [.lf .bool, .lf (.sl (.int .i64)), .lf (.int .i64)]), some (.box true [.lf (.int .i64), .lf (.int .i64)]), some (.arr true (.int .i64))]⟩
abbrev o44_2 : Outs := [(.exit 2, ⟨[1, 2, 4, 5], [.lf (.ptr 0 0), .lf (.ptr 1 0), .lf (.vw (.int .i64) 2), .lf (.int .i64)], [some (.box true [.lf .bool, .lf (.sl (.int .i64)), .lf (.int .i64)]), some (.box true [.lf (.int .i64), .lf (.int .i64)]), some (.arr true (.int .i64))]⟩)]
noncomputable def b44_2 (x : g44_2.D) : Option (outD ((.normal, g44_2) :: o44_2)) :=
  (if ((decide (((x.2.1 : Nat) : Int) > (0 : Int))) = true) then (if ((0 : Int) ≤ (Go.IntKind.wrap Go.IntKind.i64 (((x.2.1 : Nat) : Int) - (1 : Int)))) then (if ((Go.IntKind.wrap Go.IntKind.i64 (((x.2.1 : Nat) : Int) - (1 : Int))) < ((x.2.1 : Nat) : Int)) then (if (((List.getD x.2.2.2.2.2.2.2.2.1 (x.1 + (Int.toNat (Go.IntKind.wrap Go.IntKind.i64 (((x.2.1 : Nat) : Int) - (1 : Int))))) (0 : Int)) == (0 : Int)) = true) then (if ((0 : Int) ≤ (Go.IntKind.wrap Go.IntKind.i64 (((x.2.1 : Nat) : Int) - (1 : Int)))) then (if ((Go.IntKind.wrap Go.IntKind.i64 (((x.2.1 : Nat) : Int) - (1 : Int))) ≤ ((x.2.1 : Nat) : Int)) then (some (Sum.inl ((x.1 + (0 : Nat)), (((Int.toNat (Go.IntKind.wrap Go.IntKind.i64 (((x.2.1 : Nat) : Int) - (1 : Int)))) - (0 : Nat)), (x.2.2.1, (x.2.2.2.1, (x.2.2.2.2.1, (x.2.2.2.2.2.1, (x.2.2.2.2.2.2.1, (x.2.2.2.2.2.2.2.1, (x.2.2.2.2.2.2.2.2.1, Unit.unit)))))))))))
   else none)
   else none)
   else (some (Sum.inr (Sum.inl (x.1, (x.2.1, (x.2.2.1, (x.2.2.2.1, (x.2.2.2.2.1, (x.2.2.2.2.2.1, (x.2.2.2.2.2.2.1, (x.2.2.2.2.2.2.2.1, (x.2.2.2.2.2.2.2.2.1, Unit.unit)))))))))))))
   else none)
   else none)
   else (some (Sum.inr (Sum.inl (x.1, (x.2.1, (x.2.2.1, (x.2.2.2.1, (x.2.2.2.2.1, (x.2.2.2.2.2.1, (x.2.2.2.2.2.2.1, (x.2.2.2.2.2.2.2.1, (x.2.2.2.2.2.2.2.2.1, Unit.unit)))))))))))))
theorem b44_2_eq (x : g44_2.D) : b44_2 x = evF P (T48.orc _) Go.Proofs.Try.f44.ntmps fx44 (Code.at [true, true, true, true, true, false, false, false] c44) (planAt 64 []) g44_2 x (injK fx44 ((.normal, g44_2) :: o44_2) some) := by kernel_rfl
noncomputable def l44_2 : g44_2.D → Option (outD o44_2) := loopN g44_2 o44_2 b44_2 18446744073709551616
theorem at44_2 : Code.at [true, true, true, true, true, false, false] c44 = .loop (Code.at [true, true, true, true, true, false, false, false] c44) := by kernel_rfl
theorem s44_2_ok : SubOk P Go.Proofs.Try.f44.ntmps fx44 (Code.at [true, true, true, true, true, false, false] c44) ⟨g44_2, o44_2, l44_2⟩ := by
  rw [at44_2]
  exact loop_ok (sub_ok (g := g44_2) (outs := ((.normal, g44_2) :: o44_2)) (f := b44_2) (Table.ok T48_ok _) hmix (planAt_ok (P := P) (n := Go.Proofs.Try.f44.ntmps) (fx := fx44) (c := (Code.at [true, true, true, true, true, false, false, false] c44)) (d := 64) (l := []) trivial) b44_2_eq) rfl _
abbrev g44_1 : Sg := ⟨[1, 2, 4, 5], [.lf (.ptr 0 0), .lf (.ptr 1 0), .lf (.vw (.int .i64) 2), .lf (.int .i64)], [some (.box true [.lf .bool, .lf (.sl (.int .i64)), .lf (.int .i64)]), some (.box true [.lf (.int .i64), .lf (.int .i64)]), some (.arr true (.int .i64))]⟩
abbrev o44_1 : Outs := [(.exit 0, ⟨[1, 2, 4, 5], [.lf (.ptr 0 0), .lf (.ptr 1 0), .lf (.vw (.int .i64) 2), .lf (.int .i64)], [some (.box true [.lf .bool, .lf (.sl (.int .i64)), .lf (.int .i64)]), some (.box true [.lf (.int .i64), .lf (.int .i64)]), some (.arr true (.int .i64))]⟩)]
noncomputable def b44_1 (x : g44_1.D) : Option (outD ((.normal, g44_1) :: o44_1)) :=
  (if ((decide (x.2.2.1 > (0 : Int))) = true) then (Option.bind (Go.Ev.Matrix.f48 ((List.take x.2.1 (List.drop x.1 x.2.2.2.2.2.2.2.2.1)), ((0 : Int), Unit.unit))) (fun y1 => (if ((y1.1 == (0 : Int)) = true) then (if ((decide (((x.2.1 : Nat) : Int) > (0 : Int))) = true) then (if ((1 : Int) ≤ ((x.2.1 : Nat) : Int)) then (some (Sum.inl ((x.1 + (1 : Nat)), ((x.2.1 - (1 : Nat)), ((Go.IntKind.wrap Go.IntKind.i64 (x.2.2.1 - (1 : Int))), (x.2.2.2.1, (x.2.2.2.2.1, (x.2.2.2.2.2.1, (x.2.2.2.2.2.2.1, (x.2.2.2.2.2.2.2.1, (x.2.2.2.2.2.2.2.2.1, Unit.unit)))))))))))
   else none)
   else (some (Sum.inl (x.1, (x.2.1, ((Go.IntKind.wrap Go.IntKind.i64 (x.2.2.1 - (1 : Int))), (x.2.2.2.1, (x.2.2.2.2.1, (x.2.2.2.2.2.1, (x.2.2.2.2.2.2.1, (x.2.2.2.2.2.2.2.1, (x.2.2.2.2.2.2.2.2.1, Unit.unit))))))))))))
   else (some (Sum.inr (Sum.inl (x.1, (x.2.1, (x.2.2.1, (x.2.2.2.1, (x.2.2.2.2.1, (x.2.2.2.2.2.1, (x.2.2.2.2.2.2.1, (x.2.2.2.2.2.2.2.1, (x.2.2.2.2.2.2.2.2.1, Unit.unit)))))))))))))))
   else (some (Sum.inr (Sum.inl (x.1, (x.2.1, (x.2.2.1, (x.2.2.2.1, (x.2.2.2.2.1, (x.2.2.2.2.2.1, (x.2.2.2.2.2.2.1, (x.2.2.2.2.2.2.2.1, (x.2.2.2.2.2.2.2.2.1, Unit.unit)))))))))))))
theorem b44_1_eq (x : g44_1.D) : b44_1 x = evF P (T48.orc _) Go.Proofs.Try.f44.ntmps fx44 (Code.at [true, true, true, true, false, false, false] c44) (planAt 64 []) g44_1 x (injK fx44 ((.normal, g44_1) :: o44_1) some) := by kernel_rfl
noncomputable def l44_1 : g44_1.D → Option (outD o44_1) := loopN g44_1 o44_1 b44_1 18446744073709551616
theorem at44_1 : Code.at [true, true, true, true, false, false] c44 = .loop (Code.at [true, true, true, true, false, false, false] c44) := by kernel_rfl
theorem s44_1_ok : SubOk P Go.Proofs.Try.f44.ntmps fx44 (Code.at [true, true, true, true, false, false] c44) ⟨g44_1, o44_1, l44_1⟩ := by
  rw [at44_1]
  exact loop_ok (sub_ok (g := g44_1) (outs := ((.normal, g44_1) :: o44_1)) (f := b44_1) (Table.ok T48_ok _) hmix (planAt_ok (P := P) (n := Go.Proofs.Try.f44.ntmps) (fx := fx44) (c := (Code.at [true, true, true, true, false, false, false] c44)) (d := 64) (l := []) trivial) b44_1_eq) rfl _
noncomputable def f44 (x : gi44.D) : Option go44.D :=
  (if (((0 : Nat) + (List.length x.2.1)) ≤ (17592186044416 : Nat)) then (if (((0 : Nat) < ((0 : Nat) + (List.length x.2.1))) ∨ (((0 : Nat) = (0 : Nat)) ∧ ((0 : Nat) = (0 : Nat)))) then (Option.bind (Go.Ev.Matrix.l44_1 ((0 : Nat), ((List.length ([] ++ x.2.1)), (x.2.2.1, (x.1, (x.2.1, (x.2.2.1, ((0 : Int), ((0 : Int), (([] ++ x.2.1), Unit.unit)))))))))) (Sum.elim (fun y1 => (Option.bind (Go.Ev.Matrix.l44_2 (y1.1, (y1.2.1, (y1.2.2.1, (y1.2.2.2.1, (y1.2.2.2.2.1, (y1.2.2.2.2.2.1, (y1.2.2.2.2.2.2.1, (y1.2.2.2.2.2.2.2.1, (y1.2.2.2.2.2.2.2.2.1, Unit.unit)))))))))) (Sum.elim (fun y2 => (if ((decide (((y2.2.1 : Nat) : Int) > (18 : Int))) = true) then (some ((0 : Int), ((0 : Int), ((5 : Int), Unit.unit))))
   else (if ((decide (y2.2.2.1 > (9 : Int))) = true) then (some ((0 : Int), ((0 : Int), ((5 : Int), Unit.unit))))
   else (Option.bind (Go.Ev.Matrix.l44_3 (y2.1, (y2.2.1, (y2.2.2.1, ((0 : Int), ((Go.IntKind.wrap Go.IntKind.i64 (((y2.2.1 : Nat) : Int) - (1 : Int))), (y2.2.2.2.1, (y2.2.2.2.2.1, (y2.2.2.2.2.2.1, (y2.2.2.2.2.2.2.1, (y2.2.2.2.2.2.2.2.1, (y2.2.2.2.2.2.2.2.2.1, Unit.unit)))))))))))) (Sum.elim (fun y3 => (if (y3.2.2.1 = true) then (some ((Go.IntKind.wrap Go.IntKind.i64 ((0 : Int) - y3.2.1)), (y3.1, ((0 : Int), Unit.unit))))
   else (some (y3.2.1, (y3.1, ((0 : Int), Unit.unit)))))) Empty.elim))))) Empty.elim))) Empty.elim))
   else none)
   else none)
theorem f44_eq (x : gi44.D) : f44 x = evF P (T48.orc _) Go.Proofs.Try.f44.ntmps fx44 c44 (planAt 64 [([true, true, true, true, false, false], ⟨g44_1, o44_1, l44_1⟩), ([true, true, true, true, true, false, false], ⟨g44_2, o44_2, l44_2⟩), ([true, true, true, true, true, true, true, true, false, true, false], ⟨g44_3, o44_3, l44_3⟩)]) gi44 x (fnKR P Go.Proofs.Try.f44 fx44 [go44]) := by kernel_rfl
theorem pf44 : AllSub P Go.Proofs.Try.f44.ntmps fx44 c44 [([true, true, true, true, false, false], ⟨g44_1, o44_1, l44_1⟩), ([true, true, true, true, true, false, false], ⟨g44_2, o44_2, l44_2⟩), ([true, true, true, true, true, true, true, true, false, true, false], ⟨g44_3, o44_3, l44_3⟩)] := And.intro s44_1_ok (And.intro s44_2_ok (And.intro s44_3_ok (trivial)))
theorem qf44 : PlanOk P Go.Proofs.Try.f44.ntmps fx44 (planAt 64 [([true, true, true, true, false, false], ⟨g44_1, o44_1, l44_1⟩), ([true, true, true, true, true, false, false], ⟨g44_2, o44_2, l44_2⟩), ([true, true, true, true, true, true, true, true, false, true, false], ⟨g44_3, o44_3, l44_3⟩)]) c44 := planAt_ok pf44
theorem f44_ok : EntOk P 44 ⟨gi44, [go44], f44⟩ :=
  ent_okR (fn := Go.Proofs.Try.f44) (gi := gi44) (gos := [go44]) (f := f44) (c := c44) (fx := fx44) ⟨Go.Proofs.Try.func44, by kernel_rfl, rfl, by decide +kernel, rfl, rfl⟩ (Table.ok T48_ok _) hmix (qf44) f44_eq
noncomputable def T44 : Table := T48.add 44 [⟨gi44, [go44], f44⟩] []
theorem T44_ok : TableOk P T44 := Table.plus T48_ok (es := [⟨gi44, [go44], f44⟩]) ⟨f44_ok, trivial⟩ []

/-! ## 35: erasure/erasureref01.Mul -/
noncomputable def c35 : Code := Func.code Go.Proofs.Try.f35
abbrev gi35 : Sg := ⟨[0, 1], [.agg [.lf (.int .i64), .lf (.int .i64)], .agg [.lf (.int .i64), .lf (.int .i64)]], []⟩
abbrev go35 : Sg := ⟨[0, 5], [.agg [.lf (.int .i64), .lf (.int .i64)], .lf (.int .i64)], []⟩
def fx35 : List Bool := []
abbrev g35_3 : Sg := ⟨[4, 6, 7, 8, 9, 10, 11], [.lf (.ptr 0 0), .lf (.ptr 1 0), .lf (.ptr 2 0), .lf (.ptr 3 0), .lf (.gr (.int .i64) 4), .lf (.int .i64), .lf (.int .i64)], [some (.box true [.lf (.int .i64), .lf (.int .i64)]), some (.box true [.lf .bool, .lf (.sl (.int .i64)), .lf (.int .i64)]), some (.box true [.lf .bool, .lf (.sl (.int .i64)), .lf (.int .i64)]), some (.box true [.lf .bool, .lf (.gr (.int .i64) 5), .lf (.int .i64)]), some (.arr true (.int .i64)), some (.arr true (.int .i64))]⟩
abbrev o35_3 : Outs := [(.exit 2, ⟨[4, 6, 7, 8, 9, 10], [.lf (.ptr 0 0), .lf (.ptr 1 0), .lf (.ptr 2 0), .lf (.ptr 3 0), .lf (.gr (.int .i64) 4), .lf (.int .i64)], [some (.box true [.lf (.int .i64), .lf (.int .i64)]), some (.box true [.lf .bool, .lf (.sl (.int .i64)), .lf (.int .i64)]), some (.box true [.lf .bool, .lf (.sl (.int .i64)), .lf (.int .i64)]), some (.box true [.lf .bool, .lf (.gr (.int .i64) 5), .lf (.int .i64)]), some (.arr true (.int .i64)), some (.arr true (.int .i64))]⟩)]
noncomputable def b35_3 (x : g35_3.D) : Option (outD ((.normal, g35_3) :: o35_3)) :=
  (if ((decide (x.2.1 < (((List.length x.2.2.2.2.2.2.2.2.1) : Nat) : Int))) = true) then (if ((0 : Int) ≤ (Go.IntKind.wrap Go.IntKind.i64 (x.1 + x.2.1))) then (if ((Go.IntKind.wrap Go.IntKind.i64 (x.1 + x.2.1)) < (((List.length x.2.2.2.2.2.2.2.2.2.2.2.2.1) : Nat) : Int)) then (if ((0 : Int) ≤ x.1) then (if (x.1 < (((List.length x.2.2.2.2.2.1) : Nat) : Int)) then (if ((0 : Int) ≤ x.2.1) then (if (x.2.1 < (((List.length x.2.2.2.2.2.2.2.2.1) : Nat) : Int)) then (if ((0 : Int) ≤ (Go.IntKind.wrap Go.IntKind.i64 (x.1 + x.2.1))) then (if ((Go.IntKind.wrap Go.IntKind.i64 (x.1 + x.2.1)) < (((List.length x.2.2.2.2.2.2.2.2.2.2.2.2.1) : Nat) : Int)) then (if ((List.length x.2.2.2.2.2.2.2.2.2.2.2.2.1) = (List.length (List.set x.2.2.2.2.2.2.2.2.2.2.2.2.1 ((0 : Nat) + (Int.toNat (Go.IntKind.wrap Go.IntKind.i64 (x.1 + x.2.1)))) (Go.IntKind.wrap Go.IntKind.i64 ((List.getD x.2.2.2.2.2.2.2.2.2.2.2.2.1 ((0 : Nat) + (Int.toNat (Go.IntKind.wrap Go.IntKind.i64 (x.1 + x.2.1)))) (0 : Int)) + (Go.IntKind.wrap Go.IntKind.i64 ((List.getD x.2.2.2.2.2.1 (Int.toNat x.1) (0 : Int)) * (List.getD x.2.2.2.2.2.2.2.2.1 (Int.toNat x.2.1) (0 : Int))))))))) then (if ((List.length x.2.2.2.2.2.2.2.2.2.2.2.2.2.1) = (List.length x.2.2.2.2.2.2.2.2.2.2.2.2.2.1)) then (some (Sum.inl (x.1, ((Go.IntKind.wrap Go.IntKind.i64 (x.2.1 + (1 : Int))), (x.2.2.1, (x.2.2.2.1, (x.2.2.2.2.1, (x.2.2.2.2.2.1, (x.2.2.2.2.2.2.1, (x.2.2.2.2.2.2.2.1, (x.2.2.2.2.2.2.2.2.1, (x.2.2.2.2.2.2.2.2.2.1, (x.2.2.2.2.2.2.2.2.2.2.1, (x.2.2.2.2.2.2.2.2.2.2.2.1, ((List.set x.2.2.2.2.2.2.2.2.2.2.2.2.1 ((0 : Nat) + (Int.toNat (Go.IntKind.wrap Go.IntKind.i64 (x.1 + x.2.1)))) (Go.IntKind.wrap Go.IntKind.i64 ((List.getD x.2.2.2.2.2.2.2.2.2.2.2.2.1 ((0 : Nat) + (Int.toNat (Go.IntKind.wrap Go.IntKind.i64 (x.1 + x.2.1)))) (0 : Int)) + (Go.IntKind.wrap Go.IntKind.i64 ((List.getD x.2.2.2.2.2.1 (Int.toNat x.1) (0 : Int)) * (List.getD x.2.2.2.2.2.2.2.2.1 (Int.toNat x.2.1) (0 : Int))))))), (x.2.2.2.2.2.2.2.2.2.2.2.2.2.1, Unit.unit))))))))))))))))
   else none)
   else none)
   else none)
   else none)
   else none)
   else none)
   else none)
   else none)
   else none)
   else none)
   else (if ((List.length x.2.2.2.2.2.2.2.2.2.2.2.2.1) = (List.length x.2.2.2.2.2.2.2.2.2.2.2.2.1)) then (if ((List.length x.2.2.2.2.2.2.2.2.2.2.2.2.2.1) = (List.length x.2.2.2.2.2.2.2.2.2.2.2.2.2.1)) then (some (Sum.inr (Sum.inl (x.1, (x.2.2.1, (x.2.2.2.1, (x.2.2.2.2.1, (x.2.2.2.2.2.1, (x.2.2.2.2.2.2.1, (x.2.2.2.2.2.2.2.1, (x.2.2.2.2.2.2.2.2.1, (x.2.2.2.2.2.2.2.2.2.1, (x.2.2.2.2.2.2.2.2.2.2.1, (x.2.2.2.2.2.2.2.2.2.2.2.1, (x.2.2.2.2.2.2.2.2.2.2.2.2.1, (x.2.2.2.2.2.2.2.2.2.2.2.2.2.1, Unit.unit))))))))))))))))
   else none)
   else none))
theorem b35_3_eq (x : g35_3.D) : b35_3 x = evF P (T44.orc _) Go.Proofs.Try.f35.ntmps fx35 (Code.at [true, true, true, true, true, true, false, true, false, false, true, false, false, true, false, false] c35) (planAt 64 []) g35_3 x (injK fx35 ((.normal, g35_3) :: o35_3) some) := by kernel_rfl
noncomputable def l35_3 : g35_3.D → Option (outD o35_3) := loopN g35_3 o35_3 b35_3 18446744073709551616
theorem at35_3 : Code.at [true, true, true, true, true, true, false, true, false, false, true, false, false, true, false] c35 = .loop (Code.at [true, true, true, true, true, true, false, true, false, false, true, false, false, true, false, false] c35) := by kernel_rfl
theorem s35_3_ok : SubOk P Go.Proofs.Try.f35.ntmps fx35 (Code.at [true, true, true, true, true, true, false, true, false, false, true, false, false, true, false] c35) ⟨g35_3, o35_3, l35_3⟩ := by
  rw [at35_3]
  exact loop_ok (sub_ok (g := g35_3) (outs := ((.normal, g35_3) :: o35_3)) (f := b35_3) (Table.ok T44_ok _) hmix (planAt_ok (P := P) (n := Go.Proofs.Try.f35.ntmps) (fx := fx35) (c := (Code.at [true, true, true, true, true, true, false, true, false, false, true, false, false, true, false, false] c35)) (d := 64) (l := []) trivial) b35_3_eq) rfl _
abbrev g35_2 : Sg := ⟨[4, 8, 9, 12], [.lf (.ptr 0 0), .lf (.ptr 1 0), .lf (.gr (.int .i64) 2), .lf (.int .i64)], [some (.box true [.lf (.int .i64), .lf (.int .i64)]), some (.box true [.lf .bool, .lf (.gr (.int .i64) 3), .lf (.int .i64)]), some (.arr true (.int .i64)), some (.arr true (.int .i64))]⟩
abbrev o35_2 : Outs := [(.exit 4, ⟨[4, 8, 9], [.lf (.ptr 0 0), .lf (.ptr 1 0), .lf (.gr (.int .i64) 2)], [some (.box true [.lf (.int .i64), .lf (.int .i64)]), some (.box true [.lf .bool, .lf (.gr (.int .i64) 3), .lf (.int .i64)]), some (.arr true (.int .i64)), some (.arr true (.int .i64))]⟩)]
noncomputable def b35_2 (x : g35_2.D) : Option (outD ((.normal, g35_2) :: o35_2)) :=
  (if ((decide ((Go.IntKind.wrap Go.IntKind.i64 (x.1 + (1 : Int))) < (((List.length x.2.2.2.2.2.1) : Nat) : Int))) = true) then (if ((0 : Int) ≤ (Go.IntKind.wrap Go.IntKind.i64 (x.1 + (1 : Int)))) then (if ((Go.IntKind.wrap Go.IntKind.i64 (x.1 + (1 : Int))) < (((List.length x.2.2.2.2.2.1) : Nat) : Int)) then (if ((0 : Int) ≤ x.1) then (if (x.1 < (((List.length x.2.2.2.2.2.1) : Nat) : Int)) then (if ((0 : Int) ≤ (Go.IntKind.wrap Go.IntKind.i64 (x.1 + (1 : Int)))) then (if ((Go.IntKind.wrap Go.IntKind.i64 (x.1 + (1 : Int))) < (((List.length x.2.2.2.2.2.1) : Nat) : Int)) then (if ((0 : Int) ≤ x.1) then (if (x.1 < (((List.length x.2.2.2.2.2.1) : Nat) : Int)) then (if ((0 : Int) ≤ x.1) then (if (x.1 < (((List.length x.2.2.2.2.2.1) : Nat) : Int)) then (if ((List.length x.2.2.2.2.2.1) = (List.length (List.set (List.set x.2.2.2.2.2.1 ((0 : Nat) + (Int.toNat (Go.IntKind.wrap Go.IntKind.i64 (x.1 + (1 : Int))))) (Go.IntKind.wrap Go.IntKind.i64 ((List.getD x.2.2.2.2.2.1 ((0 : Nat) + (Int.toNat (Go.IntKind.wrap Go.IntKind.i64 (x.1 + (1 : Int))))) (0 : Int)) + (Go.IntKind.wrap Go.IntKind.i64 (Int.tdiv (List.getD x.2.2.2.2.2.1 ((0 : Nat) + (Int.toNat x.1)) (0 : Int)) (10 : Int)))))) ((0 : Nat) + (Int.toNat x.1)) (Int.tmod (List.getD (List.set x.2.2.2.2.2.1 ((0 : Nat) + (Int.toNat (Go.IntKind.wrap Go.IntKind.i64 (x.1 + (1 : Int))))) (Go.IntKind.wrap Go.IntKind.i64 ((List.getD x.2.2.2.2.2.1 ((0 : Nat) + (Int.toNat (Go.IntKind.wrap Go.IntKind.i64 (x.1 + (1 : Int))))) (0 : Int)) + (Go.IntKind.wrap Go.IntKind.i64 (Int.tdiv (List.getD x.2.2.2.2.2.1 ((0 : Nat) + (Int.toNat x.1)) (0 : Int)) (10 : Int)))))) ((0 : Nat) + (Int.toNat x.1)) (0 : Int)) (10 : Int))))) then (if ((List.length x.2.2.2.2.2.2.1) = (List.length x.2.2.2.2.2.2.1)) then (some (Sum.inl ((Go.IntKind.wrap Go.IntKind.i64 (x.1 + (1 : Int))), (x.2.1, (x.2.2.1, (x.2.2.2.1, (x.2.2.2.2.1, ((List.set (List.set x.2.2.2.2.2.1 ((0 : Nat) + (Int.toNat (Go.IntKind.wrap Go.IntKind.i64 (x.1 + (1 : Int))))) (Go.IntKind.wrap Go.IntKind.i64 ((List.getD x.2.2.2.2.2.1 ((0 : Nat) + (Int.toNat (Go.IntKind.wrap Go.IntKind.i64 (x.1 + (1 : Int))))) (0 : Int)) + (Go.IntKind.wrap Go.IntKind.i64 (Int.tdiv (List.getD x.2.2.2.2.2.1 ((0 : Nat) + (Int.toNat x.1)) (0 : Int)) (10 : Int)))))) ((0 : Nat) + (Int.toNat x.1)) (Int.tmod (List.getD (List.set x.2.2.2.2.2.1 ((0 : Nat) + (Int.toNat (Go.IntKind.wrap Go.IntKind.i64 (x.1 + (1 : Int))))) (Go.IntKind.wrap Go.IntKind.i64 ((List.getD x.2.2.2.2.2.1 ((0 : Nat) + (Int.toNat (Go.IntKind.wrap Go.IntKind.i64 (x.1 + (1 : Int))))) (0 : Int)) + (Go.IntKind.wrap Go.IntKind.i64 (Int.tdiv (List.getD x.2.2.2.2.2.1 ((0 : Nat) + (Int.toNat x.1)) (0 : Int)) (10 : Int)))))) ((0 : Nat) + (Int.toNat x.1)) (0 : Int)) (10 : Int))), (x.2.2.2.2.2.2.1, Unit.unit)))))))))
   else none)
   else none)
   else none)
   else none)
   else none)
   else none)
   else none)
   else none)
   else none)
   else none)
   else none)
   else none)
   else (if ((List.length x.2.2.2.2.2.1) = (List.length x.2.2.2.2.2.1)) then (if ((List.length x.2.2.2.2.2.2.1) = (List.length x.2.2.2.2.2.2.1)) then (some (Sum.inr (Sum.inl (x.2.1, (x.2.2.1, (x.2.2.2.1, (x.2.2.2.2.1, (x.2.2.2.2.2.1, (x.2.2.2.2.2.2.1, Unit.unit)))))))))
   else none)
   else none))
theorem b35_2_eq (x : g35_2.D) : b35_2 x = evF P (T44.orc _) Go.Proofs.Try.f35.ntmps fx35 (Code.at [true, true, true, true, true, true, true, false, true, false, false] c35) (planAt 64 []) g35_2 x (injK fx35 ((.normal, g35_2) :: o35_2) some) := by kernel_rfl
noncomputable def l35_2 : g35_2.D → Option (outD o35_2) := loopN g35_2 o35_2 b35_2 18446744073709551616
theorem at35_2 : Code.at [true, true, true, true, true, true, true, false, true, false] c35 = .loop (Code.at [true, true, true, true, true, true, true, false, true, false, false] c35) := by kernel_rfl
theorem s35_2_ok : SubOk P Go.Proofs.Try.f35.ntmps fx35 (Code.at [true, true, true, true, true, true, true, false, true, false] c35) ⟨g35_2, o35_2, l35_2⟩ := by
  rw [at35_2]
  exact loop_ok (sub_ok (g := g35_2) (outs := ((.normal, g35_2) :: o35_2)) (f := b35_2) (Table.ok T44_ok _) hmix (planAt_ok (P := P) (n := Go.Proofs.Try.f35.ntmps) (fx := fx35) (c := (Code.at [true, true, true, true, true, true, true, false, true, false, false] c35)) (d := 64) (l := []) trivial) b35_2_eq) rfl _
abbrev g35_1 : Sg := ⟨[4, 6, 7, 8, 9, 10], [.lf (.ptr 0 0), .lf (.ptr 1 0), .lf (.ptr 2 0), .lf (.ptr 3 0), .lf (.gr (.int .i64) 4), .lf (.int .i64)], [some (.box true [.lf (.int .i64), .lf (.int .i64)]), some (.box true [.lf .bool, .lf (.sl (.int .i64)), .lf (.int .i64)]), some (.box true [.lf .bool, .lf (.sl (.int .i64)), .lf (.int .i64)]), some (.box true [.lf .bool, .lf (.gr (.int .i64) 5), .lf (.int .i64)]), some (.arr true (.int .i64)), some (.arr true (.int .i64))]⟩
abbrev o35_1 : Outs := [(.exit 0, ⟨[4, 8, 9], [.lf (.ptr 0 0), .lf (.ptr 1 0), .lf (.gr (.int .i64) 2)], [some (.box true [.lf (.int .i64), .lf (.int .i64)]), some (.box true [.lf .bool, .lf (.gr (.int .i64) 3), .lf (.int .i64)]), some (.arr true (.int .i64)), some (.arr true (.int .i64))]⟩)]
noncomputable def b35_1 (x : g35_1.D) : Option (outD ((.normal, g35_1) :: o35_1)) :=
  (if ((decide (x.1 < (((List.length x.2.2.2.2.1) : Nat) : Int))) = true) then (if ((List.length x.2.2.2.2.2.2.2.2.2.2.2.1) = (List.length x.2.2.2.2.2.2.2.2.2.2.2.1)) then (if ((List.length x.2.2.2.2.2.2.2.2.2.2.2.2.1) = (List.length x.2.2.2.2.2.2.2.2.2.2.2.2.1)) then (Option.bind (Go.Ev.Matrix.l35_3 (x.1, ((0 : Int), (x.2.1, (x.2.2.1, (x.2.2.2.1, (x.2.2.2.2.1, (x.2.2.2.2.2.1, (x.2.2.2.2.2.2.1, (x.2.2.2.2.2.2.2.1, (x.2.2.2.2.2.2.2.2.1, (x.2.2.2.2.2.2.2.2.2.1, (x.2.2.2.2.2.2.2.2.2.2.1, (x.2.2.2.2.2.2.2.2.2.2.2.1, (x.2.2.2.2.2.2.2.2.2.2.2.2.1, Unit.unit))))))))))))))) (Sum.elim (fun y1 => (if ((List.length y1.2.2.2.2.2.2.2.2.2.2.2.1) = (List.length y1.2.2.2.2.2.2.2.2.2.2.2.1)) then (if ((List.length y1.2.2.2.2.2.2.2.2.2.2.2.2.1) = (List.length y1.2.2.2.2.2.2.2.2.2.2.2.2.1)) then (some (Sum.inl ((Go.IntKind.wrap Go.IntKind.i64 (y1.1 + (1 : Int))), (y1.2.1, (y1.2.2.1, (y1.2.2.2.1, (y1.2.2.2.2.1, (y1.2.2.2.2.2.1, (y1.2.2.2.2.2.2.1, (y1.2.2.2.2.2.2.2.1, (y1.2.2.2.2.2.2.2.2.1, (y1.2.2.2.2.2.2.2.2.2.1, (y1.2.2.2.2.2.2.2.2.2.2.1, (y1.2.2.2.2.2.2.2.2.2.2.2.1, (y1.2.2.2.2.2.2.2.2.2.2.2.2.1, Unit.unit)))))))))))))))
   else none)
   else none)) Empty.elim))
   else none)
   else none)
   else (if ((List.length x.2.2.2.2.2.2.2.2.2.2.2.1) = (List.length x.2.2.2.2.2.2.2.2.2.2.2.1)) then (if ((List.length x.2.2.2.2.2.2.2.2.2.2.2.2.1) = (List.length x.2.2.2.2.2.2.2.2.2.2.2.2.1)) then (some (Sum.inr (Sum.inl (x.2.1, (x.2.2.1, (x.2.2.2.2.2.2.2.2.2.1, (x.2.2.2.2.2.2.2.2.2.2.1, (x.2.2.2.2.2.2.2.2.2.2.2.1, (x.2.2.2.2.2.2.2.2.2.2.2.2.1, Unit.unit)))))))))
   else none)
   else none))
theorem b35_1_eq (x : g35_1.D) : b35_1 x = evF P (T44.orc _) Go.Proofs.Try.f35.ntmps fx35 (Code.at [true, true, true, true, true, true, false, true, false, false] c35) (planAt 64 [([true, false, false, true, false], ⟨g35_3, o35_3, l35_3⟩)]) g35_1 x (injK fx35 ((.normal, g35_1) :: o35_1) some) := by kernel_rfl
noncomputable def l35_1 : g35_1.D → Option (outD o35_1) := loopN g35_1 o35_1 b35_1 18446744073709551616
theorem p35_1 : AllSub P Go.Proofs.Try.f35.ntmps fx35 (Code.at [true, true, true, true, true, true, false, true, false, false] c35) [([true, false, false, true, false], ⟨g35_3, o35_3, l35_3⟩)] := And.intro s35_3_ok (trivial)
theorem q35_1 : PlanOk P Go.Proofs.Try.f35.ntmps fx35 (planAt 64 [([true, false, false, true, false], ⟨g35_3, o35_3, l35_3⟩)]) (Code.at [true, true, true, true, true, true, false, true, false, false] c35) := planAt_ok p35_1
theorem at35_1 : Code.at [true, true, true, true, true, true, false, true, false] c35 = .loop (Code.at [true, true, true, true, true, true, false, true, false, false] c35) := by kernel_rfl
theorem s35_1_ok : SubOk P Go.Proofs.Try.f35.ntmps fx35 (Code.at [true, true, true, true, true, true, false, true, false] c35) ⟨g35_1, o35_1, l35_1⟩ := by
  rw [at35_1]
  exact loop_ok (sub_ok (g := g35_1) (outs := ((.normal, g35_1) :: o35_1)) (f := b35_1) (Table.ok T44_ok _) hmix (q35_1) b35_1_eq) rfl _
noncomputable def f35 (x : gi35.D) : Option go35.D :=
  (Option.bind (Go.Ev.Matrix.f23 (x.1, (x.2.1, Unit.unit))) (fun y1 => (if ((Bool.not y1.1) = true) then (some ((0 : Int), ((0 : Int), ((1 : Int), Unit.unit))))
   else (Option.bind (Go.Ev.Matrix.f23 (x.2.2.1, (x.2.2.2.1, Unit.unit))) (fun y2 => (if ((Bool.not y2.1) = true) then (some ((0 : Int), ((0 : Int), ((1 : Int), Unit.unit))))
   else (Option.bind (Go.Ev.Matrix.f43 (x.1, (x.2.1, Unit.unit))) (fun y3 => (Option.bind (Go.Ev.Matrix.f43 (x.2.2.1, (x.2.2.2.1, Unit.unit))) (fun y4 => (if ((0 : Int) ≤ (Go.IntKind.wrap Go.IntKind.i64 ((Go.IntKind.wrap Go.IntKind.i64 ((((List.length y3.2.1) : Nat) : Int) + (((List.length y4.2.1) : Nat) : Int))) + (1 : Int)))) then (if ((Go.IntKind.wrap Go.IntKind.i64 ((Go.IntKind.wrap Go.IntKind.i64 ((((List.length y3.2.1) : Nat) : Int) + (((List.length y4.2.1) : Nat) : Int))) + (1 : Int))) ≤ (Go.IntKind.wrap Go.IntKind.i64 ((Go.IntKind.wrap Go.IntKind.i64 ((((List.length y3.2.1) : Nat) : Int) + (((List.length y4.2.1) : Nat) : Int))) + (1 : Int)))) then (if ((Go.IntKind.wrap Go.IntKind.i64 ((Go.IntKind.wrap Go.IntKind.i64 ((((List.length y3.2.1) : Nat) : Int) + (((List.length y4.2.1) : Nat) : Int))) + (1 : Int))) ≤ (35184372088832 : Int)) then (if ((Int.toNat (Go.IntKind.wrap Go.IntKind.i64 ((Go.IntKind.wrap Go.IntKind.i64 ((((List.length y3.2.1) : Nat) : Int) + (((List.length y4.2.1) : Nat) : Int))) + (1 : Int)))) = (List.length (List.replicate (Int.toNat (Go.IntKind.wrap Go.IntKind.i64 ((Go.IntKind.wrap Go.IntKind.i64 ((((List.length y3.2.1) : Nat) : Int) + (((List.length y4.2.1) : Nat) : Int))) + (1 : Int)))) (0 : Int)))) then (Option.bind (Go.Ev.Matrix.l35_1 ((0 : Int), ((0 : Int), ((0 : Int), (y3.1, (y3.2.1, (y3.2.2.1, (y4.1, (y4.2.1, (y4.2.2.1, ((Bool.not (y3.1 == y4.1)), ((Go.IntKind.wrap Go.IntKind.i64 (y3.2.2.1 + y4.2.2.1)), ((List.replicate (Int.toNat (Go.IntKind.wrap Go.IntKind.i64 ((Go.IntKind.wrap Go.IntKind.i64 ((((List.length y3.2.1) : Nat) : Int) + (((List.length y4.2.1) : Nat) : Int))) + (1 : Int)))) (0 : Int)), ([], Unit.unit)))))))))))))) (Sum.elim (fun y5 => (if ((List.length y5.2.2.2.2.1) = (List.length y5.2.2.2.2.1)) then (if ((List.length y5.2.2.2.2.2.1) = (List.length y5.2.2.2.2.2.1)) then (Option.bind (Go.Ev.Matrix.l35_2 ((0 : Int), (y5.1, (y5.2.1, (y5.2.2.1, (y5.2.2.2.1, (y5.2.2.2.2.1, (y5.2.2.2.2.2.1, Unit.unit)))))))) (Sum.elim (fun y6 => (Option.bind (Go.Ev.Matrix.f44 (y6.2.2.1, ((List.take (List.length y6.2.2.2.2.1) (List.drop (0 : Nat) y6.2.2.2.2.1)), (y6.2.2.2.1, Unit.unit)))) (fun y7 => (some (y7.1, (y7.2.1, (y7.2.2.1, Unit.unit))))))) Empty.elim))
   else none)
   else none)) Empty.elim))
   else none)
   else none)
   else none)
   else none)))))))))))
theorem f35_eq (x : gi35.D) : f35 x = evF P (T44.orc _) Go.Proofs.Try.f35.ntmps fx35 c35 (planAt 64 [([true, true, true, true, true, true, false, true, false], ⟨g35_1, o35_1, l35_1⟩), ([true, true, true, true, true, true, true, false, true, false], ⟨g35_2, o35_2, l35_2⟩)]) gi35 x (fnKR P Go.Proofs.Try.f35 fx35 [go35]) := by kernel_rfl
theorem pf35 : AllSub P Go.Proofs.Try.f35.ntmps fx35 c35 [([true, true, true, true, true, true, false, true, false], ⟨g35_1, o35_1, l35_1⟩), ([true, true, true, true, true, true, true, false, true, false], ⟨g35_2, o35_2, l35_2⟩)] := And.intro s35_1_ok (And.intro s35_2_ok (trivial))
theorem qf35 : PlanOk P Go.Proofs.Try.f35.ntmps fx35 (planAt 64 [([true, true, true, true, true, true, false, true, false], ⟨g35_1, o35_1, l35_1⟩), ([true, true, true, true, true, true, true, false, true, false], ⟨g35_2, o35_2, l35_2⟩)]) c35 := planAt_ok pf35
theorem f35_ok : EntOk P 35 ⟨gi35, [go35], f35⟩ :=
  ent_okR (fn := Go.Proofs.Try.f35) (gi := gi35) (gos := [go35]) (f := f35) (c := c35) (fx := fx35) ⟨Go.Proofs.Try.func35, by kernel_rfl, rfl, by decide +kernel, rfl, rfl⟩ (Table.ok T44_ok _) hmix (qf35) f35_eq
noncomputable def T35 : Table := T44.add 35 [⟨gi35, [go35], f35⟩] []
theorem T35_ok : TableOk P T35 := Table.plus T44_ok (es := [⟨gi35, [go35], f35⟩]) ⟨f35_ok, trivial⟩ []

/-! ## 49: erasure/erasureref01.lift -/
noncomputable def c49 : Code := Func.code Go.Proofs.Try.f49
abbrev gi49 : Sg := ⟨[0, 1], [.agg [.lf .bool, .lf (.sl (.int .i64)), .lf (.int .i64)], .lf (.int .i64)], []⟩
abbrev go49 : Sg := ⟨[0], [.agg [.lf .bool, .lf (.sl (.int .i64)), .lf (.int .i64)]], []⟩
def fx49 : List Bool := []
abbrev g49_1 : Sg := ⟨[1, 2, 4, 5], [.lf (.int .i64), .lf (.ptr 0 0), .lf (.ptr 1 0), .lf (.ptr 2 0)], [some (.box true [.lf .bool, .lf (.sl (.int .i64)), .lf (.int .i64)]), some (.box true [.lf .bool, .lf (.gr (.int .i64) 3), .lf (.int .i64)]), some (.box true [.lf .bool, .lf (.gr (.int .i64) 4), .lf (.int .i64)]), some (.arr true (.int .i64)), some (.arr true (.int .i64))]⟩
abbrev o49_1 : Outs := [(.exit 0, ⟨[2, 4, 5], [.lf (.ptr 0 0), .lf (.ptr 1 0), .lf (.ptr 2 0)], [some (.box true [.lf .bool, .lf (.sl (.int .i64)), .lf (.int .i64)]), some (.box true [.lf .bool, .lf (.gr (.int .i64) 3), .lf (.int .i64)]), some (.box true [.lf .bool, .lf (.gr (.int .i64) 4), .lf (.int .i64)]), some (.arr true (.int .i64)), some (.arr true (.int .i64))]⟩)]
noncomputable def b49_1 (x : g49_1.D) : Option (outD ((.normal, g49_1) :: o49_1)) :=
  (if ((decide (x.2.2.2.2.2.2.2.1 < x.1)) = true) then (if (((List.length (List.take (List.length x.2.2.2.2.2.2.2.2.2.1) (List.drop (0 : Nat) x.2.2.2.2.2.2.2.2.2.1))) + (1 : Nat)) ≤ (17592186044416 : Nat)) then (if ((List.length x.2.2.2.2.2.2.2.2.1) = (List.length x.2.2.2.2.2.2.2.2.1)) then (if ((List.length ((List.take (List.length x.2.2.2.2.2.2.2.2.2.1) (List.drop (0 : Nat) x.2.2.2.2.2.2.2.2.2.1)) ++ (List.take (1 : Nat) (List.drop (0 : Nat) (List.set (List.replicate (1 : Nat) (0 : Int)) (0 : Nat) (0 : Int)))))) = (List.length ((List.take (List.length x.2.2.2.2.2.2.2.2.2.1) (List.drop (0 : Nat) x.2.2.2.2.2.2.2.2.2.1)) ++ (List.take (1 : Nat) (List.drop (0 : Nat) (List.set (List.replicate (1 : Nat) (0 : Int)) (0 : Nat) (0 : Int))))))) then (some (Sum.inl (x.1, (x.2.1, (x.2.2.1, (x.2.2.2.1, (x.2.2.2.2.1, (x.2.2.2.2.2.1, (x.2.2.2.2.2.2.1, ((Go.IntKind.wrap Go.IntKind.i64 (x.2.2.2.2.2.2.2.1 + (1 : Int))), (x.2.2.2.2.2.2.2.2.1, (((List.take (List.length x.2.2.2.2.2.2.2.2.2.1) (List.drop (0 : Nat) x.2.2.2.2.2.2.2.2.2.1)) ++ (List.take (1 : Nat) (List.drop (0 : Nat) (List.set (List.replicate (1 : Nat) (0 : Int)) (0 : Nat) (0 : Int))))), Unit.unit))))))))))))
   else none)
   else none)
   else none)
   else (if ((List.length x.2.2.2.2.2.2.2.2.1) = (List.length x.2.2.2.2.2.2.2.2.1)) then (if ((List.length x.2.2.2.2.2.2.2.2.2.1) = (List.length x.2.2.2.2.2.2.2.2.2.1)) then (some (Sum.inr (Sum.inl (x.2.1, (x.2.2.1, (x.2.2.2.1, (x.2.2.2.2.1, (x.2.2.2.2.2.1, (x.2.2.2.2.2.2.1, (x.2.2.2.2.2.2.2.1, (x.2.2.2.2.2.2.2.2.1, (x.2.2.2.2.2.2.2.2.2.1, Unit.unit))))))))))))
   else none)
   else none))
theorem b49_1_eq (x : g49_1.D) : b49_1 x = evF P (T35.orc _) Go.Proofs.Try.f49.ntmps fx49 (Code.at [true, true, false, false, false] c49) (planAt 64 []) g49_1 x (injK fx49 ((.normal, g49_1) :: o49_1) some) := by kernel_rfl
noncomputable def l49_1 : g49_1.D → Option (outD o49_1) := loopN g49_1 o49_1 b49_1 18446744073709551616
theorem at49_1 : Code.at [true, true, false, false] c49 = .loop (Code.at [true, true, false, false, false] c49) := by kernel_rfl
theorem s49_1_ok : SubOk P Go.Proofs.Try.f49.ntmps fx49 (Code.at [true, true, false, false] c49) ⟨g49_1, o49_1, l49_1⟩ := by
  rw [at49_1]
  exact loop_ok (sub_ok (g := g49_1) (outs := ((.normal, g49_1) :: o49_1)) (f := b49_1) (Table.ok T35_ok _) hmix (planAt_ok (P := P) (n := Go.Proofs.Try.f49.ntmps) (fx := fx49) (c := (Code.at [true, true, false, false, false] c49)) (d := 64) (l := []) trivial) b49_1_eq) rfl _
noncomputable def f49 (x : gi49.D) : Option go49.D :=
  (Option.bind (Go.Ev.Matrix.l49_1 (x.2.2.2.1, (x.1, (x.2.1, (x.2.2.1, (false, ((0 : Int), (x.1, (x.2.2.1, ([], ([], Unit.unit))))))))))) (Sum.elim (fun y1 => (if (((List.length (List.take (List.length y1.2.2.2.2.2.2.2.2.1) (List.drop (0 : Nat) y1.2.2.2.2.2.2.2.2.1))) + (List.length y1.2.1)) ≤ (17592186044416 : Nat)) then (some (y1.2.2.2.2.2.1, ((List.take (List.length ((List.take (List.length y1.2.2.2.2.2.2.2.2.1) (List.drop (0 : Nat) y1.2.2.2.2.2.2.2.2.1)) ++ y1.2.1)) (List.drop (0 : Nat) ((List.take (List.length y1.2.2.2.2.2.2.2.2.1) (List.drop (0 : Nat) y1.2.2.2.2.2.2.2.2.1)) ++ y1.2.1))), (y1.2.2.2.2.2.2.1, Unit.unit))))
   else none)) Empty.elim))
theorem f49_eq (x : gi49.D) : f49 x = evF P (T35.orc _) Go.Proofs.Try.f49.ntmps fx49 c49 (planAt 64 [([true, true, false, false], ⟨g49_1, o49_1, l49_1⟩)]) gi49 x (fnKR P Go.Proofs.Try.f49 fx49 [go49]) := by kernel_rfl
theorem pf49 : AllSub P Go.Proofs.Try.f49.ntmps fx49 c49 [([true, true, false, false], ⟨g49_1, o49_1, l49_1⟩)] := And.intro s49_1_ok (trivial)
theorem qf49 : PlanOk P Go.Proofs.Try.f49.ntmps fx49 (planAt 64 [([true, true, false, false], ⟨g49_1, o49_1, l49_1⟩)]) c49 := planAt_ok pf49
theorem f49_ok : EntOk P 49 ⟨gi49, [go49], f49⟩ :=
  ent_okR (fn := Go.Proofs.Try.f49) (gi := gi49) (gos := [go49]) (f := f49) (c := c49) (fx := fx49) ⟨Go.Proofs.Try.func49, by kernel_rfl, rfl, by decide +kernel, rfl, rfl⟩ (Table.ok T35_ok _) hmix (qf49) f49_eq
noncomputable def T49 : Table := T35.add 49 [⟨gi49, [go49], f49⟩] []
theorem T49_ok : TableOk P T49 := Table.plus T35_ok (es := [⟨gi49, [go49], f49⟩]) ⟨f49_ok, trivial⟩ []

/-! ## 50: erasure/erasureref01.less -/
noncomputable def c50 : Code := Func.code Go.Proofs.Try.f50
abbrev gi50 : Sg := ⟨[0, 1], [.lf (.sl (.int .i64)), .lf (.sl (.int .i64))], []⟩
abbrev go50 : Sg := ⟨[4], [.lf .bool], []⟩
def fx50 : List Bool := []
abbrev g50_1 : Sg := ⟨[0, 1, 5], [.lf (.sl (.int .i64)), .lf (.sl (.int .i64)), .lf (.int .i64)], []⟩
abbrev o50_1 : Outs := [(.exit 0, ⟨[], [], []⟩), (.ret, ⟨[4], [.lf .bool], []⟩)]
noncomputable def b50_1 (x : g50_1.D) : Option (outD ((.normal, g50_1) :: o50_1)) :=
  (if ((decide (x.2.2.1 ≥ (0 : Int))) = true) then (Option.bind (Go.Ev.Matrix.f48 (x.1, (x.2.2.1, Unit.unit))) (fun y1 => (Option.bind (Go.Ev.Matrix.f48 (x.2.1, (x.2.2.1, Unit.unit))) (fun y2 => (if ((y1.1 != y2.1) = true) then (Option.bind (Go.Ev.Matrix.f48 (x.1, (x.2.2.1, Unit.unit))) (fun y3 => (Option.bind (Go.Ev.Matrix.f48 (x.2.1, (x.2.2.1, Unit.unit))) (fun y4 => (some (Sum.inr (Sum.inr (Sum.inl ((decide (y3.1 < y4.1)), Unit.unit)))))))))
   else (some (Sum.inl (x.1, (x.2.1, ((Go.IntKind.wrap Go.IntKind.i64 (x.2.2.1 - (1 : Int))), Unit.unit))))))))))
   else (some (Sum.inr (Sum.inl Unit.unit))))
theorem b50_1_eq (x : g50_1.D) : b50_1 x = evF P (T49.orc _) Go.Proofs.Try.f50.ntmps fx50 (Code.at [true, false, true, false, false] c50) (planAt 64 []) g50_1 x (injK fx50 ((.normal, g50_1) :: o50_1) some) := by kernel_rfl
noncomputable def l50_1 : g50_1.D → Option (outD o50_1) := loopN g50_1 o50_1 b50_1 18446744073709551616
theorem at50_1 : Code.at [true, false, true, false] c50 = .loop (Code.at [true, false, true, false, false] c50) := by kernel_rfl
theorem s50_1_ok : SubOk P Go.Proofs.Try.f50.ntmps fx50 (Code.at [true, false, true, false] c50) ⟨g50_1, o50_1, l50_1⟩ := by
  rw [at50_1]
  exact loop_ok (sub_ok (g := g50_1) (outs := ((.normal, g50_1) :: o50_1)) (f := b50_1) (Table.ok T49_ok _) hmix (planAt_ok (P := P) (n := Go.Proofs.Try.f50.ntmps) (fx := fx50) (c := (Code.at [true, false, true, false, false] c50)) (d := 64) (l := []) trivial) b50_1_eq) rfl _
noncomputable def f50 (x : gi50.D) : Option go50.D :=
  (Option.bind (Go.Ev.Matrix.l50_1 (x.1, (x.2.1, ((Go.IntKind.wrap Go.IntKind.i64 ((Max.max (((List.length x.1) : Nat) : Int) (((List.length x.2.1) : Nat) : Int)) - (1 : Int))), Unit.unit)))) (Sum.elim (fun _ => (some (false, Unit.unit))) (Sum.elim (fun y1 => (some (y1.1, Unit.unit))) Empty.elim)))
theorem f50_eq (x : gi50.D) : f50 x = evF P (T49.orc _) Go.Proofs.Try.f50.ntmps fx50 c50 (planAt 64 [([true, false, true, false], ⟨g50_1, o50_1, l50_1⟩)]) gi50 x (fnK fx50 [go50]) := by kernel_rfl
theorem pf50 : AllSub P Go.Proofs.Try.f50.ntmps fx50 c50 [([true, false, true, false], ⟨g50_1, o50_1, l50_1⟩)] := And.intro s50_1_ok (trivial)
theorem qf50 : PlanOk P Go.Proofs.Try.f50.ntmps fx50 (planAt 64 [([true, false, true, false], ⟨g50_1, o50_1, l50_1⟩)]) c50 := planAt_ok pf50
theorem f50_ok : EntOk P 50 ⟨gi50, [go50], f50⟩ :=
  ent_ok (fn := Go.Proofs.Try.f50) (gi := gi50) (gos := [go50]) (f := f50) (c := c50) (fx := fx50) ⟨Go.Proofs.Try.func50, by kernel_rfl, rfl, by decide +kernel, rfl, rfl⟩ (by kernel_rfl) (Table.ok T49_ok _) hmix (qf50) f50_eq
noncomputable def T50 : Table := T49.add 50 [⟨gi50, [go50], f50⟩] []
theorem T50_ok : TableOk P T50 := Table.plus T49_ok (es := [⟨gi50, [go50], f50⟩]) ⟨f50_ok, trivial⟩ []

/-! ## 45: erasure/erasureref01.sum -/
noncomputable def c45 : Code := Func.code Go.Proofs.Try.f45
abbrev gi45 : Sg := ⟨[0, 1], [.agg [.lf .bool, .lf (.sl (.int .i64)), .lf (.int .i64)], .agg [.lf .bool, .lf (.sl (.int .i64)), .lf (.int .i64)]], []⟩
abbrev go45 : Sg := ⟨[0], [.agg [.lf .bool, .lf (.sl (.int .i64)), .lf (.int .i64)]], []⟩
def fx45 : List Bool := []
abbrev g45_2 : Sg := ⟨[2, 3, 4, 6, 7, 8], [.lf (.ptr 0 0), .lf (.ptr 1 0), .lf (.ptr 2 0), .lf (.ptr 3 0), .lf (.int .i64), .lf (.int .i64)], [some (.box true [.lf .bool, .lf (.sl (.int .i64)), .lf (.int .i64)]), some (.box true [.lf .bool, .lf (.sl (.int .i64)), .lf (.int .i64)]), some (.box true [.lf .bool, .lf (.gr (.int .i64) 4), .lf (.int .i64)]), some (.box true [.lf .bool, .lf (.gr (.int .i64) 5), .lf (.int .i64)]), some (.arr true (.int .i64)), some (.arr true (.int .i64))]⟩
abbrev o45_2 : Outs := [(.exit 0, ⟨[4, 6], [.lf (.ptr 0 0), .lf (.ptr 1 0)], [some (.box true [.lf .bool, .lf (.gr (.int .i64) 2), .lf (.int .i64)]), some (.box true [.lf .bool, .lf (.gr (.int .i64) 3), .lf (.int .i64)]), some (.arr true (.int .i64)), some (.arr true (.int .i64))]⟩)]
noncomputable def b45_2 (_rF45 : gi45.D → Option go45.D) (x : g45_2.D) : Option (outD ((.normal, g45_2) :: o45_2)) :=
  (if ((decide (x.2.1 ≤ (Max.max (((List.length x.2.2.2.1) : Nat) : Int) (((List.length x.2.2.2.2.2.2.1) : Nat) : Int)))) = true) then (Option.bind (Go.Ev.Matrix.f48 (x.2.2.2.1, (x.2.1, Unit.unit))) (fun y1 => (if ((x.2.2.1 == x.2.2.2.2.2.1) = true) then (Option.bind (Go.Ev.Matrix.f48 (x.2.2.2.2.2.2.1, (x.2.1, Unit.unit))) (fun y2 => (if ((decide ((Go.IntKind.wrap Go.IntKind.i64 ((Go.IntKind.wrap Go.IntKind.i64 (y1.1 + x.1)) + y2.1)) > (9 : Int))) = true) then (if ((decide ((Go.IntKind.wrap Go.IntKind.i64 ((Go.IntKind.wrap Go.IntKind.i64 ((Go.IntKind.wrap Go.IntKind.i64 (y1.1 + x.1)) + y2.1)) - (10 : Int))) < (0 : Int))) = true) then (if (((List.length (List.take (List.length x.2.2.2.2.2.2.2.2.2.2.2.2.2.1) (List.drop (0 : Nat) x.2.2.2.2.2.2.2.2.2.2.2.2.2.1))) + (List.length (List.take (1 : Nat) (List.drop (0 : Nat) (List.set (List.replicate (1 : Nat) (0 : Int)) (0 : Nat) (Go.IntKind.wrap Go.IntKind.i64 ((Go.IntKind.wrap Go.IntKind.i64 ((Go.IntKind.wrap Go.IntKind.i64 ((Go.IntKind.wrap Go.IntKind.i64 (y1.1 + x.1)) + y2.1)) - (10 : Int))) + (10 : Int)))))))) ≤ (17592186044416 : Nat)) then (if ((List.length x.2.2.2.2.2.2.2.2.2.2.2.2.1) = (List.length x.2.2.2.2.2.2.2.2.2.2.2.2.1)) then (if ((List.length ((List.take (List.length x.2.2.2.2.2.2.2.2.2.2.2.2.2.1) (List.drop (0 : Nat) x.2.2.2.2.2.2.2.2.2.2.2.2.2.1)) ++ (List.take (1 : Nat) (List.drop (0 : Nat) (List.set (List.replicate (1 : Nat) (0 : Int)) (0 : Nat) (Go.IntKind.wrap Go.IntKind.i64 ((Go.IntKind.wrap Go.IntKind.i64 ((Go.IntKind.wrap Go.IntKind.i64 ((Go.IntKind.wrap Go.IntKind.i64 (y1.1 + x.1)) + y2.1)) - (10 : Int))) + (10 : Int)))))))) = (List.length ((List.take (List.length x.2.2.2.2.2.2.2.2.2.2.2.2.2.1) (List.drop (0 : Nat) x.2.2.2.2.2.2.2.2.2.2.2.2.2.1)) ++ (List.take (1 : Nat) (List.drop (0 : Nat) (List.set (List.replicate (1 : Nat) (0 : Int)) (0 : Nat) (Go.IntKind.wrap Go.IntKind.i64 ((Go.IntKind.wrap Go.IntKind.i64 ((Go.IntKind.wrap Go.IntKind.i64 ((Go.IntKind.wrap Go.IntKind.i64 (y1.1 + x.1)) + y2.1)) - (10 : Int))) + (10 : Int))))))))) then (some (Sum.inl ((-1 : Int), ((Go.IntKind.wrap Go.IntKind.i64 (x.2.1 + (1 : Int))), (x.2.2.1, (x.2.2.2.1, (x.2.2.2.2.1, (x.2.2.2.2.2.1, (x.2.2.2.2.2.2.1, (x.2.2.2.2.2.2.2.1, (x.2.2.2.2.2.2.2.2.1, (x.2.2.2.2.2.2.2.2.2.1, (x.2.2.2.2.2.2.2.2.2.2.1, (x.2.2.2.2.2.2.2.2.2.2.2.1, (x.2.2.2.2.2.2.2.2.2.2.2.2.1, (((List.take (List.length x.2.2.2.2.2.2.2.2.2.2.2.2.2.1) (List.drop (0 : Nat) x.2.2.2.2.2.2.2.2.2.2.2.2.2.1)) ++ (List.take (1 : Nat) (List.drop (0 : Nat) (List.set (List.replicate (1 : Nat) (0 : Int)) (0 : Nat) (Go.IntKind.wrap Go.IntKind.i64 ((Go.IntKind.wrap Go.IntKind.i64 ((Go.IntKind.wrap Go.IntKind.i64 ((Go.IntKind.wrap Go.IntKind.i64 (y1.1 + x.1)) + y2.1)) - (10 : Int))) + (10 : Int))))))), Unit.unit))))))))))))))))
   else none)
   else none)
   else none)
   else (if (((List.length (List.take (List.length x.2.2.2.2.2.2.2.2.2.2.2.2.2.1) (List.drop (0 : Nat) x.2.2.2.2.2.2.2.2.2.2.2.2.2.1))) + (List.length (List.take (1 : Nat) (List.drop (0 : Nat) (List.set (List.replicate (1 : Nat) (0 : Int)) (0 : Nat) (Go.IntKind.wrap Go.IntKind.i64 ((Go.IntKind.wrap Go.IntKind.i64 ((Go.IntKind.wrap Go.IntKind.i64 (y1.1 + x.1)) + y2.1)) - (10 : Int)))))))) ≤ (17592186044416 : Nat)) then (if ((List.length x.2.2.2.2.2.2.2.2.2.2.2.2.1) = (List.length x.2.2.2.2.2.2.2.2.2.2.2.2.1)) then (if ((List.length ((List.take (List.length x.2.2.2.2.2.2.2.2.2.2.2.2.2.1) (List.drop (0 : Nat) x.2.2.2.2.2.2.2.2.2.2.2.2.2.1)) ++ (List.take (1 : Nat) (List.drop (0 : Nat) (List.set (List.replicate (1 : Nat) (0 : Int)) (0 : Nat) (Go.IntKind.wrap Go.IntKind.i64 ((Go.IntKind.wrap Go.IntKind.i64 ((Go.IntKind.wrap Go.IntKind.i64 (y1.1 + x.1)) + y2.1)) - (10 : Int)))))))) = (List.length ((List.take (List.length x.2.2.2.2.2.2.2.2.2.2.2.2.2.1) (List.drop (0 : Nat) x.2.2.2.2.2.2.2.2.2.2.2.2.2.1)) ++ (List.take (1 : Nat) (List.drop (0 : Nat) (List.set (List.replicate (1 : Nat) (0 : Int)) (0 : Nat) (Go.IntKind.wrap Go.IntKind.i64 ((Go.IntKind.wrap Go.IntKind.i64 ((Go.IntKind.wrap Go.IntKind.i64 (y1.1 + x.1)) + y2.1)) - (10 : Int))))))))) then (some (Sum.inl ((1 : Int), ((Go.IntKind.wrap Go.IntKind.i64 (x.2.1 + (1 : Int))), (x.2.2.1, (x.2.2.2.1, (x.2.2.2.2.1, (x.2.2.2.2.2.1, (x.2.2.2.2.2.2.1, (x.2.2.2.2.2.2.2.1, (x.2.2.2.2.2.2.2.2.1, (x.2.2.2.2.2.2.2.2.2.1, (x.2.2.2.2.2.2.2.2.2.2.1, (x.2.2.2.2.2.2.2.2.2.2.2.1, (x.2.2.2.2.2.2.2.2.2.2.2.2.1, (((List.take (List.length x.2.2.2.2.2.2.2.2.2.2.2.2.2.1) (List.drop (0 : Nat) x.2.2.2.2.2.2.2.2.2.2.2.2.2.1)) ++ (List.take (1 : Nat) (List.drop (0 : Nat) (List.set (List.replicate (1 : Nat) (0 : Int)) (0 : Nat) (Go.IntKind.wrap Go.IntKind.i64 ((Go.IntKind.wrap Go.IntKind.i64 ((Go.IntKind.wrap Go.IntKind.i64 (y1.1 + x.1)) + y2.1)) - (10 : Int))))))), Unit.unit))))))))))))))))
   else none)
   else none)
   else none))
   else (if ((decide ((Go.IntKind.wrap Go.IntKind.i64 ((Go.IntKind.wrap Go.IntKind.i64 (y1.1 + x.1)) + y2.1)) < (0 : Int))) = true) then (if (((List.length (List.take (List.length x.2.2.2.2.2.2.2.2.2.2.2.2.2.1) (List.drop (0 : Nat) x.2.2.2.2.2.2.2.2.2.2.2.2.2.1))) + (List.length (List.take (1 : Nat) (List.drop (0 : Nat) (List.set (List.replicate (1 : Nat) (0 : Int)) (0 : Nat) (Go.IntKind.wrap Go.IntKind.i64 ((Go.IntKind.wrap Go.IntKind.i64 ((Go.IntKind.wrap Go.IntKind.i64 (y1.1 + x.1)) + y2.1)) + (10 : Int)))))))) ≤ (17592186044416 : Nat)) then (if ((List.length x.2.2.2.2.2.2.2.2.2.2.2.2.1) = (List.length x.2.2.2.2.2.2.2.2.2.2.2.2.1)) then (if ((List.length ((List.take (List.length x.2.2.2.2.2.2.2.2.2.2.2.2.2.1) (List.drop (0 : Nat) x.2.2.2.2.2.2.2.2.2.2.2.2.2.1)) ++ (List.take (1 : Nat) (List.drop (0 : Nat) (List.set (List.replicate (1 : Nat) (0 : Int)) (0 : Nat) (Go.IntKind.wrap Go.IntKind.i64 ((Go.IntKind.wrap Go.IntKind.i64 ((Go.IntKind.wrap Go.IntKind.i64 (y1.1 + x.1)) + y2.1)) + (10 : Int)))))))) = (List.length ((List.take (List.length x.2.2.2.2.2.2.2.2.2.2.2.2.2.1) (List.drop (0 : Nat) x.2.2.2.2.2.2.2.2.2.2.2.2.2.1)) ++ (List.take (1 : Nat) (List.drop (0 : Nat) (List.set (List.replicate (1 : Nat) (0 : Int)) (0 : Nat) (Go.IntKind.wrap Go.IntKind.i64 ((Go.IntKind.wrap Go.IntKind.i64 ((Go.IntKind.wrap Go.IntKind.i64 (y1.1 + x.1)) + y2.1)) + (10 : Int))))))))) then (some (Sum.inl ((-1 : Int), ((Go.IntKind.wrap Go.IntKind.i64 (x.2.1 + (1 : Int))), (x.2.2.1, (x.2.2.2.1, (x.2.2.2.2.1, (x.2.2.2.2.2.1, (x.2.2.2.2.2.2.1, (x.2.2.2.2.2.2.2.1, (x.2.2.2.2.2.2.2.2.1, (x.2.2.2.2.2.2.2.2.2.1, (x.2.2.2.2.2.2.2.2.2.2.1, (x.2.2.2.2.2.2.2.2.2.2.2.1, (x.2.2.2.2.2.2.2.2.2.2.2.2.1, (((List.take (List.length x.2.2.2.2.2.2.2.2.2.2.2.2.2.1) (List.drop (0 : Nat) x.2.2.2.2.2.2.2.2.2.2.2.2.2.1)) ++ (List.take (1 : Nat) (List.drop (0 : Nat) (List.set (List.replicate (1 : Nat) (0 : Int)) (0 : Nat) (Go.IntKind.wrap Go.IntKind.i64 ((Go.IntKind.wrap Go.IntKind.i64 ((Go.IntKind.wrap Go.IntKind.i64 (y1.1 + x.1)) + y2.1)) + (10 : Int))))))), Unit.unit))))))))))))))))
   else none)
   else none)
   else none)
   else (if (((List.length (List.take (List.length x.2.2.2.2.2.2.2.2.2.2.2.2.2.1) (List.drop (0 : Nat) x.2.2.2.2.2.2.2.2.2.2.2.2.2.1))) + (List.length (List.take (1 : Nat) (List.drop (0 : Nat) (List.set (List.replicate (1 : Nat) (0 : Int)) (0 : Nat) (Go.IntKind.wrap Go.IntKind.i64 ((Go.IntKind.wrap Go.IntKind.i64 (y1.1 + x.1)) + y2.1))))))) ≤ (17592186044416 : Nat)) then (if ((List.length x.2.2.2.2.2.2.2.2.2.2.2.2.1) = (List.length x.2.2.2.2.2.2.2.2.2.2.2.2.1)) then (if ((List.length ((List.take (List.length x.2.2.2.2.2.2.2.2.2.2.2.2.2.1) (List.drop (0 : Nat) x.2.2.2.2.2.2.2.2.2.2.2.2.2.1)) ++ (List.take (1 : Nat) (List.drop (0 : Nat) (List.set (List.replicate (1 : Nat) (0 : Int)) (0 : Nat) (Go.IntKind.wrap Go.IntKind.i64 ((Go.IntKind.wrap Go.IntKind.i64 (y1.1 + x.1)) + y2.1))))))) = (List.length ((List.take (List.length x.2.2.2.2.2.2.2.2.2.2.2.2.2.1) (List.drop (0 : Nat) x.2.2.2.2.2.2.2.2.2.2.2.2.2.1)) ++ (List.take (1 : Nat) (List.drop (0 : Nat) (List.set (List.replicate (1 : Nat) (0 : Int)) (0 : Nat) (Go.IntKind.wrap Go.IntKind.i64 ((Go.IntKind.wrap Go.IntKind.i64 (y1.1 + x.1)) + y2.1)))))))) then (some (Sum.inl ((0 : Int), ((Go.IntKind.wrap Go.IntKind.i64 (x.2.1 + (1 : Int))), (x.2.2.1, (x.2.2.2.1, (x.2.2.2.2.1, (x.2.2.2.2.2.1, (x.2.2.2.2.2.2.1, (x.2.2.2.2.2.2.2.1, (x.2.2.2.2.2.2.2.2.1, (x.2.2.2.2.2.2.2.2.2.1, (x.2.2.2.2.2.2.2.2.2.2.1, (x.2.2.2.2.2.2.2.2.2.2.2.1, (x.2.2.2.2.2.2.2.2.2.2.2.2.1, (((List.take (List.length x.2.2.2.2.2.2.2.2.2.2.2.2.2.1) (List.drop (0 : Nat) x.2.2.2.2.2.2.2.2.2.2.2.2.2.1)) ++ (List.take (1 : Nat) (List.drop (0 : Nat) (List.set (List.replicate (1 : Nat) (0 : Int)) (0 : Nat) (Go.IntKind.wrap Go.IntKind.i64 ((Go.IntKind.wrap Go.IntKind.i64 (y1.1 + x.1)) + y2.1)))))), Unit.unit))))))))))))))))
   else none)
   else none)
   else none)))))
   else (Option.bind (Go.Ev.Matrix.f48 (x.2.2.2.2.2.2.1, (x.2.1, Unit.unit))) (fun y2 => (if ((decide ((Go.IntKind.wrap Go.IntKind.i64 ((Go.IntKind.wrap Go.IntKind.i64 (y1.1 + x.1)) - y2.1)) > (9 : Int))) = true) then (if ((decide ((Go.IntKind.wrap Go.IntKind.i64 ((Go.IntKind.wrap Go.IntKind.i64 ((Go.IntKind.wrap Go.IntKind.i64 (y1.1 + x.1)) - y2.1)) - (10 : Int))) < (0 : Int))) = true) then (if (((List.length (List.take (List.length x.2.2.2.2.2.2.2.2.2.2.2.2.2.1) (List.drop (0 : Nat) x.2.2.2.2.2.2.2.2.2.2.2.2.2.1))) + (List.length (List.take (1 : Nat) (List.drop (0 : Nat) (List.set (List.replicate (1 : Nat) (0 : Int)) (0 : Nat) (Go.IntKind.wrap Go.IntKind.i64 ((Go.IntKind.wrap Go.IntKind.i64 ((Go.IntKind.wrap Go.IntKind.i64 ((Go.IntKind.wrap Go.IntKind.i64 (y1.1 + x.1)) - y2.1)) - (10 : Int))) + (10 : Int)))))))) ≤ (17592186044416 : Nat)) then (if ((List.length x.2.2.2.2.2.2.2.2.2.2.2.2.1) = (List.length x.2.2.2.2.2.2.2.2.2.2.2.2.1)) then (if ((List.length ((List.take (List.length x.2.2.2.2.2.2.2.2.2.2.2.2.2.1) (List.drop (0 : Nat) x.2.2.2.2.2.2.2.2.2.2.2.2.2.1)) ++ (List.take (1 : Nat) (List.drop (0 : Nat) (List.set (List.replicate (1 : Nat) (0 : Int)) (0 : Nat) (Go.IntKind.wrap Go.IntKind.i64 ((Go.IntKind.wrap Go.IntKind.i64 ((Go.IntKind.wrap Go.IntKind.i64 ((Go.IntKind.wrap Go.IntKind.i64 (y1.1 + x.1)) - y2.1)) - (10 : Int))) + (10 : Int)))))))) = (List.length ((List.take (List.length x.2.2.2.2.2.2.2.2.2.2.2.2.2.1) (List.drop (0 : Nat) x.2.2.2.2.2.2.2.2.2.2.2.2.2.1)) ++ (List.take (1 : Nat) (List.drop (0 : Nat) (List.set (List.replicate (1 : Nat) (0 : Int)) (0 : Nat) (Go.IntKind.wrap Go.IntKind.i64 ((Go.IntKind.wrap Go.IntKind.i64 ((Go.IntKind.wrap Go.IntKind.i64 ((Go.IntKind.wrap Go.IntKind.i64 (y1.1 + x.1)) - y2.1)) - (10 : Int))) + (10 : Int))))))))) then (some (Sum.inl ((-1 : Int), ((Go.IntKind.wrap Go.IntKind.i64 (x.2.1 + (1 : Int))), (x.2.2.1, (x.2.2.2.1, (x.2.2.2.2.1, (x.2.2.2.2.2.1, (x.2.2.2.2.2.2.1, (x.2.2.2.2.2.2.2.1, (x.2.2.2.2.2.2.2.2.1, (x.2.2.2.2.2.2.2.2.2.1, (x.2.2.2.2.2.2.2.2.2.2.1, (x.2.2.2.2.2.2.2.2.2.2.2.1, (x.2.2.2.2.2.2.2.2.2.2.2.2.1, (((List.take (List.length x.2.2.2.2.2.2.2.2.2.2.2.2.2.1) (List.drop (0 : Nat) x.2.2.2.2.2.2.2.2.2.2.2.2.2.1)) ++ (List.take (1 : Nat) (List.drop (0 : Nat) (List.set (List.replicate (1 : Nat) (0 : Int)) (0 : Nat) (Go.IntKind.wrap Go.IntKind.i64 ((Go.IntKind.wrap Go.IntKind.i64 ((Go.IntKind.wrap Go.IntKind.i64 ((Go.IntKind.wrap Go.IntKind.i64 (y1.1 + x.1)) - y2.1)) - (10 : Int))) + (10 : Int))))))), Unit.unit))))))))))))))))
   else none)
   else none)
   else none)
   else (if (((List.length (List.take (List.length x.2.2.2.2.2.2.2.2.2.2.2.2.2.1) (List.drop (0 : Nat) x.2.2.2.2.2.2.2.2.2.2.2.2.2.1))) + (List.length (List.take (1 : Nat) (List.drop (0 : Nat) (List.set (List.replicate (1 : Nat) (0 : Int)) (0 : Nat) (Go.IntKind.wrap Go.IntKind.i64 ((Go.IntKind.wrap Go.IntKind.i64 ((Go.IntKind.wrap Go.IntKind.i64 (y1.1 + x.1)) - y2.1)) - (10 : Int)))))))) ≤ (17592186044416 : Nat)) then (if ((List.length x.2.2.2.2.2.2.2.2.2.2.2.2.1) = (List.length x.2.2.2.2.2.2.2.2.2.2.2.2.1)) then (if ((List.length ((List.take (List.length x.2.2.2.2.2.2.2.2.2.2.2.2.2.1) (List.drop (0 : Nat) x.2.2.2.2.2.2.2.2.2.2.2.2.2.1)) ++ (List.take (1 : Nat) (List.drop (0 : Nat) (List.set (List.replicate (1 : Nat) (0 : Int)) (0 : Nat) (Go.IntKind.wrap Go.IntKind.i64 ((Go.IntKind.wrap Go.IntKind.i64 ((Go.IntKind.wrap Go.IntKind.i64 (y1.1 + x.1)) - y2.1)) - (10 : Int)))))))) = (List.length ((List.take (List.length x.2.2.2.2.2.2.2.2.2.2.2.2.2.1) (List.drop (0 : Nat) x.2.2.2.2.2.2.2.2.2.2.2.2.2.1)) ++ (List.take (1 : Nat) (List.drop (0 : Nat) (List.set (List.replicate (1 : Nat) (0 : Int)) (0 : Nat) (Go.IntKind.wrap Go.IntKind.i64 ((Go.IntKind.wrap Go.IntKind.i64 ((Go.IntKind.wrap Go.IntKind.i64 (y1.1 + x.1)) - y2.1)) - (10 : Int))))))))) then (some (Sum.inl ((1 : Int), ((Go.IntKind.wrap Go.IntKind.i64 (x.2.1 + (1 : Int))), (x.2.2.1, (x.2.2.2.1, (x.2.2.2.2.1, (x.2.2.2.2.2.1, (x.2.2.2.2.2.2.1, (x.2.2.2.2.2.2.2.1, (x.2.2.2.2.2.2.2.2.1, (x.2.2.2.2.2.2.2.2.2.1, (x.2.2.2.2.2.2.2.2.2.2.1, (x.2.2.2.2.2.2.2.2.2.2.2.1, (x.2.2.2.2.2.2.2.2.2.2.2.2.1, (((List.take (List.length x.2.2.2.2.2.2.2.2.2.2.2.2.2.1) (List.drop (0 : Nat) x.2.2.2.2.2.2.2.2.2.2.2.2.2.1)) ++ (List.take (1 : Nat) (List.drop (0 : Nat) (List.set (List.replicate (1 : Nat) (0 : Int)) (0 : Nat) (Go.IntKind.wrap Go.IntKind.i64 ((Go.IntKind.wrap Go.IntKind.i64 ((Go.IntKind.wrap Go.IntKind.i64 (y1.1 + x.1)) - y2.1)) - (10 : Int))))))), Unit.unit))))))))))))))))
   else none)
   else none)
   else none))
   else (if ((decide ((Go.IntKind.wrap Go.IntKind.i64 ((Go.IntKind.wrap Go.IntKind.i64 (y1.1 + x.1)) - y2.1)) < (0 : Int))) = true) then (if (((List.length (List.take (List.length x.2.2.2.2.2.2.2.2.2.2.2.2.2.1) (List.drop (0 : Nat) x.2.2.2.2.2.2.2.2.2.2.2.2.2.1))) + (List.length (List.take (1 : Nat) (List.drop (0 : Nat) (List.set (List.replicate (1 : Nat) (0 : Int)) (0 : Nat) (Go.IntKind.wrap Go.IntKind.i64 ((Go.IntKind.wrap Go.IntKind.i64 ((Go.IntKind.wrap Go.IntKind.i64 (y1.1 + x.1)) - y2.1)) + (10 : Int)))))))) ≤ (17592186044416 : Nat)) then (if ((List.length x.2.2.2.2.2.2.2.2.2.2.2.2.1) = (List.length x.2.2.2.2.2.2.2.2.2.2.2.2.1)) then (if ((List.length ((List.take (List.length x.2.2.2.2.2.2.2.2.2.2.2.2.2.1) (List.drop (0 : Nat) x.2.2.2.2.2.2.2.2.2.2.2.2.2.1)) ++ (List.take (1 : Nat) (List.drop (0 : Nat) (List.set (List.replicate (1 : Nat) (0 : Int)) (0 : Nat) (Go.IntKind.wrap Go.IntKind.i64 ((Go.IntKind.wrap Go.IntKind.i64 ((Go.IntKind.wrap Go.IntKind.i64 (y1.1 + x.1)) - y2.1)) + (10 : Int)))))))) = (List.length ((List.take (List.length x.2.2.2.2.2.2.2.2.2.2.2.2.2.1) (List.drop (0 : Nat) x.2.2.2.2.2.2.2.2.2.2.2.2.2.1)) ++ (List.take (1 : Nat) (List.drop (0 : Nat) (List.set (List.replicate (1 : Nat) (0 : Int)) (0 : Nat) (Go.IntKind.wrap Go.IntKind.i64 ((Go.IntKind.wrap Go.IntKind.i64 ((Go.IntKind.wrap Go.IntKind.i64 (y1.1 + x.1)) - y2.1)) + (10 : Int))))))))) then (some (Sum.inl ((-1 : Int), ((Go.IntKind.wrap Go.IntKind.i64 (x.2.1 + (1 : Int))), (x.2.2.1, (x.2.2.2.1, (x.2.2.2.2.1, (x.2.2.2.2.2.1, (x.2.2.2.2.2.2.1, (x.2.2.2.2.2.2.2.1, (x.2.2.2.2.2.2.2.2.1, (x.2.2.2.2.2.2.2.2.2.1, (x.2.2.2.2.2.2.2.2.2.2.1, (x.2.2.2.2.2.2.2.2.2.2.2.1, (x.2.2.2.2.2.2.2.2.2.2.2.2.1, (((List.take (List.length x.2.2.2.2.2.2.2.2.2.2.2.2.2.1) (List.drop (0 : Nat) x.2.2.2.2.2.2.2.2.2.2.2.2.2.1)) ++ (List.take (1 : Nat) (List.drop (0 : Nat) (List.set (List.replicate (1 : Nat) (0 : Int)) (0 : Nat) (Go.IntKind.wrap Go.IntKind.i64 ((Go.IntKind.wrap Go.IntKind.i64 ((Go.IntKind.wrap Go.IntKind.i64 (y1.1 + x.1)) - y2.1)) + (10 : Int))))))), Unit.unit))))))))))))))))
   else none)
   else none)
   else none)
   else (if (((List.length (List.take (List.length x.2.2.2.2.2.2.2.2.2.2.2.2.2.1) (List.drop (0 : Nat) x.2.2.2.2.2.2.2.2.2.2.2.2.2.1))) + (List.length (List.take (1 : Nat) (List.drop (0 : Nat) (List.set (List.replicate (1 : Nat) (0 : Int)) (0 : Nat) (Go.IntKind.wrap Go.IntKind.i64 ((Go.IntKind.wrap Go.IntKind.i64 (y1.1 + x.1)) - y2.1))))))) ≤ (17592186044416 : Nat)) then (if ((List.length x.2.2.2.2.2.2.2.2.2.2.2.2.1) = (List.length x.2.2.2.2.2.2.2.2.2.2.2.2.1)) then (if ((List.length ((List.take (List.length x.2.2.2.2.2.2.2.2.2.2.2.2.2.1) (List.drop (0 : Nat) x.2.2.2.2.2.2.2.2.2.2.2.2.2.1)) ++ (List.take (1 : Nat) (List.drop (0 : Nat) (List.set (List.replicate (1 : Nat) (0 : Int)) (0 : Nat) (Go.IntKind.wrap Go.IntKind.i64 ((Go.IntKind.wrap Go.IntKind.i64 (y1.1 + x.1)) - y2.1))))))) = (List.length ((List.take (List.length x.2.2.2.2.2.2.2.2.2.2.2.2.2.1) (List.drop (0 : Nat) x.2.2.2.2.2.2.2.2.2.2.2.2.2.1)) ++ (List.take (1 : Nat) (List.drop (0 : Nat) (List.set (List.replicate (1 : Nat) (0 : Int)) (0 : Nat) (Go.IntKind.wrap Go.IntKind.i64 ((Go.IntKind.wrap Go.IntKind.i64 (y1.1 + x.1)) - y2.1)))))))) then (some (Sum.inl ((0 : Int), ((Go.IntKind.wrap Go.IntKind.i64 (x.2.1 + (1 : Int))), (x.2.2.1, (x.2.2.2.1, (x.2.2.2.2.1, (x.2.2.2.2.2.1, (x.2.2.2.2.2.2.1, (x.2.2.2.2.2.2.2.1, (x.2.2.2.2.2.2.2.2.1, (x.2.2.2.2.2.2.2.2.2.1, (x.2.2.2.2.2.2.2.2.2.2.1, (x.2.2.2.2.2.2.2.2.2.2.2.1, (x.2.2.2.2.2.2.2.2.2.2.2.2.1, (((List.take (List.length x.2.2.2.2.2.2.2.2.2.2.2.2.2.1) (List.drop (0 : Nat) x.2.2.2.2.2.2.2.2.2.2.2.2.2.1)) ++ (List.take (1 : Nat) (List.drop (0 : Nat) (List.set (List.replicate (1 : Nat) (0 : Int)) (0 : Nat) (Go.IntKind.wrap Go.IntKind.i64 ((Go.IntKind.wrap Go.IntKind.i64 (y1.1 + x.1)) - y2.1)))))), Unit.unit))))))))))))))))
   else none)
   else none)
   else none))))))))
   else (if ((List.length x.2.2.2.2.2.2.2.2.2.2.2.2.1) = (List.length x.2.2.2.2.2.2.2.2.2.2.2.2.1)) then (if ((List.length x.2.2.2.2.2.2.2.2.2.2.2.2.2.1) = (List.length x.2.2.2.2.2.2.2.2.2.2.2.2.2.1)) then (some (Sum.inr (Sum.inl (x.2.2.2.2.2.2.2.2.1, (x.2.2.2.2.2.2.2.2.2.1, (x.2.2.2.2.2.2.2.2.2.2.1, (x.2.2.2.2.2.2.2.2.2.2.2.1, (x.2.2.2.2.2.2.2.2.2.2.2.2.1, (x.2.2.2.2.2.2.2.2.2.2.2.2.2.1, Unit.unit)))))))))
   else none)
   else none))
theorem b45_2_eq (rF45 : gi45.D → Option go45.D) (x : g45_2.D) : b45_2 rF45 x = evF P ((T50.add 45 [⟨gi45, [go45], rF45⟩] []).orc _) Go.Proofs.Try.f45.ntmps fx45 (Code.at [true, true, true, true, true, true, true, false, true, false, false] c45) (planAt 64 []) g45_2 x (injK fx45 ((.normal, g45_2) :: o45_2) some) := by kernel_rfl
noncomputable def l45_2 (rF45 : gi45.D → Option go45.D) : g45_2.D → Option (outD o45_2) := loopN g45_2 o45_2 (b45_2 rF45) 18446744073709551616
theorem at45_2 : Code.at [true, true, true, true, true, true, true, false, true, false] c45 = .loop (Code.at [true, true, true, true, true, true, true, false, true, false, false] c45) := by kernel_rfl
theorem s45_2_ok (rF45 : gi45.D → Option go45.D) (hF : EntOk P 45 ⟨gi45, [go45], rF45⟩) : SubOk P Go.Proofs.Try.f45.ntmps fx45 (Code.at [true, true, true, true, true, true, true, false, true, false] c45) ⟨g45_2, o45_2, l45_2 rF45⟩ := by
  rw [at45_2]
  exact loop_ok (sub_ok (g := g45_2) (outs := ((.normal, g45_2) :: o45_2)) (f := b45_2 rF45) (Table.ok (Table.plus T50_ok (g := 45) (es := [⟨gi45, [go45], rF45⟩]) ⟨hF, trivial⟩ []) _) hmix (planAt_ok (P := P) (n := Go.Proofs.Try.f45.ntmps) (fx := fx45) (c := (Code.at [true, true, true, true, true, true, true, false, true, false, false] c45)) (d := 64) (l := []) trivial) (b45_2_eq rF45)) rfl _
abbrev g45_1 : Sg := ⟨[2, 3, 4, 5], [.lf (.ptr 0 0), .lf (.ptr 1 0), .lf (.ptr 2 0), .lf (.int .i64)], [some (.box true [.lf .bool, .lf (.sl (.int .i64)), .lf (.int .i64)]), some (.box true [.lf .bool, .lf (.sl (.int .i64)), .lf (.int .i64)]), some (.box true [.lf .bool, .lf (.gr (.int .i64) 3), .lf (.int .i64)]), some (.arr true (.int .i64))]⟩
abbrev o45_1 : Outs := [(.normal, ⟨[2, 3, 4, 5, 32], [.lf (.ptr 0 0), .lf (.ptr 1 0), .lf (.ptr 2 0), .lf (.int .i64), .lf .bool], [some (.box true [.lf .bool, .lf (.sl (.int .i64)), .lf (.int .i64)]), some (.box true [.lf .bool, .lf (.sl (.int .i64)), .lf (.int .i64)]), some (.box true [.lf .bool, .lf (.gr (.int .i64) 3), .lf (.int .i64)]), some (.arr true (.int .i64))]⟩)]
noncomputable def b45_1 (_rF45 : gi45.D → Option go45.D) (x : g45_1.D) : Option (outD o45_1) :=
  (if ((Bool.not (x.2.1 == x.2.2.2.2.1)) = true) then (Option.bind (Go.Ev.Matrix.f50 (x.2.2.1, (x.2.2.2.2.2.1, Unit.unit))) (fun y1 => (if ((List.length x.2.2.2.2.2.2.2.2.2.1) = (List.length x.2.2.2.2.2.2.2.2.2.1)) then (some (Sum.inl (x.1, (y1.1, (x.2.1, (x.2.2.1, (x.2.2.2.1, (x.2.2.2.2.1, (x.2.2.2.2.2.1, (x.2.2.2.2.2.2.1, (x.2.2.2.2.2.2.2.1, (x.2.2.2.2.2.2.2.2.1, (x.2.2.2.2.2.2.2.2.2.1, Unit.unit)))))))))))))
   else none)))
   else (if ((List.length x.2.2.2.2.2.2.2.2.2.1) = (List.length x.2.2.2.2.2.2.2.2.2.1)) then (some (Sum.inl (x.1, (false, (x.2.1, (x.2.2.1, (x.2.2.2.1, (x.2.2.2.2.1, (x.2.2.2.2.2.1, (x.2.2.2.2.2.2.1, (x.2.2.2.2.2.2.2.1, (x.2.2.2.2.2.2.2.2.1, (x.2.2.2.2.2.2.2.2.2.1, Unit.unit)))))))))))))
   else none))
theorem b45_1_eq (rF45 : gi45.D → Option go45.D) (x : g45_1.D) : b45_1 rF45 x = evF P ((T50.add 45 [⟨gi45, [go45], rF45⟩] []).orc _) Go.Proofs.Try.f45.ntmps fx45 (Code.at [true, true, true, true, false, false] c45) (planAt 64 []) g45_1 x (injK fx45 o45_1 some) := by kernel_rfl
theorem s45_1_ok (rF45 : gi45.D → Option go45.D) (hF : EntOk P 45 ⟨gi45, [go45], rF45⟩) : SubOk P Go.Proofs.Try.f45.ntmps fx45 (Code.at [true, true, true, true, false, false] c45) ⟨g45_1, o45_1, b45_1 rF45⟩ :=
  sub_ok (g := g45_1) (outs := o45_1) (f := b45_1 rF45) (Table.ok (Table.plus T50_ok (g := 45) (es := [⟨gi45, [go45], rF45⟩]) ⟨hF, trivial⟩ []) _) hmix (planAt_ok (P := P) (n := Go.Proofs.Try.f45.ntmps) (fx := fx45) (c := (Code.at [true, true, true, true, false, false] c45)) (d := 64) (l := []) trivial) (b45_1_eq rF45)
noncomputable def r45 (rF45 : gi45.D → Option go45.D) (x : gi45.D) : Option go45.D :=
  (Option.bind (Go.Ev.Matrix.f49 (x.1, (x.2.1, (x.2.2.1, ((Max.max x.2.2.1 x.2.2.2.2.2.1), Unit.unit))))) (fun y1 => (Option.bind (Go.Ev.Matrix.f49 (x.2.2.2.1, (x.2.2.2.2.1, (x.2.2.2.2.2.1, ((Max.max x.2.2.1 x.2.2.2.2.2.1), Unit.unit))))) (fun y2 => (Option.bind ((Go.Ev.Matrix.b45_1 rF45) ((Max.max x.2.2.1 x.2.2.2.2.2.1), (y1.1, (y1.2.1, (y1.2.2.1, (y2.1, (y2.2.1, (y2.2.2.1, (false, ((0 : Int), ([], Unit.unit))))))))))) (Sum.elim (fun y3 => (if (y3.2.1 = true) then (Option.bind (rF45 (y3.2.2.2.2.2.1, (y3.2.2.2.2.2.2.1, (y3.2.2.2.2.2.2.2.1, (y3.2.2.1, (y3.2.2.2.1, (y3.2.2.2.2.1, Unit.unit))))))) (fun y4 => (some (y4.1, (y4.2.1, (y4.2.2.1, Unit.unit))))))
   else (if ((List.length y3.2.2.2.2.2.2.2.2.2.2.1) = (List.length y3.2.2.2.2.2.2.2.2.2.2.1)) then (Option.bind ((Go.Ev.Matrix.l45_2 rF45) ((0 : Int), ((0 : Int), (y3.2.2.1, (y3.2.2.2.1, (y3.2.2.2.2.1, (y3.2.2.2.2.2.1, (y3.2.2.2.2.2.2.1, (y3.2.2.2.2.2.2.2.1, (y3.2.2.2.2.2.2.2.2.1, (y3.2.2.2.2.2.2.2.2.2.1, (y3.2.2.1, (y3.1, (y3.2.2.2.2.2.2.2.2.2.2.1, ([], Unit.unit))))))))))))))) (Sum.elim (fun y4 => (some (y4.2.2.1, ((List.take (List.length y4.2.2.2.2.2.1) (List.drop (0 : Nat) y4.2.2.2.2.2.1)), (y4.2.2.2.1, Unit.unit))))) Empty.elim))
   else none))) Empty.elim))))))
theorem r45_eq (rF45 : gi45.D → Option go45.D) (x : gi45.D) : r45 rF45 x = evF P ((T50.add 45 [⟨gi45, [go45], rF45⟩] []).orc _) Go.Proofs.Try.f45.ntmps fx45 c45 (planAt 64 [([true, true, true, true, false, false], ⟨g45_1, o45_1, b45_1 rF45⟩), ([true, true, true, true, true, true, true, false, true, false], ⟨g45_2, o45_2, l45_2 rF45⟩)]) gi45 x (fnKR P Go.Proofs.Try.f45 fx45 [go45]) := by kernel_rfl
noncomputable def f45 : gi45.D → Option go45.D := recN (gos := [go45]) r45 18446744073709551616
theorem pf45 (rF45 : gi45.D → Option go45.D) (hF : EntOk P 45 ⟨gi45, [go45], rF45⟩) : AllSub P Go.Proofs.Try.f45.ntmps fx45 c45 [([true, true, true, true, false, false], ⟨g45_1, o45_1, b45_1 rF45⟩), ([true, true, true, true, true, true, true, false, true, false], ⟨g45_2, o45_2, l45_2 rF45⟩)] := And.intro (s45_1_ok rF45 hF) (And.intro (s45_2_ok rF45 hF) (trivial))
theorem qf45 (rF45 : gi45.D → Option go45.D) (hF : EntOk P 45 ⟨gi45, [go45], rF45⟩) : PlanOk P Go.Proofs.Try.f45.ntmps fx45 (planAt 64 [([true, true, true, true, false, false], ⟨g45_1, o45_1, b45_1 rF45⟩), ([true, true, true, true, true, true, true, false, true, false], ⟨g45_2, o45_2, l45_2 rF45⟩)]) c45 := planAt_ok (pf45 rF45 hF)
theorem f45_ok : EntOk P 45 ⟨gi45, [go45], f45⟩ := rec_ok (fun rF45 hF => ent_okR (fn := Go.Proofs.Try.f45) (gi := gi45) (gos := [go45]) (f := r45 rF45) (c := c45) (fx := fx45) ⟨Go.Proofs.Try.func45, by kernel_rfl, rfl, by decide +kernel, rfl, rfl⟩ (Table.ok (Table.plus T50_ok (g := 45) (es := [⟨gi45, [go45], rF45⟩]) ⟨hF, trivial⟩ []) _) hmix (qf45 rF45 hF) (r45_eq rF45)) _
noncomputable def T45 : Table := T50.add 45 [⟨gi45, [go45], f45⟩] []
theorem T45_ok : TableOk P T45 := Table.plus T50_ok (es := [⟨gi45, [go45], f45⟩]) ⟨f45_ok, trivial⟩ []

/-! ## 36: erasure/erasureref01.Add -/
noncomputable def c36 : Code := Func.code Go.Proofs.Try.f36
abbrev gi36 : Sg := ⟨[0, 1], [.agg [.lf (.int .i64), .lf (.int .i64)], .agg [.lf (.int .i64), .lf (.int .i64)]], []⟩
abbrev go36 : Sg := ⟨[0, 5], [.agg [.lf (.int .i64), .lf (.int .i64)], .lf (.int .i64)], []⟩
def fx36 : List Bool := []
noncomputable def f36 (x : gi36.D) : Option go36.D :=
  (Option.bind (Go.Ev.Matrix.f23 (x.1, (x.2.1, Unit.unit))) (fun y1 => (if ((Bool.not y1.1) = true) then (some ((0 : Int), ((0 : Int), ((1 : Int), Unit.unit))))
   else (Option.bind (Go.Ev.Matrix.f23 (x.2.2.1, (x.2.2.2.1, Unit.unit))) (fun y2 => (if ((Bool.not y2.1) = true) then (some ((0 : Int), ((0 : Int), ((1 : Int), Unit.unit))))
   else (Option.bind (Go.Ev.Matrix.f43 (x.1, (x.2.1, Unit.unit))) (fun y3 => (Option.bind (Go.Ev.Matrix.f43 (x.2.2.1, (x.2.2.2.1, Unit.unit))) (fun y4 => (Option.bind (Go.Ev.Matrix.f45 (y3.1, (y3.2.1, (y3.2.2.1, (y4.1, (y4.2.1, (y4.2.2.1, Unit.unit))))))) (fun y5 => (Option.bind (Go.Ev.Matrix.f44 (y5.1, (y5.2.1, (y5.2.2.1, Unit.unit)))) (fun y6 => (some (y6.1, (y6.2.1, (y6.2.2.1, Unit.unit))))))))))))))))))
theorem f36_eq (x : gi36.D) : f36 x = evF P (T45.orc _) Go.Proofs.Try.f36.ntmps fx36 c36 (planAt 64 []) gi36 x (fnKR P Go.Proofs.Try.f36 fx36 [go36]) := by kernel_rfl
theorem f36_ok : EntOk P 36 ⟨gi36, [go36], f36⟩ :=
  ent_okR (fn := Go.Proofs.Try.f36) (gi := gi36) (gos := [go36]) (f := f36) (c := c36) (fx := fx36) ⟨Go.Proofs.Try.func36, by kernel_rfl, rfl, by decide +kernel, rfl, rfl⟩ (Table.ok T45_ok _) hmix (planAt_ok (P := P) (n := Go.Proofs.Try.f36.ntmps) (fx := fx36) (c := c36) (d := 64) (l := []) trivial) f36_eq
noncomputable def T36 : Table := T45.add 36 [⟨gi36, [go36], f36⟩] []
theorem T36_ok : TableOk P T36 := Table.plus T45_ok (es := [⟨gi36, [go36], f36⟩]) ⟨f36_ok, trivial⟩ []

/-! ## 24: erasure/erasureref02.Tied -/
noncomputable def c24 : Code := Func.code Go.Proofs.Try.f24
abbrev gi24 : Sg := ⟨[0, 1, 2, 3, 4], [.agg [.lf (.int .i64), .lf (.int .i64)], .agg [.lf (.int .i64), .lf (.int .i64)], .agg [.lf (.int .i64), .lf (.int .i64)], .agg [.lf (.int .i64), .lf (.int .i64)], .agg [.lf (.int .i64), .lf (.int .i64)]], []⟩
abbrev go24 : Sg := ⟨[0, 11], [.agg [.lf (.int .i64), .lf (.int .i64)], .lf .bool], []⟩
def fx24 : List Bool := []
noncomputable def f24 (x : gi24.D) : Option go24.D :=
  (Option.bind (Go.Ev.Matrix.f35 (x.1, (x.2.1, (x.2.2.1, (x.2.2.2.1, Unit.unit))))) (fun y1 => (Option.bind (Go.Ev.Matrix.f35 (x.2.2.2.2.1, (x.2.2.2.2.2.1, (x.2.2.2.2.2.2.1, (x.2.2.2.2.2.2.2.1, Unit.unit))))) (fun y2 => (Option.bind (Go.Ev.Matrix.f36 (y1.1, (y1.2.1, (y2.1, (y2.2.1, Unit.unit))))) (fun y3 => (Option.bind (Go.Ev.Matrix.f36 (y3.1, (y3.2.1, (x.2.2.2.2.2.2.2.2.1, (x.2.2.2.2.2.2.2.2.2.1, Unit.unit))))) (fun y4 => (if ((y1.2.2.1 == (0 : Int)) = true) then (if ((y2.2.2.1 == (0 : Int)) = true) then (if ((y3.2.2.1 == (0 : Int)) = true) then (some (y4.1, (y4.2.1, ((y4.2.2.1 == (0 : Int)), Unit.unit))))
   else (some (y4.1, (y4.2.1, (false, Unit.unit)))))
   else (some (y4.1, (y4.2.1, (false, Unit.unit)))))
   else (some (y4.1, (y4.2.1, (false, Unit.unit)))))))))))))
theorem f24_eq (x : gi24.D) : f24 x = evF P (T36.orc _) Go.Proofs.Try.f24.ntmps fx24 c24 (planAt 64 []) gi24 x (fnKR P Go.Proofs.Try.f24 fx24 [go24]) := by kernel_rfl
theorem f24_ok : EntOk P 24 ⟨gi24, [go24], f24⟩ :=
  ent_okR (fn := Go.Proofs.Try.f24) (gi := gi24) (gos := [go24]) (f := f24) (c := c24) (fx := fx24) ⟨Go.Proofs.Try.func24, by kernel_rfl, rfl, by decide +kernel, rfl, rfl⟩ (Table.ok T36_ok _) hmix (planAt_ok (P := P) (n := Go.Proofs.Try.f24.ntmps) (fx := fx24) (c := c24) (d := 64) (l := []) trivial) f24_eq
noncomputable def T24 : Table := T36.add 24 [⟨gi24, [go24], f24⟩] []
theorem T24_ok : TableOk P T24 := Table.plus T36_ok (es := [⟨gi24, [go24], f24⟩]) ⟨f24_ok, trivial⟩ []

/-! ## 9: erasure/erasureref02.Map -/
noncomputable def c9 : Code := Func.code Go.Proofs.Try.f9
abbrev gi9 : Sg := ⟨[0, 1], [.agg [.lf (.int .i64), .lf (.int .i64), .lf (.int .i64), .lf (.int .i64), .lf (.int .i64), .lf (.int .i64), .lf (.int .i64), .lf (.int .i64), .lf (.int .i64), .lf (.int .i64), .lf (.int .i64), .lf (.int .i64)], .agg [.lf (.int .i64), .lf (.int .i64), .lf (.int .i64), .lf (.int .i64)]], []⟩
abbrev go9 : Sg := ⟨[0, 5], [.agg [.lf (.int .i64), .lf (.int .i64), .lf (.int .i64), .lf (.int .i64)], .lf (.int .i64)], []⟩
def fx9 : List Bool := []
noncomputable def f9 (x : gi9.D) : Option go9.D :=
  (Option.bind (Go.Ev.Matrix.f16 (x.1, (x.2.1, (x.2.2.1, (x.2.2.2.1, (x.2.2.2.2.1, (x.2.2.2.2.2.1, (x.2.2.2.2.2.2.1, (x.2.2.2.2.2.2.2.1, (x.2.2.2.2.2.2.2.2.1, (x.2.2.2.2.2.2.2.2.2.1, (x.2.2.2.2.2.2.2.2.2.2.1, (x.2.2.2.2.2.2.2.2.2.2.2.1, Unit.unit))))))))))))) (fun y1 => (if ((Bool.not y1.1) = true) then (some ((0 : Int), ((0 : Int), ((0 : Int), ((0 : Int), ((1 : Int), Unit.unit))))))
   else (Option.bind (Go.Ev.Matrix.f23 (x.2.2.2.2.2.2.2.2.2.2.2.2.1, (x.2.2.2.2.2.2.2.2.2.2.2.2.2.1, Unit.unit))) (fun y2 => (if ((Bool.not y2.1) = true) then (some ((0 : Int), ((0 : Int), ((0 : Int), ((0 : Int), ((1 : Int), Unit.unit))))))
   else (Option.bind (Go.Ev.Matrix.f23 (x.2.2.2.2.2.2.2.2.2.2.2.2.2.2.1, (x.2.2.2.2.2.2.2.2.2.2.2.2.2.2.2.1, Unit.unit))) (fun y3 => (if ((Bool.not y3.1) = true) then (some ((0 : Int), ((0 : Int), ((0 : Int), ((0 : Int), ((1 : Int), Unit.unit))))))
   else (Option.bind (Go.Ev.Matrix.f24 (x.1, (x.2.1, (x.2.2.2.2.2.2.2.2.2.2.2.2.1, (x.2.2.2.2.2.2.2.2.2.2.2.2.2.1, (x.2.2.2.2.1, (x.2.2.2.2.2.1, (x.2.2.2.2.2.2.2.2.2.2.2.2.2.2.1, (x.2.2.2.2.2.2.2.2.2.2.2.2.2.2.2.1, (x.2.2.2.2.2.2.2.2.1, (x.2.2.2.2.2.2.2.2.2.1, Unit.unit))))))))))) (fun y4 => (Option.bind (Go.Ev.Matrix.f24 (x.2.2.1, (x.2.2.2.1, (x.2.2.2.2.2.2.2.2.2.2.2.2.1, (x.2.2.2.2.2.2.2.2.2.2.2.2.2.1, (x.2.2.2.2.2.2.1, (x.2.2.2.2.2.2.2.1, (x.2.2.2.2.2.2.2.2.2.2.2.2.2.2.1, (x.2.2.2.2.2.2.2.2.2.2.2.2.2.2.2.1, (x.2.2.2.2.2.2.2.2.2.2.1, (x.2.2.2.2.2.2.2.2.2.2.2.1, Unit.unit))))))))))) (fun y5 => (if ((Bool.not y4.2.2.1) = true) then (some ((0 : Int), ((0 : Int), ((0 : Int), ((0 : Int), ((5 : Int), Unit.unit))))))
   else (if ((Bool.not y5.2.2.1) = true) then (some ((0 : Int), ((0 : Int), ((0 : Int), ((0 : Int), ((5 : Int), Unit.unit))))))
   else (some (y4.1, (y4.2.1, (y5.1, (y5.2.1, ((0 : Int), Unit.unit)))))))))))))))))))))
theorem f9_eq (x : gi9.D) : f9 x = evF P (T24.orc _) Go.Proofs.Try.f9.ntmps fx9 c9 (planAt 64 []) gi9 x (fnKR P Go.Proofs.Try.f9 fx9 [go9]) := by kernel_rfl
theorem f9_ok : EntOk P 9 ⟨gi9, [go9], f9⟩ :=
  ent_okR (fn := Go.Proofs.Try.f9) (gi := gi9) (gos := [go9]) (f := f9) (c := c9) (fx := fx9) ⟨Go.Proofs.Try.func9, by kernel_rfl, rfl, by decide +kernel, rfl, rfl⟩ (Table.ok T24_ok _) hmix (planAt_ok (P := P) (n := Go.Proofs.Try.f9.ntmps) (fx := fx9) (c := c9) (d := 64) (l := []) trivial) f9_eq
noncomputable def T9 : Table := T24.add 9 [⟨gi9, [go9], f9⟩] []
theorem T9_ok : TableOk P T9 := Table.plus T24_ok (es := [⟨gi9, [go9], f9⟩]) ⟨f9_ok, trivial⟩ []

/-! ## 10: erasure/matrix.Then -/
noncomputable def c10 : Code := Func.code Go.Proofs.Try.f10
abbrev gi10 : Sg := ⟨[0, 1], [.agg [.lf (.int .i64), .lf (.int .i64), .lf (.int .i64), .lf (.int .i64), .lf (.int .i64), .lf (.int .i64), .lf (.int .i64), .lf (.int .i64), .lf (.int .i64), .lf (.int .i64), .lf (.int .i64), .lf (.int .i64)], .agg [.lf (.int .i64), .lf (.int .i64), .lf (.int .i64), .lf (.int .i64), .lf (.int .i64), .lf (.int .i64), .lf (.int .i64), .lf (.int .i64), .lf (.int .i64), .lf (.int .i64), .lf (.int .i64), .lf (.int .i64)]], []⟩
abbrev go10 : Sg := ⟨[0, 5], [.agg [.lf (.int .i64), .lf (.int .i64), .lf (.int .i64), .lf (.int .i64), .lf (.int .i64), .lf (.int .i64), .lf (.int .i64), .lf (.int .i64), .lf (.int .i64), .lf (.int .i64), .lf (.int .i64), .lf (.int .i64)], .lf (.int .i64)], []⟩
def fx10 : List Bool := []
noncomputable def f10 (x : gi10.D) : Option go10.D :=
  (Option.bind (Go.Ev.Matrix.f15 (x.1, (x.2.1, (x.2.2.1, (x.2.2.2.1, (x.2.2.2.2.1, (x.2.2.2.2.2.1, (x.2.2.2.2.2.2.1, (x.2.2.2.2.2.2.2.1, (x.2.2.2.2.2.2.2.2.1, (x.2.2.2.2.2.2.2.2.2.1, (x.2.2.2.2.2.2.2.2.2.2.1, (x.2.2.2.2.2.2.2.2.2.2.2.1, Unit.unit))))))))))))) (fun y1 => (if ((y1.1 != (0 : Int)) = true) then (some ((0 : Int), ((0 : Int), ((0 : Int), ((0 : Int), ((0 : Int), ((0 : Int), ((0 : Int), ((0 : Int), ((0 : Int), ((0 : Int), ((0 : Int), ((0 : Int), ((1 : Int), Unit.unit))))))))))))))
   else (Option.bind (Go.Ev.Matrix.f15 (x.2.2.2.2.2.2.2.2.2.2.2.2.1, (x.2.2.2.2.2.2.2.2.2.2.2.2.2.1, (x.2.2.2.2.2.2.2.2.2.2.2.2.2.2.1, (x.2.2.2.2.2.2.2.2.2.2.2.2.2.2.2.1, (x.2.2.2.2.2.2.2.2.2.2.2.2.2.2.2.2.1, (x.2.2.2.2.2.2.2.2.2.2.2.2.2.2.2.2.2.1, (x.2.2.2.2.2.2.2.2.2.2.2.2.2.2.2.2.2.2.1, (x.2.2.2.2.2.2.2.2.2.2.2.2.2.2.2.2.2.2.2.1, (x.2.2.2.2.2.2.2.2.2.2.2.2.2.2.2.2.2.2.2.2.1, (x.2.2.2.2.2.2.2.2.2.2.2.2.2.2.2.2.2.2.2.2.2.1, (x.2.2.2.2.2.2.2.2.2.2.2.2.2.2.2.2.2.2.2.2.2.2.1, (x.2.2.2.2.2.2.2.2.2.2.2.2.2.2.2.2.2.2.2.2.2.2.2.1, Unit.unit))))))))))))) (fun y2 => (if ((y2.1 != (0 : Int)) = true) then (some ((0 : Int), ((0 : Int), ((0 : Int), ((0 : Int), ((0 : Int), ((0 : Int), ((0 : Int), ((0 : Int), ((0 : Int), ((0 : Int), ((0 : Int), ((0 : Int), ((1 : Int), Unit.unit))))))))))))))
   else (Option.bind (Go.Ev.Matrix.f22 Unit.unit) (fun y3 => (Option.bind (Go.Ev.Matrix.f32 (x.1, (x.2.1, (x.2.2.2.2.2.2.2.2.2.2.2.2.1, (x.2.2.2.2.2.2.2.2.2.2.2.2.2.1, (x.2.2.1, (x.2.2.2.1, (x.2.2.2.2.2.2.2.2.2.2.2.2.2.2.2.2.1, (x.2.2.2.2.2.2.2.2.2.2.2.2.2.2.2.2.2.1, ((0 : Int), ((0 : Int), (y3.1, Unit.unit)))))))))))) (fun y4 => (Option.bind (Go.Ev.Matrix.f32 (x.1, (x.2.1, (x.2.2.2.2.2.2.2.2.2.2.2.2.2.2.1, (x.2.2.2.2.2.2.2.2.2.2.2.2.2.2.2.1, (x.2.2.1, (x.2.2.2.1, (x.2.2.2.2.2.2.2.2.2.2.2.2.2.2.2.2.2.2.1, (x.2.2.2.2.2.2.2.2.2.2.2.2.2.2.2.2.2.2.2.1, ((0 : Int), ((0 : Int), (y4.2.2.1, Unit.unit)))))))))))) (fun y5 => (Option.bind (Go.Ev.Matrix.f32 (x.2.2.2.2.1, (x.2.2.2.2.2.1, (x.2.2.2.2.2.2.2.2.2.2.2.2.1, (x.2.2.2.2.2.2.2.2.2.2.2.2.2.1, (x.2.2.2.2.2.2.1, (x.2.2.2.2.2.2.2.1, (x.2.2.2.2.2.2.2.2.2.2.2.2.2.2.2.2.1, (x.2.2.2.2.2.2.2.2.2.2.2.2.2.2.2.2.2.1, ((0 : Int), ((0 : Int), (y5.2.2.1, Unit.unit)))))))))))) (fun y6 => (Option.bind (Go.Ev.Matrix.f32 (x.2.2.2.2.1, (x.2.2.2.2.2.1, (x.2.2.2.2.2.2.2.2.2.2.2.2.2.2.1, (x.2.2.2.2.2.2.2.2.2.2.2.2.2.2.2.1, (x.2.2.2.2.2.2.1, (x.2.2.2.2.2.2.2.1, (x.2.2.2.2.2.2.2.2.2.2.2.2.2.2.2.2.2.2.1, (x.2.2.2.2.2.2.2.2.2.2.2.2.2.2.2.2.2.2.2.1, ((0 : Int), ((0 : Int), (y6.2.2.1, Unit.unit)))))))))))) (fun y7 => (Option.bind (Go.Ev.Matrix.f32 (x.2.2.2.2.2.2.2.2.1, (x.2.2.2.2.2.2.2.2.2.1, (x.2.2.2.2.2.2.2.2.2.2.2.2.1, (x.2.2.2.2.2.2.2.2.2.2.2.2.2.1, (x.2.2.2.2.2.2.2.2.2.2.1, (x.2.2.2.2.2.2.2.2.2.2.2.1, (x.2.2.2.2.2.2.2.2.2.2.2.2.2.2.2.2.1, (x.2.2.2.2.2.2.2.2.2.2.2.2.2.2.2.2.2.1, (x.2.2.2.2.2.2.2.2.2.2.2.2.2.2.2.2.2.2.2.2.1, (x.2.2.2.2.2.2.2.2.2.2.2.2.2.2.2.2.2.2.2.2.2.1, (y7.2.2.1, Unit.unit)))))))))))) (fun y8 => (Option.bind (Go.Ev.Matrix.f32 (x.2.2.2.2.2.2.2.2.1, (x.2.2.2.2.2.2.2.2.2.1, (x.2.2.2.2.2.2.2.2.2.2.2.2.2.2.1, (x.2.2.2.2.2.2.2.2.2.2.2.2.2.2.2.1, (x.2.2.2.2.2.2.2.2.2.2.1, (x.2.2.2.2.2.2.2.2.2.2.2.1, (x.2.2.2.2.2.2.2.2.2.2.2.2.2.2.2.2.2.2.1, (x.2.2.2.2.2.2.2.2.2.2.2.2.2.2.2.2.2.2.2.1, (x.2.2.2.2.2.2.2.2.2.2.2.2.2.2.2.2.2.2.2.2.2.2.1, (x.2.2.2.2.2.2.2.2.2.2.2.2.2.2.2.2.2.2.2.2.2.2.2.1, (y8.2.2.1, Unit.unit)))))))))))) (fun y9 => (Option.bind (Go.Ev.Matrix.f34 (y9.2.2.1, Unit.unit)) (fun y10 => (if ((y10.1 != (0 : Int)) = true) then (some ((0 : Int), ((0 : Int), ((0 : Int), ((0 : Int), ((0 : Int), ((0 : Int), ((0 : Int), ((0 : Int), ((0 : Int), ((0 : Int), ((0 : Int), ((0 : Int), (y10.1, Unit.unit))))))))))))))
   else (some (y4.1, (y4.2.1, (y5.1, (y5.2.1, (y6.1, (y6.2.1, (y7.1, (y7.2.1, (y8.1, (y8.2.1, (y9.1, (y9.2.1, ((0 : Int), Unit.unit)))))))))))))))))))))))))))))))))))))
theorem f10_eq (x : gi10.D) : f10 x = evF P (T9.orc _) Go.Proofs.Try.f10.ntmps fx10 c10 (planAt 64 []) gi10 x (fnKR P Go.Proofs.Try.f10 fx10 [go10]) := by kernel_rfl
theorem f10_ok : EntOk P 10 ⟨gi10, [go10], f10⟩ :=
  ent_okR (fn := Go.Proofs.Try.f10) (gi := gi10) (gos := [go10]) (f := f10) (c := c10) (fx := fx10) ⟨Go.Proofs.Try.func10, by kernel_rfl, rfl, by decide +kernel, rfl, rfl⟩ (Table.ok T9_ok _) hmix (planAt_ok (P := P) (n := Go.Proofs.Try.f10.ntmps) (fx := fx10) (c := c10) (d := 64) (l := []) trivial) f10_eq
noncomputable def T10 : Table := T9.add 10 [⟨gi10, [go10], f10⟩] []
theorem T10_ok : TableOk P T10 := Table.plus T9_ok (es := [⟨gi10, [go10], f10⟩]) ⟨f10_ok, trivial⟩ []

/-! ## 11: erasure/erasureref02.Then -/
noncomputable def c11 : Code := Func.code Go.Proofs.Try.f11
abbrev gi11 : Sg := ⟨[0, 1], [.agg [.lf (.int .i64), .lf (.int .i64), .lf (.int .i64), .lf (.int .i64), .lf (.int .i64), .lf (.int .i64), .lf (.int .i64), .lf (.int .i64), .lf (.int .i64), .lf (.int .i64), .lf (.int .i64), .lf (.int .i64)], .agg [.lf (.int .i64), .lf (.int .i64), .lf (.int .i64), .lf (.int .i64), .lf (.int .i64), .lf (.int .i64), .lf (.int .i64), .lf (.int .i64), .lf (.int .i64), .lf (.int .i64), .lf (.int .i64), .lf (.int .i64)]], []⟩
abbrev go11 : Sg := ⟨[0, 5], [.agg [.lf (.int .i64), .lf (.int .i64), .lf (.int .i64), .lf (.int .i64), .lf (.int .i64), .lf (.int .i64), .lf (.int .i64), .lf (.int .i64), .lf (.int .i64), .lf (.int .i64), .lf (.int .i64), .lf (.int .i64)], .lf (.int .i64)], []⟩
def fx11 : List Bool := []
noncomputable def f11 (x : gi11.D) : Option go11.D :=
  (Option.bind (Go.Ev.Matrix.f16 (x.1, (x.2.1, (x.2.2.1, (x.2.2.2.1, (x.2.2.2.2.1, (x.2.2.2.2.2.1, (x.2.2.2.2.2.2.1, (x.2.2.2.2.2.2.2.1, (x.2.2.2.2.2.2.2.2.1, (x.2.2.2.2.2.2.2.2.2.1, (x.2.2.2.2.2.2.2.2.2.2.1, (x.2.2.2.2.2.2.2.2.2.2.2.1, Unit.unit))))))))))))) (fun y1 => (if ((Bool.not y1.1) = true) then (some ((0 : Int), ((0 : Int), ((0 : Int), ((0 : Int), ((0 : Int), ((0 : Int), ((0 : Int), ((0 : Int), ((0 : Int), ((0 : Int), ((0 : Int), ((0 : Int), ((1 : Int), Unit.unit))))))))))))))
   else (Option.bind (Go.Ev.Matrix.f16 (x.2.2.2.2.2.2.2.2.2.2.2.2.1, (x.2.2.2.2.2.2.2.2.2.2.2.2.2.1, (x.2.2.2.2.2.2.2.2.2.2.2.2.2.2.1, (x.2.2.2.2.2.2.2.2.2.2.2.2.2.2.2.1, (x.2.2.2.2.2.2.2.2.2.2.2.2.2.2.2.2.1, (x.2.2.2.2.2.2.2.2.2.2.2.2.2.2.2.2.2.1, (x.2.2.2.2.2.2.2.2.2.2.2.2.2.2.2.2.2.2.1, (x.2.2.2.2.2.2.2.2.2.2.2.2.2.2.2.2.2.2.2.1, (x.2.2.2.2.2.2.2.2.2.2.2.2.2.2.2.2.2.2.2.2.1, (x.2.2.2.2.2.2.2.2.2.2.2.2.2.2.2.2.2.2.2.2.2.1, (x.2.2.2.2.2.2.2.2.2.2.2.2.2.2.2.2.2.2.2.2.2.2.1, (x.2.2.2.2.2.2.2.2.2.2.2.2.2.2.2.2.2.2.2.2.2.2.2.1, Unit.unit))))))))))))) (fun y2 => (if ((Bool.not y2.1) = true) then (some ((0 : Int), ((0 : Int), ((0 : Int), ((0 : Int), ((0 : Int), ((0 : Int), ((0 : Int), ((0 : Int), ((0 : Int), ((0 : Int), ((0 : Int), ((0 : Int), ((1 : Int), Unit.unit))))))))))))))
   else (Option.bind (Go.Ev.Matrix.f24 (x.1, (x.2.1, (x.2.2.2.2.2.2.2.2.2.2.2.2.1, (x.2.2.2.2.2.2.2.2.2.2.2.2.2.1, (x.2.2.1, (x.2.2.2.1, (x.2.2.2.2.2.2.2.2.2.2.2.2.2.2.2.2.1, (x.2.2.2.2.2.2.2.2.2.2.2.2.2.2.2.2.2.1, ((0 : Int), ((0 : Int), Unit.unit))))))))))) (fun y3 => (Option.bind (Go.Ev.Matrix.f24 (x.1, (x.2.1, (x.2.2.2.2.2.2.2.2.2.2.2.2.2.2.1, (x.2.2.2.2.2.2.2.2.2.2.2.2.2.2.2.1, (x.2.2.1, (x.2.2.2.1, (x.2.2.2.2.2.2.2.2.2.2.2.2.2.2.2.2.2.2.1, (x.2.2.2.2.2.2.2.2.2.2.2.2.2.2.2.2.2.2.2.1, ((0 : Int), ((0 : Int), Unit.unit))))))))))) (fun y4 => (Option.bind (Go.Ev.Matrix.f24 (x.2.2.2.2.1, (x.2.2.2.2.2.1, (x.2.2.2.2.2.2.2.2.2.2.2.2.1, (x.2.2.2.2.2.2.2.2.2.2.2.2.2.1, (x.2.2.2.2.2.2.1, (x.2.2.2.2.2.2.2.1, (x.2.2.2.2.2.2.2.2.2.2.2.2.2.2.2.2.1, (x.2.2.2.2.2.2.2.2.2.2.2.2.2.2.2.2.2.1, ((0 : Int), ((0 : Int), Unit.unit))))))))))) (fun y5 => (Option.bind (Go.Ev.Matrix.f24 (x.2.2.2.2.1, (x.2.2.2.2.2.1, (x.2.2.2.2.2.2.2.2.2.2.2.2.2.2.1, (x.2.2.2.2.2.2.2.2.2.2.2.2.2.2.2.1, (x.2.2.2.2.2.2.1, (x.2.2.2.2.2.2.2.1, (x.2.2.2.2.2.2.2.2.2.2.2.2.2.2.2.2.2.2.1, (x.2.2.2.2.2.2.2.2.2.2.2.2.2.2.2.2.2.2.2.1, ((0 : Int), ((0 : Int), Unit.unit))))))))))) (fun y6 => (Option.bind (Go.Ev.Matrix.f24 (x.2.2.2.2.2.2.2.2.1, (x.2.2.2.2.2.2.2.2.2.1, (x.2.2.2.2.2.2.2.2.2.2.2.2.1, (x.2.2.2.2.2.2.2.2.2.2.2.2.2.1, (x.2.2.2.2.2.2.2.2.2.2.1, (x.2.2.2.2.2.2.2.2.2.2.2.1, (x.2.2.2.2.2.2.2.2.2.2.2.2.2.2.2.2.1, (x.2.2.2.2.2.2.2.2.2.2.2.2.2.2.2.2.2.1, (x.2.2.2.2.2.2.2.2.2.2.2.2.2.2.2.2.2.2.2.2.1, (x.2.2.2.2.2.2.2.2.2.2.2.2.2.2.2.2.2.2.2.2.2.1, Unit.unit))))))))))) (fun y7 => (Option.bind (Go.Ev.Matrix.f24 (x.2.2.2.2.2.2.2.2.1, (x.2.2.2.2.2.2.2.2.2.1, (x.2.2.2.2.2.2.2.2.2.2.2.2.2.2.1, (x.2.2.2.2.2.2.2.2.2.2.2.2.2.2.2.1, (x.2.2.2.2.2.2.2.2.2.2.1, (x.2.2.2.2.2.2.2.2.2.2.2.1, (x.2.2.2.2.2.2.2.2.2.2.2.2.2.2.2.2.2.2.1, (x.2.2.2.2.2.2.2.2.2.2.2.2.2.2.2.2.2.2.2.1, (x.2.2.2.2.2.2.2.2.2.2.2.2.2.2.2.2.2.2.2.2.2.2.1, (x.2.2.2.2.2.2.2.2.2.2.2.2.2.2.2.2.2.2.2.2.2.2.2.1, Unit.unit))))))))))) (fun y8 => (if ((Bool.not y3.2.2.1) = true) then (some ((0 : Int), ((0 : Int), ((0 : Int), ((0 : Int), ((0 : Int), ((0 : Int), ((0 : Int), ((0 : Int), ((0 : Int), ((0 : Int), ((0 : Int), ((0 : Int), ((5 : Int), Unit.unit))))))))))))))
   else (if ((Bool.not y4.2.2.1) = true) then (some ((0 : Int), ((0 : Int), ((0 : Int), ((0 : Int), ((0 : Int), ((0 : Int), ((0 : Int), ((0 : Int), ((0 : Int), ((0 : Int), ((0 : Int), ((0 : Int), ((5 : Int), Unit.unit))))))))))))))
   else (if ((Bool.not y5.2.2.1) = true) then (some ((0 : Int), ((0 : Int), ((0 : Int), ((0 : Int), ((0 : Int), ((0 : Int), ((0 : Int), ((0 : Int), ((0 : Int), ((0 : Int), ((0 : Int), ((0 : Int), ((5 : Int), Unit.unit))))))))))))))
   else (if ((Bool.not y6.2.2.1) = true) then (some ((0 : Int), ((0 : Int), ((0 : Int), ((0 : Int), ((0 : Int), ((0 : Int), ((0 : Int), ((0 : Int), ((0 : Int), ((0 : Int), ((0 : Int), ((0 : Int), ((5 : Int), Unit.unit))))))))))))))
   else (if ((Bool.not y7.2.2.1) = true) then (some ((0 : Int), ((0 : Int), ((0 : Int), ((0 : Int), ((0 : Int), ((0 : Int), ((0 : Int), ((0 : Int), ((0 : Int), ((0 : Int), ((0 : Int), ((0 : Int), ((5 : Int), Unit.unit))))))))))))))
   else (if ((Bool.not y8.2.2.1) = true) then (some ((0 : Int), ((0 : Int), ((0 : Int), ((0 : Int), ((0 : Int), ((0 : Int), ((0 : Int), ((0 : Int), ((0 : Int), ((0 : Int), ((0 : Int), ((0 : Int), ((5 : Int), Unit.unit))))))))))))))
   else (some (y3.1, (y3.2.1, (y4.1, (y4.2.1, (y5.1, (y5.2.1, (y6.1, (y6.2.1, (y7.1, (y7.2.1, (y8.1, (y8.2.1, ((0 : Int), Unit.unit))))))))))))))))))))))))))))))))))))))
theorem f11_eq (x : gi11.D) : f11 x = evF P (T10.orc _) Go.Proofs.Try.f11.ntmps fx11 c11 (planAt 64 []) gi11 x (fnKR P Go.Proofs.Try.f11 fx11 [go11]) := by kernel_rfl
theorem f11_ok : EntOk P 11 ⟨gi11, [go11], f11⟩ :=
  ent_okR (fn := Go.Proofs.Try.f11) (gi := gi11) (gos := [go11]) (f := f11) (c := c11) (fx := fx11) ⟨Go.Proofs.Try.func11, by kernel_rfl, rfl, by decide +kernel, rfl, rfl⟩ (Table.ok T10_ok _) hmix (planAt_ok (P := P) (n := Go.Proofs.Try.f11.ntmps) (fx := fx11) (c := c11) (d := 64) (l := []) trivial) f11_eq
noncomputable def T11 : Table := T10.add 11 [⟨gi11, [go11], f11⟩] []
theorem T11_ok : TableOk P T11 := Table.plus T10_ok (es := [⟨gi11, [go11], f11⟩]) ⟨f11_ok, trivial⟩ []

/-! ## 17: erasure/matrix.One -/
noncomputable def c17 : Code := Func.code Go.Proofs.Try.f17
abbrev gi17 : Sg := ⟨[], [], []⟩
abbrev go17 : Sg := ⟨[0], [.agg [.lf (.int .i64), .lf (.int .i64), .lf (.int .i64), .lf (.int .i64), .lf (.int .i64), .lf (.int .i64), .lf (.int .i64), .lf (.int .i64), .lf (.int .i64), .lf (.int .i64), .lf (.int .i64), .lf (.int .i64)]], []⟩
def fx17 : List Bool := []
noncomputable def f17 (_ : gi17.D) : Option go17.D :=
  (some ((1 : Int), ((0 : Int), ((0 : Int), ((0 : Int), ((0 : Int), ((0 : Int), ((1 : Int), ((0 : Int), ((0 : Int), ((0 : Int), ((0 : Int), ((0 : Int), Unit.unit)))))))))))))
theorem f17_eq (x : gi17.D) : f17 x = evF P (T11.orc _) Go.Proofs.Try.f17.ntmps fx17 c17 (planAt 64 []) gi17 x (fnKR P Go.Proofs.Try.f17 fx17 [go17]) := by kernel_rfl
theorem f17_ok : EntOk P 17 ⟨gi17, [go17], f17⟩ :=
  ent_okR (fn := Go.Proofs.Try.f17) (gi := gi17) (gos := [go17]) (f := f17) (c := c17) (fx := fx17) ⟨Go.Proofs.Try.func17, by kernel_rfl, rfl, by decide +kernel, rfl, rfl⟩ (Table.ok T11_ok _) hmix (planAt_ok (P := P) (n := Go.Proofs.Try.f17.ntmps) (fx := fx17) (c := c17) (d := 64) (l := []) trivial) f17_eq
noncomputable def T17 : Table := T11.add 17 [⟨gi17, [go17], f17⟩] []
theorem T17_ok : TableOk P T17 := Table.plus T11_ok (es := [⟨gi17, [go17], f17⟩]) ⟨f17_ok, trivial⟩ []

/-! ## 12: erasure/matrix.Step -/
noncomputable def c12 : Code := Func.code Go.Proofs.Try.f12
abbrev gi12 : Sg := ⟨[0, 1], [.agg [.lf (.int .i64), .lf (.int .i64)], .agg [.lf (.int .i64), .lf (.int .i64)]], []⟩
abbrev go12 : Sg := ⟨[0, 5], [.agg [.lf (.int .i64), .lf (.int .i64), .lf (.int .i64), .lf (.int .i64), .lf (.int .i64), .lf (.int .i64), .lf (.int .i64), .lf (.int .i64), .lf (.int .i64), .lf (.int .i64), .lf (.int .i64), .lf (.int .i64)], .lf (.int .i64)], []⟩
def fx12 : List Bool := []
noncomputable def f12 (x : gi12.D) : Option go12.D :=
  (Option.bind (Go.Ev.Matrix.f21 ((List.take (2 : Nat) (List.drop (0 : Nat) (List.set (List.set (List.replicate (2 : Nat) ((0 : Int), (0 : Int))) (0 : Nat) (x.1, x.2.1)) (1 : Nat) (x.2.2.1, x.2.2.2.1)))), Unit.unit)) (fun y1 => (if ((Bool.not y1.1) = true) then (some ((0 : Int), ((0 : Int), ((0 : Int), ((0 : Int), ((0 : Int), ((0 : Int), ((0 : Int), ((0 : Int), ((0 : Int), ((0 : Int), ((0 : Int), ((0 : Int), ((1 : Int), Unit.unit))))))))))))))
   else (Option.bind (Go.Ev.Matrix.f17 Unit.unit) (fun y2 => (some (y2.1, (y2.2.1, (y2.2.2.1, (y2.2.2.2.1, (y2.2.2.2.2.1, (y2.2.2.2.2.2.1, (y2.2.2.2.2.2.2.1, (y2.2.2.2.2.2.2.2.1, (x.1, (x.2.1, (x.2.2.1, (x.2.2.2.1, ((0 : Int), Unit.unit)))))))))))))))))))
theorem f12_eq (x : gi12.D) : f12 x = evF P (T17.orc _) Go.Proofs.Try.f12.ntmps fx12 c12 (planAt 64 []) gi12 x (fnKR P Go.Proofs.Try.f12 fx12 [go12]) := by kernel_rfl
theorem f12_ok : EntOk P 12 ⟨gi12, [go12], f12⟩ :=
  ent_okR (fn := Go.Proofs.Try.f12) (gi := gi12) (gos := [go12]) (f := f12) (c := c12) (fx := fx12) ⟨Go.Proofs.Try.func12, by kernel_rfl, rfl, by decide +kernel, rfl, rfl⟩ (Table.ok T17_ok _) hmix (planAt_ok (P := P) (n := Go.Proofs.Try.f12.ntmps) (fx := fx12) (c := c12) (d := 64) (l := []) trivial) f12_eq
noncomputable def T12 : Table := T17.add 12 [⟨gi12, [go12], f12⟩] []
theorem T12_ok : TableOk P T12 := Table.plus T17_ok (es := [⟨gi12, [go12], f12⟩]) ⟨f12_ok, trivial⟩ []

/-! ## 18: erasure/erasureref02.One -/
noncomputable def c18 : Code := Func.code Go.Proofs.Try.f18
abbrev gi18 : Sg := ⟨[], [], []⟩
abbrev go18 : Sg := ⟨[0], [.agg [.lf (.int .i64), .lf (.int .i64), .lf (.int .i64), .lf (.int .i64), .lf (.int .i64), .lf (.int .i64), .lf (.int .i64), .lf (.int .i64), .lf (.int .i64), .lf (.int .i64), .lf (.int .i64), .lf (.int .i64)]], []⟩
def fx18 : List Bool := []
noncomputable def f18 (_ : gi18.D) : Option go18.D :=
  (some ((1 : Int), ((0 : Int), ((0 : Int), ((0 : Int), ((0 : Int), ((0 : Int), ((1 : Int), ((0 : Int), ((0 : Int), ((0 : Int), ((0 : Int), ((0 : Int), Unit.unit)))))))))))))
theorem f18_eq (x : gi18.D) : f18 x = evF P (T12.orc _) Go.Proofs.Try.f18.ntmps fx18 c18 (planAt 64 []) gi18 x (fnKR P Go.Proofs.Try.f18 fx18 [go18]) := by kernel_rfl
theorem f18_ok : EntOk P 18 ⟨gi18, [go18], f18⟩ :=
  ent_okR (fn := Go.Proofs.Try.f18) (gi := gi18) (gos := [go18]) (f := f18) (c := c18) (fx := fx18) ⟨Go.Proofs.Try.func18, by kernel_rfl, rfl, by decide +kernel, rfl, rfl⟩ (Table.ok T12_ok _) hmix (planAt_ok (P := P) (n := Go.Proofs.Try.f18.ntmps) (fx := fx18) (c := c18) (d := 64) (l := []) trivial) f18_eq
noncomputable def T18 : Table := T12.add 18 [⟨gi18, [go18], f18⟩] []
theorem T18_ok : TableOk P T18 := Table.plus T12_ok (es := [⟨gi18, [go18], f18⟩]) ⟨f18_ok, trivial⟩ []

/-! ## 13: erasure/erasureref02.Step -/
noncomputable def c13 : Code := Func.code Go.Proofs.Try.f13
abbrev gi13 : Sg := ⟨[0, 1], [.agg [.lf (.int .i64), .lf (.int .i64)], .agg [.lf (.int .i64), .lf (.int .i64)]], []⟩
abbrev go13 : Sg := ⟨[0, 5], [.agg [.lf (.int .i64), .lf (.int .i64), .lf (.int .i64), .lf (.int .i64), .lf (.int .i64), .lf (.int .i64), .lf (.int .i64), .lf (.int .i64), .lf (.int .i64), .lf (.int .i64), .lf (.int .i64), .lf (.int .i64)], .lf (.int .i64)], []⟩
def fx13 : List Bool := []
noncomputable def f13 (x : gi13.D) : Option go13.D :=
  (Option.bind (Go.Ev.Matrix.f23 (x.1, (x.2.1, Unit.unit))) (fun y1 => (if ((Bool.not y1.1) = true) then (some ((0 : Int), ((0 : Int), ((0 : Int), ((0 : Int), ((0 : Int), ((0 : Int), ((0 : Int), ((0 : Int), ((0 : Int), ((0 : Int), ((0 : Int), ((0 : Int), ((1 : Int), Unit.unit))))))))))))))
   else (Option.bind (Go.Ev.Matrix.f23 (x.2.2.1, (x.2.2.2.1, Unit.unit))) (fun y2 => (if ((Bool.not y2.1) = true) then (some ((0 : Int), ((0 : Int), ((0 : Int), ((0 : Int), ((0 : Int), ((0 : Int), ((0 : Int), ((0 : Int), ((0 : Int), ((0 : Int), ((0 : Int), ((0 : Int), ((1 : Int), Unit.unit))))))))))))))
   else (Option.bind (Go.Ev.Matrix.f18 Unit.unit) (fun y3 => (some (y3.1, (y3.2.1, (y3.2.2.1, (y3.2.2.2.1, (y3.2.2.2.2.1, (y3.2.2.2.2.2.1, (y3.2.2.2.2.2.2.1, (y3.2.2.2.2.2.2.2.1, (x.1, (x.2.1, (x.2.2.1, (x.2.2.2.1, ((0 : Int), Unit.unit))))))))))))))))))))))
theorem f13_eq (x : gi13.D) : f13 x = evF P (T18.orc _) Go.Proofs.Try.f13.ntmps fx13 c13 (planAt 64 []) gi13 x (fnKR P Go.Proofs.Try.f13 fx13 [go13]) := by kernel_rfl
theorem f13_ok : EntOk P 13 ⟨gi13, [go13], f13⟩ :=
  ent_okR (fn := Go.Proofs.Try.f13) (gi := gi13) (gos := [go13]) (f := f13) (c := c13) (fx := fx13) ⟨Go.Proofs.Try.func13, by kernel_rfl, rfl, by decide +kernel, rfl, rfl⟩ (Table.ok T18_ok _) hmix (planAt_ok (P := P) (n := Go.Proofs.Try.f13.ntmps) (fx := fx13) (c := c13) (d := 64) (l := []) trivial) f13_eq
noncomputable def T13 : Table := T18.add 13 [⟨gi13, [go13], f13⟩] []
theorem T13_ok : TableOk P T13 := Table.plus T18_ok (es := [⟨gi13, [go13], f13⟩]) ⟨f13_ok, trivial⟩ []

/-! ## 25: erasure/erasurelaw02.whole -/
noncomputable def c25 : Code := Func.code Go.Proofs.Try.f25
abbrev gi25 : Sg := ⟨[0], [.lf (.int .i64)], []⟩
abbrev go25 : Sg := ⟨[0], [.agg [.lf (.int .i64), .lf (.int .i64)]], []⟩
def fx25 : List Bool := []
noncomputable def f25 (x : gi25.D) : Option go25.D :=
  (some (x.1, ((0 : Int), Unit.unit)))
theorem f25_eq (x : gi25.D) : f25 x = evF P (T13.orc _) Go.Proofs.Try.f25.ntmps fx25 c25 (planAt 64 []) gi25 x (fnKR P Go.Proofs.Try.f25 fx25 [go25]) := by kernel_rfl
theorem f25_ok : EntOk P 25 ⟨gi25, [go25], f25⟩ :=
  ent_okR (fn := Go.Proofs.Try.f25) (gi := gi25) (gos := [go25]) (f := f25) (c := c25) (fx := fx25) ⟨Go.Proofs.Try.func25, by kernel_rfl, rfl, by decide +kernel, rfl, rfl⟩ (Table.ok T13_ok _) hmix (planAt_ok (P := P) (n := Go.Proofs.Try.f25.ntmps) (fx := fx25) (c := c25) (d := 64) (l := []) trivial) f25_eq
noncomputable def T25 : Table := T13.add 25 [⟨gi25, [go25], f25⟩] []
theorem T25_ok : TableOk P T25 := Table.plus T13_ok (es := [⟨gi25, [go25], f25⟩]) ⟨f25_ok, trivial⟩ []

/-! ## 14: erasure/erasurelaw02.awake -/
noncomputable def c14 : Code := Func.code Go.Proofs.Try.f14
abbrev gi14 : Sg := ⟨[], [], []⟩
abbrev go14 : Sg := ⟨[0], [.lf .bool], []⟩
def fx14 : List Bool := []
noncomputable def f14 (_ : gi14.D) : Option go14.D :=
  (Option.bind (Go.Ev.Matrix.f25 ((2 : Int), Unit.unit)) (fun y1 => (Option.bind (Go.Ev.Matrix.f25 ((2 : Int), Unit.unit)) (fun y2 => (Option.bind (Go.Ev.Matrix.f25 ((1 : Int), Unit.unit)) (fun y3 => (Option.bind (Go.Ev.Matrix.f25 ((1 : Int), Unit.unit)) (fun y4 => (Option.bind (Go.Ev.Matrix.f25 ((3 : Int), Unit.unit)) (fun y5 => (Option.bind (Go.Ev.Matrix.f25 ((4 : Int), Unit.unit)) (fun y6 => (Option.bind (Go.Ev.Matrix.f8 (y1.1, (y1.2.1, ((0 : Int), ((0 : Int), ((0 : Int), ((0 : Int), (y2.1, (y2.2.1, (y3.1, (y3.2.1, (y4.1, (y4.2.1, (y5.1, (y5.2.1, (y6.1, (y6.2.1, Unit.unit))))))))))))))))) (fun y7 => (Option.bind (Go.Ev.Matrix.f25 ((1 : Int), Unit.unit)) (fun y8 => (Option.bind (Go.Ev.Matrix.f25 ((0 : Int), Unit.unit)) (fun y9 => (Option.bind (Go.Ev.Matrix.f12 (y8.1, (y8.2.1, (y9.1, (y9.2.1, Unit.unit))))) (fun y10 => (Option.bind (Go.Ev.Matrix.f25 ((2 : Int), Unit.unit)) (fun y11 => (Option.bind (Go.Ev.Matrix.f25 ((2 : Int), Unit.unit)) (fun y12 => (Option.bind (Go.Ev.Matrix.f10 (y10.1, (y10.2.1, (y10.2.2.1, (y10.2.2.2.1, (y10.2.2.2.2.1, (y10.2.2.2.2.2.1, (y10.2.2.2.2.2.2.1, (y10.2.2.2.2.2.2.2.1, (y10.2.2.2.2.2.2.2.2.1, (y10.2.2.2.2.2.2.2.2.2.1, (y10.2.2.2.2.2.2.2.2.2.2.1, (y10.2.2.2.2.2.2.2.2.2.2.2.1, (y11.1, (y11.2.1, ((0 : Int), ((0 : Int), ((0 : Int), ((0 : Int), (y12.1, (y12.2.1, ((0 : Int), ((0 : Int), ((0 : Int), ((0 : Int), Unit.unit))))))))))))))))))))))))) (fun y13 => (Option.bind (Go.Ev.Matrix.f25 ((7 : Int), Unit.unit)) (fun y14 => (Option.bind (Go.Ev.Matrix.f25 ((9 : Int), Unit.unit)) (fun y15 => (if ((Go.Ev.allEq ((((y7.1, y14.1) :: []) ++ (((y7.2.1, y14.2.1) :: []) ++ [])) ++ ((((y7.2.2.1, y15.1) :: []) ++ (((y7.2.2.2.1, y15.2.1) :: []) ++ [])) ++ []))) = true) then (if ((y7.2.2.2.2.1 == (0 : Int)) = true) then (if ((y10.2.2.2.2.2.2.2.2.2.2.2.2.1 == y7.2.2.2.2.1) = true) then (if ((y13.2.2.2.2.2.2.2.2.2.2.2.2.1 == y7.2.2.2.2.1) = true) then (Option.bind (Go.Ev.Matrix.f25 ((2 : Int), Unit.unit)) (fun y16 => (Option.bind (Go.Ev.Matrix.f25 ((2 : Int), Unit.unit)) (fun y17 => (Option.bind (Go.Ev.Matrix.f25 ((2 : Int), Unit.unit)) (fun y18 => (if ((Go.Ev.allEq ((((y13.1, y16.1) :: []) ++ (((y13.2.1, y16.2.1) :: []) ++ [])) ++ ((((y13.2.2.1, (0 : Int)) :: []) ++ (((y13.2.2.2.1, (0 : Int)) :: []) ++ [])) ++ ((((y13.2.2.2.2.1, (0 : Int)) :: []) ++ (((y13.2.2.2.2.2.1, (0 : Int)) :: []) ++ [])) ++ ((((y13.2.2.2.2.2.2.1, y17.1) :: []) ++ (((y13.2.2.2.2.2.2.2.1, y17.2.1) :: []) ++ [])) ++ ((((y13.2.2.2.2.2.2.2.2.1, y18.1) :: []) ++ (((y13.2.2.2.2.2.2.2.2.2.1, y18.2.1) :: []) ++ [])) ++ ((((y13.2.2.2.2.2.2.2.2.2.2.1, (0 : Int)) :: []) ++ (((y13.2.2.2.2.2.2.2.2.2.2.2.1, (0 : Int)) :: []) ++ [])) ++ []))))))) = true) then (Option.bind (Go.Ev.Matrix.f15 (y13.1, (y13.2.1, (y13.2.2.1, (y13.2.2.2.1, (y13.2.2.2.2.1, (y13.2.2.2.2.2.1, (y13.2.2.2.2.2.2.1, (y13.2.2.2.2.2.2.2.1, (y13.2.2.2.2.2.2.2.2.1, (y13.2.2.2.2.2.2.2.2.2.1, (y13.2.2.2.2.2.2.2.2.2.2.1, (y13.2.2.2.2.2.2.2.2.2.2.2.1, Unit.unit))))))))))))) (fun y19 => (some ((y19.1 == y7.2.2.2.2.1), Unit.unit))))
   else (some (false, Unit.unit)))))))))
   else (some (false, Unit.unit)))
   else (some (false, Unit.unit)))
   else (some (false, Unit.unit)))
   else (some (false, Unit.unit)))))))))))))))))))))))))))))))))
theorem f14_eq (x : gi14.D) : f14 x = evF P (T25.orc _) Go.Proofs.Try.f14.ntmps fx14 c14 (planAt 64 []) gi14 x (fnK fx14 [go14]) := by kernel_rfl
theorem f14_ok : EntOk P 14 ⟨gi14, [go14], f14⟩ :=
  ent_ok (fn := Go.Proofs.Try.f14) (gi := gi14) (gos := [go14]) (f := f14) (c := c14) (fx := fx14) ⟨Go.Proofs.Try.func14, by kernel_rfl, rfl, by decide +kernel, rfl, rfl⟩ (by kernel_rfl) (Table.ok T25_ok _) hmix (planAt_ok (P := P) (n := Go.Proofs.Try.f14.ntmps) (fx := fx14) (c := c14) (d := 64) (l := []) trivial) f14_eq
noncomputable def T14 : Table := T25.add 14 [⟨gi14, [go14], f14⟩] []
theorem T14_ok : TableOk P T14 := Table.plus T25_ok (es := [⟨gi14, [go14], f14⟩]) ⟨f14_ok, trivial⟩ []

/-! ## 3: erasure/erasurelaw02.MatrixDoes -/
noncomputable def c3 : Code := Func.code Go.Proofs.Try.f3
abbrev gi3 : Sg := ⟨[0, 1, 2], [.agg [.lf (.int .i64), .lf (.int .i64), .lf (.int .i64), .lf (.int .i64), .lf (.int .i64), .lf (.int .i64), .lf (.int .i64), .lf (.int .i64), .lf (.int .i64), .lf (.int .i64), .lf (.int .i64), .lf (.int .i64)], .agg [.lf (.int .i64), .lf (.int .i64), .lf (.int .i64), .lf (.int .i64), .lf (.int .i64), .lf (.int .i64), .lf (.int .i64), .lf (.int .i64), .lf (.int .i64), .lf (.int .i64), .lf (.int .i64), .lf (.int .i64)], .agg [.lf (.int .i64), .lf (.int .i64), .lf (.int .i64), .lf (.int .i64)]], []⟩
abbrev go3 : Sg := ⟨[6], [.lf .bool], []⟩
def fx3 : List Bool := []
noncomputable def f3 (x : gi3.D) : Option go3.D :=
  (Option.bind (Go.Ev.Matrix.f8 (x.1, (x.2.1, (x.2.2.1, (x.2.2.2.1, (x.2.2.2.2.1, (x.2.2.2.2.2.1, (x.2.2.2.2.2.2.1, (x.2.2.2.2.2.2.2.1, (x.2.2.2.2.2.2.2.2.1, (x.2.2.2.2.2.2.2.2.2.1, (x.2.2.2.2.2.2.2.2.2.2.1, (x.2.2.2.2.2.2.2.2.2.2.2.1, (x.2.2.2.2.2.2.2.2.2.2.2.2.2.2.2.2.2.2.2.2.2.2.2.2.1, (x.2.2.2.2.2.2.2.2.2.2.2.2.2.2.2.2.2.2.2.2.2.2.2.2.2.1, (x.2.2.2.2.2.2.2.2.2.2.2.2.2.2.2.2.2.2.2.2.2.2.2.2.2.2.1, (x.2.2.2.2.2.2.2.2.2.2.2.2.2.2.2.2.2.2.2.2.2.2.2.2.2.2.2.1, Unit.unit))))))))))))))))) (fun y1 => (Option.bind (Go.Ev.Matrix.f9 (x.1, (x.2.1, (x.2.2.1, (x.2.2.2.1, (x.2.2.2.2.1, (x.2.2.2.2.2.1, (x.2.2.2.2.2.2.1, (x.2.2.2.2.2.2.2.1, (x.2.2.2.2.2.2.2.2.1, (x.2.2.2.2.2.2.2.2.2.1, (x.2.2.2.2.2.2.2.2.2.2.1, (x.2.2.2.2.2.2.2.2.2.2.2.1, (x.2.2.2.2.2.2.2.2.2.2.2.2.2.2.2.2.2.2.2.2.2.2.2.2.1, (x.2.2.2.2.2.2.2.2.2.2.2.2.2.2.2.2.2.2.2.2.2.2.2.2.2.1, (x.2.2.2.2.2.2.2.2.2.2.2.2.2.2.2.2.2.2.2.2.2.2.2.2.2.2.1, (x.2.2.2.2.2.2.2.2.2.2.2.2.2.2.2.2.2.2.2.2.2.2.2.2.2.2.2.1, Unit.unit))))))))))))))))) (fun y2 => (Option.bind (Go.Ev.Matrix.f10 (x.1, (x.2.1, (x.2.2.1, (x.2.2.2.1, (x.2.2.2.2.1, (x.2.2.2.2.2.1, (x.2.2.2.2.2.2.1, (x.2.2.2.2.2.2.2.1, (x.2.2.2.2.2.2.2.2.1, (x.2.2.2.2.2.2.2.2.2.1, (x.2.2.2.2.2.2.2.2.2.2.1, (x.2.2.2.2.2.2.2.2.2.2.2.1, (x.2.2.2.2.2.2.2.2.2.2.2.2.1, (x.2.2.2.2.2.2.2.2.2.2.2.2.2.1, (x.2.2.2.2.2.2.2.2.2.2.2.2.2.2.1, (x.2.2.2.2.2.2.2.2.2.2.2.2.2.2.2.1, (x.2.2.2.2.2.2.2.2.2.2.2.2.2.2.2.2.1, (x.2.2.2.2.2.2.2.2.2.2.2.2.2.2.2.2.2.1, (x.2.2.2.2.2.2.2.2.2.2.2.2.2.2.2.2.2.2.1, (x.2.2.2.2.2.2.2.2.2.2.2.2.2.2.2.2.2.2.2.1, (x.2.2.2.2.2.2.2.2.2.2.2.2.2.2.2.2.2.2.2.2.1, (x.2.2.2.2.2.2.2.2.2.2.2.2.2.2.2.2.2.2.2.2.2.1, (x.2.2.2.2.2.2.2.2.2.2.2.2.2.2.2.2.2.2.2.2.2.2.1, (x.2.2.2.2.2.2.2.2.2.2.2.2.2.2.2.2.2.2.2.2.2.2.2.1, Unit.unit))))))))))))))))))))))))) (fun y3 => (Option.bind (Go.Ev.Matrix.f11 (x.1, (x.2.1, (x.2.2.1, (x.2.2.2.1, (x.2.2.2.2.1, (x.2.2.2.2.2.1, (x.2.2.2.2.2.2.1, (x.2.2.2.2.2.2.2.1, (x.2.2.2.2.2.2.2.2.1, (x.2.2.2.2.2.2.2.2.2.1, (x.2.2.2.2.2.2.2.2.2.2.1, (x.2.2.2.2.2.2.2.2.2.2.2.1, (x.2.2.2.2.2.2.2.2.2.2.2.2.1, (x.2.2.2.2.2.2.2.2.2.2.2.2.2.1, (x.2.2.2.2.2.2.2.2.2.2.2.2.2.2.1, (x.2.2.2.2.2.2.2.2.2.2.2.2.2.2.2.1, (x.2.2.2.2.2.2.2.2.2.2.2.2.2.2.2.2.1, (x.2.2.2.2.2.2.2.2.2.2.2.2.2.2.2.2.2.1, (x.2.2.2.2.2.2.2.2.2.2.2.2.2.2.2.2.2.2.1, (x.2.2.2.2.2.2.2.2.2.2.2.2.2.2.2.2.2.2.2.1, (x.2.2.2.2.2.2.2.2.2.2.2.2.2.2.2.2.2.2.2.2.1, (x.2.2.2.2.2.2.2.2.2.2.2.2.2.2.2.2.2.2.2.2.2.1, (x.2.2.2.2.2.2.2.2.2.2.2.2.2.2.2.2.2.2.2.2.2.2.1, (x.2.2.2.2.2.2.2.2.2.2.2.2.2.2.2.2.2.2.2.2.2.2.2.1, Unit.unit))))))))))))))))))))))))) (fun y4 => (Option.bind (Go.Ev.Matrix.f12 (x.2.2.2.2.2.2.2.2.2.2.2.2.2.2.2.2.2.2.2.2.2.2.2.2.1, (x.2.2.2.2.2.2.2.2.2.2.2.2.2.2.2.2.2.2.2.2.2.2.2.2.2.1, (x.2.2.2.2.2.2.2.2.2.2.2.2.2.2.2.2.2.2.2.2.2.2.2.2.2.2.1, (x.2.2.2.2.2.2.2.2.2.2.2.2.2.2.2.2.2.2.2.2.2.2.2.2.2.2.2.1, Unit.unit))))) (fun y5 => (Option.bind (Go.Ev.Matrix.f13 (x.2.2.2.2.2.2.2.2.2.2.2.2.2.2.2.2.2.2.2.2.2.2.2.2.1, (x.2.2.2.2.2.2.2.2.2.2.2.2.2.2.2.2.2.2.2.2.2.2.2.2.2.1, (x.2.2.2.2.2.2.2.2.2.2.2.2.2.2.2.2.2.2.2.2.2.2.2.2.2.2.1, (x.2.2.2.2.2.2.2.2.2.2.2.2.2.2.2.2.2.2.2.2.2.2.2.2.2.2.2.1, Unit.unit))))) (fun y6 => (Option.bind (Go.Ev.Matrix.f14 Unit.unit) (fun y7 => (if (y7.1 = true) then (Option.bind (Go.Ev.Matrix.f15 (x.1, (x.2.1, (x.2.2.1, (x.2.2.2.1, (x.2.2.2.2.1, (x.2.2.2.2.2.1, (x.2.2.2.2.2.2.1, (x.2.2.2.2.2.2.2.1, (x.2.2.2.2.2.2.2.2.1, (x.2.2.2.2.2.2.2.2.2.1, (x.2.2.2.2.2.2.2.2.2.2.1, (x.2.2.2.2.2.2.2.2.2.2.2.1, Unit.unit))))))))))))) (fun y8 => (Option.bind (Go.Ev.Matrix.f16 (x.1, (x.2.1, (x.2.2.1, (x.2.2.2.1, (x.2.2.2.2.1, (x.2.2.2.2.2.1, (x.2.2.2.2.2.2.1, (x.2.2.2.2.2.2.2.1, (x.2.2.2.2.2.2.2.2.1, (x.2.2.2.2.2.2.2.2.2.1, (x.2.2.2.2.2.2.2.2.2.2.1, (x.2.2.2.2.2.2.2.2.2.2.2.1, Unit.unit))))))))))))) (fun y9 => (if (((y8.1 == (0 : Int)) == y9.1) = true) then (if ((Go.Ev.allEq ((((y1.1, y2.1) :: []) ++ (((y1.2.1, y2.2.1) :: []) ++ [])) ++ ((((y1.2.2.1, y2.2.2.1) :: []) ++ (((y1.2.2.2.1, y2.2.2.2.1) :: []) ++ [])) ++ []))) = true) then (if ((y1.2.2.2.2.1 == y2.2.2.2.2.1) = true) then (if ((Go.Ev.allEq ((((y3.1, y4.1) :: []) ++ (((y3.2.1, y4.2.1) :: []) ++ [])) ++ ((((y3.2.2.1, y4.2.2.1) :: []) ++ (((y3.2.2.2.1, y4.2.2.2.1) :: []) ++ [])) ++ ((((y3.2.2.2.2.1, y4.2.2.2.2.1) :: []) ++ (((y3.2.2.2.2.2.1, y4.2.2.2.2.2.1) :: []) ++ [])) ++ ((((y3.2.2.2.2.2.2.1, y4.2.2.2.2.2.2.1) :: []) ++ (((y3.2.2.2.2.2.2.2.1, y4.2.2.2.2.2.2.2.1) :: []) ++ [])) ++ ((((y3.2.2.2.2.2.2.2.2.1, y4.2.2.2.2.2.2.2.2.1) :: []) ++ (((y3.2.2.2.2.2.2.2.2.2.1, y4.2.2.2.2.2.2.2.2.2.1) :: []) ++ [])) ++ ((((y3.2.2.2.2.2.2.2.2.2.2.1, y4.2.2.2.2.2.2.2.2.2.2.1) :: []) ++ (((y3.2.2.2.2.2.2.2.2.2.2.2.1, y4.2.2.2.2.2.2.2.2.2.2.2.1) :: []) ++ [])) ++ []))))))) = true) then (if ((y3.2.2.2.2.2.2.2.2.2.2.2.2.1 == y4.2.2.2.2.2.2.2.2.2.2.2.2.1) = true) then (if ((Go.Ev.allEq ((((y5.1, y6.1) :: []) ++ (((y5.2.1, y6.2.1) :: []) ++ [])) ++ ((((y5.2.2.1, y6.2.2.1) :: []) ++ (((y5.2.2.2.1, y6.2.2.2.1) :: []) ++ [])) ++ ((((y5.2.2.2.2.1, y6.2.2.2.2.1) :: []) ++ (((y5.2.2.2.2.2.1, y6.2.2.2.2.2.1) :: []) ++ [])) ++ ((((y5.2.2.2.2.2.2.1, y6.2.2.2.2.2.2.1) :: []) ++ (((y5.2.2.2.2.2.2.2.1, y6.2.2.2.2.2.2.2.1) :: []) ++ [])) ++ ((((y5.2.2.2.2.2.2.2.2.1, y6.2.2.2.2.2.2.2.2.1) :: []) ++ (((y5.2.2.2.2.2.2.2.2.2.1, y6.2.2.2.2.2.2.2.2.2.1) :: []) ++ [])) ++ ((((y5.2.2.2.2.2.2.2.2.2.2.1, y6.2.2.2.2.2.2.2.2.2.2.1) :: []) ++ (((y5.2.2.2.2.2.2.2.2.2.2.2.1, y6.2.2.2.2.2.2.2.2.2.2.2.1) :: []) ++ [])) ++ []))))))) = true) then (if ((y5.2.2.2.2.2.2.2.2.2.2.2.2.1 == y6.2.2.2.2.2.2.2.2.2.2.2.2.1) = true) then (Option.bind (Go.Ev.Matrix.f17 Unit.unit) (fun y10 => (Option.bind (Go.Ev.Matrix.f18 Unit.unit) (fun y11 => (some ((Go.Ev.allEq ((((y10.1, y11.1) :: []) ++ (((y10.2.1, y11.2.1) :: []) ++ [])) ++ ((((y10.2.2.1, y11.2.2.1) :: []) ++ (((y10.2.2.2.1, y11.2.2.2.1) :: []) ++ [])) ++ ((((y10.2.2.2.2.1, y11.2.2.2.2.1) :: []) ++ (((y10.2.2.2.2.2.1, y11.2.2.2.2.2.1) :: []) ++ [])) ++ ((((y10.2.2.2.2.2.2.1, y11.2.2.2.2.2.2.1) :: []) ++ (((y10.2.2.2.2.2.2.2.1, y11.2.2.2.2.2.2.2.1) :: []) ++ [])) ++ ((((y10.2.2.2.2.2.2.2.2.1, y11.2.2.2.2.2.2.2.2.1) :: []) ++ (((y10.2.2.2.2.2.2.2.2.2.1, y11.2.2.2.2.2.2.2.2.2.1) :: []) ++ [])) ++ ((((y10.2.2.2.2.2.2.2.2.2.2.1, y11.2.2.2.2.2.2.2.2.2.2.1) :: []) ++ (((y10.2.2.2.2.2.2.2.2.2.2.2.1, y11.2.2.2.2.2.2.2.2.2.2.2.1) :: []) ++ [])) ++ []))))))), Unit.unit))))))
   else (some (false, Unit.unit)))
   else (some (false, Unit.unit)))
   else (some (false, Unit.unit)))
   else (some (false, Unit.unit)))
   else (some (false, Unit.unit)))
   else (some (false, Unit.unit)))
   else (some (false, Unit.unit)))))))
   else (some (false, Unit.unit)))))))))))))))))
theorem f3_eq (x : gi3.D) : f3 x = evF P (T14.orc _) Go.Proofs.Try.f3.ntmps fx3 c3 (planAt 64 []) gi3 x (fnK fx3 [go3]) := by kernel_rfl
theorem f3_ok : EntOk P 3 ⟨gi3, [go3], f3⟩ :=
  ent_ok (fn := Go.Proofs.Try.f3) (gi := gi3) (gos := [go3]) (f := f3) (c := c3) (fx := fx3) ⟨Go.Proofs.Try.func3, by kernel_rfl, rfl, by decide +kernel, rfl, rfl⟩ (by kernel_rfl) (Table.ok T14_ok _) hmix (planAt_ok (P := P) (n := Go.Proofs.Try.f3.ntmps) (fx := fx3) (c := c3) (d := 64) (l := []) trivial) f3_eq
noncomputable def T3 : Table := T14.add 3 [⟨gi3, [go3], f3⟩] []
theorem T3_ok : TableOk P T3 := Table.plus T14_ok (es := [⟨gi3, [go3], f3⟩]) ⟨f3_ok, trivial⟩ []

/-! ## 4: erasure/erasurelaw02.MatrixMaps -/
noncomputable def c4 : Code := Func.code Go.Proofs.Try.f4
abbrev gi4 : Sg := ⟨[0, 1, 2], [.agg [.lf (.int .i64), .lf (.int .i64), .lf (.int .i64), .lf (.int .i64), .lf (.int .i64), .lf (.int .i64), .lf (.int .i64), .lf (.int .i64), .lf (.int .i64), .lf (.int .i64), .lf (.int .i64), .lf (.int .i64)], .agg [.lf (.int .i64), .lf (.int .i64), .lf (.int .i64), .lf (.int .i64), .lf (.int .i64), .lf (.int .i64), .lf (.int .i64), .lf (.int .i64), .lf (.int .i64), .lf (.int .i64), .lf (.int .i64), .lf (.int .i64)], .agg [.lf (.int .i64), .lf (.int .i64), .lf (.int .i64), .lf (.int .i64)]], []⟩
abbrev go4 : Sg := ⟨[6], [.lf .bool], []⟩
def fx4 : List Bool := []
abbrev g4_2 : Sg := ⟨[3, 5, 15, 16, 17, 18, 19, 20], [.lf (.ptr 0 0), .lf (.ptr 1 0), .lf (.ptr 2 0), .lf (.int .i64), .lf (.ptr 3 0), .lf (.int .i64), .lf (.ptr 4 0), .lf (.int .i64)], [some (.box true [.lf (.int .i64), .lf (.int .i64), .lf (.int .i64), .lf (.int .i64), .lf (.int .i64), .lf (.int .i64), .lf (.int .i64), .lf (.int .i64), .lf (.int .i64), .lf (.int .i64), .lf (.int .i64), .lf (.int .i64)]), some (.box true [.lf (.int .i64), .lf (.int .i64), .lf (.int .i64), .lf (.int .i64)]), some (.box true [.lf (.int .i64), .lf (.int .i64), .lf (.int .i64), .lf (.int .i64)]), some (.box true [.lf (.int .i64), .lf (.int .i64), .lf (.int .i64), .lf (.int .i64), .lf (.int .i64), .lf (.int .i64), .lf (.int .i64), .lf (.int .i64), .lf (.int .i64), .lf (.int .i64), .lf (.int .i64), .lf (.int .i64)]), some (.box true [.lf (.int .i64), .lf (.int .i64), .lf (.int .i64), .lf (.int .i64), .lf (.int .i64), .lf (.int .i64), .lf (.int .i64), .lf (.int .i64), .lf (.int .i64), .lf (.int .i64), .lf (.int .i64), .lf (.int .i64)])]⟩
abbrev o4_2 : Outs := [(.normal, ⟨[3, 17, 18, 19, 20, 100], [.lf (.ptr 0 0), .lf (.ptr 1 0), .lf (.int .i64), .lf (.ptr 2 0), .lf (.int .i64), .lf .bool], [some (.box true [.lf (.int .i64), .lf (.int .i64), .lf (.int .i64), .lf (.int .i64), .lf (.int .i64), .lf (.int .i64), .lf (.int .i64), .lf (.int .i64), .lf (.int .i64), .lf (.int .i64), .lf (.int .i64), .lf (.int .i64)]), some (.box true [.lf (.int .i64), .lf (.int .i64), .lf (.int .i64), .lf (.int .i64), .lf (.int .i64), .lf (.int .i64), .lf (.int .i64), .lf (.int .i64), .lf (.int .i64), .lf (.int .i64), .lf (.int .i64), .lf (.int .i64)]), some (.box true [.lf (.int .i64), .lf (.int .i64), .lf (.int .i64), .lf (.int .i64), .lf (.int .i64), .lf (.int .i64), .lf (.int .i64), .lf (.int .i64), .lf (.int .i64), .lf (.int .i64), .lf (.int .i64), .lf (.int .i64)])]⟩)]
noncomputable def b4_2 (x : g4_2.D) : Option (outD o4_2) :=
  (Option.bind (Go.Ev.Matrix.f19 (x.2.2.2.2.2.2.2.2.2.2.2.2.2.2.2.1, (x.2.2.2.2.2.2.2.2.2.2.2.2.2.2.2.2.1, Unit.unit))) (fun y1 => (if ((y1.1 == (0 : Int)) = true) then (Option.bind (Go.Ev.Matrix.f19 (x.2.2.2.2.2.2.2.2.2.2.2.2.2.2.2.2.2.1, (x.2.2.2.2.2.2.2.2.2.2.2.2.2.2.2.2.2.2.1, Unit.unit))) (fun y2 => (if ((y2.1 == (0 : Int)) = true) then (if ((x.1 != (0 : Int)) = true) then (some (Sum.inl (x.2.1, (x.2.2.1, (true, (x.2.2.2.1, (x.2.2.2.2.1, (x.2.2.2.2.2.1, (x.2.2.2.2.2.2.1, (x.2.2.2.2.2.2.2.1, (x.2.2.2.2.2.2.2.2.1, (x.2.2.2.2.2.2.2.2.2.1, (x.2.2.2.2.2.2.2.2.2.2.1, (x.2.2.2.2.2.2.2.2.2.2.2.1, (x.2.2.2.2.2.2.2.2.2.2.2.2.1, (x.2.2.2.2.2.2.2.2.2.2.2.2.2.1, (x.2.2.2.2.2.2.2.2.2.2.2.2.2.2.1, (x.2.2.2.2.2.2.2.2.2.2.2.2.2.2.2.2.2.2.2.2.2.2.2.1, (x.2.2.2.2.2.2.2.2.2.2.2.2.2.2.2.2.2.2.2.2.2.2.2.2.1, (x.2.2.2.2.2.2.2.2.2.2.2.2.2.2.2.2.2.2.2.2.2.2.2.2.2.1, (x.2.2.2.2.2.2.2.2.2.2.2.2.2.2.2.2.2.2.2.2.2.2.2.2.2.2.1, (x.2.2.2.2.2.2.2.2.2.2.2.2.2.2.2.2.2.2.2.2.2.2.2.2.2.2.2.1, (x.2.2.2.2.2.2.2.2.2.2.2.2.2.2.2.2.2.2.2.2.2.2.2.2.2.2.2.2.1, (x.2.2.2.2.2.2.2.2.2.2.2.2.2.2.2.2.2.2.2.2.2.2.2.2.2.2.2.2.2.1, (x.2.2.2.2.2.2.2.2.2.2.2.2.2.2.2.2.2.2.2.2.2.2.2.2.2.2.2.2.2.2.1, (x.2.2.2.2.2.2.2.2.2.2.2.2.2.2.2.2.2.2.2.2.2.2.2.2.2.2.2.2.2.2.2.1, (x.2.2.2.2.2.2.2.2.2.2.2.2.2.2.2.2.2.2.2.2.2.2.2.2.2.2.2.2.2.2.2.2.1, (x.2.2.2.2.2.2.2.2.2.2.2.2.2.2.2.2.2.2.2.2.2.2.2.2.2.2.2.2.2.2.2.2.2.1, (x.2.2.2.2.2.2.2.2.2.2.2.2.2.2.2.2.2.2.2.2.2.2.2.2.2.2.2.2.2.2.2.2.2.2.1, (x.2.2.2.2.2.2.2.2.2.2.2.2.2.2.2.2.2.2.2.2.2.2.2.2.2.2.2.2.2.2.2.2.2.2.2.1, (x.2.2.2.2.2.2.2.2.2.2.2.2.2.2.2.2.2.2.2.2.2.2.2.2.2.2.2.2.2.2.2.2.2.2.2.2.1, (x.2.2.2.2.2.2.2.2.2.2.2.2.2.2.2.2.2.2.2.2.2.2.2.2.2.2.2.2.2.2.2.2.2.2.2.2.2.1, (x.2.2.2.2.2.2.2.2.2.2.2.2.2.2.2.2.2.2.2.2.2.2.2.2.2.2.2.2.2.2.2.2.2.2.2.2.2.2.1, (x.2.2.2.2.2.2.2.2.2.2.2.2.2.2.2.2.2.2.2.2.2.2.2.2.2.2.2.2.2.2.2.2.2.2.2.2.2.2.2.1, (x.2.2.2.2.2.2.2.2.2.2.2.2.2.2.2.2.2.2.2.2.2.2.2.2.2.2.2.2.2.2.2.2.2.2.2.2.2.2.2.2.1, (x.2.2.2.2.2.2.2.2.2.2.2.2.2.2.2.2.2.2.2.2.2.2.2.2.2.2.2.2.2.2.2.2.2.2.2.2.2.2.2.2.2.1, (x.2.2.2.2.2.2.2.2.2.2.2.2.2.2.2.2.2.2.2.2.2.2.2.2.2.2.2.2.2.2.2.2.2.2.2.2.2.2.2.2.2.2.1, (x.2.2.2.2.2.2.2.2.2.2.2.2.2.2.2.2.2.2.2.2.2.2.2.2.2.2.2.2.2.2.2.2.2.2.2.2.2.2.2.2.2.2.2.1, (x.2.2.2.2.2.2.2.2.2.2.2.2.2.2.2.2.2.2.2.2.2.2.2.2.2.2.2.2.2.2.2.2.2.2.2.2.2.2.2.2.2.2.2.2.1, (x.2.2.2.2.2.2.2.2.2.2.2.2.2.2.2.2.2.2.2.2.2.2.2.2.2.2.2.2.2.2.2.2.2.2.2.2.2.2.2.2.2.2.2.2.2.1, (x.2.2.2.2.2.2.2.2.2.2.2.2.2.2.2.2.2.2.2.2.2.2.2.2.2.2.2.2.2.2.2.2.2.2.2.2.2.2.2.2.2.2.2.2.2.2.1, Unit.unit)))))))))))))))))))))))))))))))))))))))))
   else (some (Sum.inl (x.2.1, (x.2.2.1, ((Bool.not (Go.Ev.allEq ((((x.2.2.2.2.2.2.2.2.2.2.2.2.2.2.2.2.2.2.2.1, x.2.2.2.2.2.2.2.2.2.2.2.2.2.2.2.1) :: []) ++ (((x.2.2.2.2.2.2.2.2.2.2.2.2.2.2.2.2.2.2.2.2.1, x.2.2.2.2.2.2.2.2.2.2.2.2.2.2.2.2.1) :: []) ++ [])) ++ ((((x.2.2.2.2.2.2.2.2.2.2.2.2.2.2.2.2.2.2.2.2.2.1, x.2.2.2.2.2.2.2.2.2.2.2.2.2.2.2.2.2.1) :: []) ++ (((x.2.2.2.2.2.2.2.2.2.2.2.2.2.2.2.2.2.2.2.2.2.2.1, x.2.2.2.2.2.2.2.2.2.2.2.2.2.2.2.2.2.2.1) :: []) ++ [])) ++ [])))), (x.2.2.2.1, (x.2.2.2.2.1, (x.2.2.2.2.2.1, (x.2.2.2.2.2.2.1, (x.2.2.2.2.2.2.2.1, (x.2.2.2.2.2.2.2.2.1, (x.2.2.2.2.2.2.2.2.2.1, (x.2.2.2.2.2.2.2.2.2.2.1, (x.2.2.2.2.2.2.2.2.2.2.2.1, (x.2.2.2.2.2.2.2.2.2.2.2.2.1, (x.2.2.2.2.2.2.2.2.2.2.2.2.2.1, (x.2.2.2.2.2.2.2.2.2.2.2.2.2.2.1, (x.2.2.2.2.2.2.2.2.2.2.2.2.2.2.2.2.2.2.2.2.2.2.2.1, (x.2.2.2.2.2.2.2.2.2.2.2.2.2.2.2.2.2.2.2.2.2.2.2.2.1, (x.2.2.2.2.2.2.2.2.2.2.2.2.2.2.2.2.2.2.2.2.2.2.2.2.2.1, (x.2.2.2.2.2.2.2.2.2.2.2.2.2.2.2.2.2.2.2.2.2.2.2.2.2.2.1, (x.2.2.2.2.2.2.2.2.2.2.2.2.2.2.2.2.2.2.2.2.2.2.2.2.2.2.2.1, (x.2.2.2.2.2.2.2.2.2.2.2.2.2.2.2.2.2.2.2.2.2.2.2.2.2.2.2.2.1, (x.2.2.2.2.2.2.2.2.2.2.2.2.2.2.2.2.2.2.2.2.2.2.2.2.2.2.2.2.2.1, (x.2.2.2.2.2.2.2.2.2.2.2.2.2.2.2.2.2.2.2.2.2.2.2.2.2.2.2.2.2.2.1, (x.2.2.2.2.2.2.2.2.2.2.2.2.2.2.2.2.2.2.2.2.2.2.2.2.2.2.2.2.2.2.2.1, (x.2.2.2.2.2.2.2.2.2.2.2.2.2.2.2.2.2.2.2.2.2.2.2.2.2.2.2.2.2.2.2.2.1, (x.2.2.2.2.2.2.2.2.2.2.2.2.2.2.2.2.2.2.2.2.2.2.2.2.2.2.2.2.2.2.2.2.2.1, (x.2.2.2.2.2.2.2.2.2.2.2.2.2.2.2.2.2.2.2.2.2.2.2.2.2.2.2.2.2.2.2.2.2.2.1, (x.2.2.2.2.2.2.2.2.2.2.2.2.2.2.2.2.2.2.2.2.2.2.2.2.2.2.2.2.2.2.2.2.2.2.2.1, (x.2.2.2.2.2.2.2.2.2.2.2.2.2.2.2.2.2.2.2.2.2.2.2.2.2.2.2.2.2.2.2.2.2.2.2.2.1, (x.2.2.2.2.2.2.2.2.2.2.2.2.2.2.2.2.2.2.2.2.2.2.2.2.2.2.2.2.2.2.2.2.2.2.2.2.2.1, (x.2.2.2.2.2.2.2.2.2.2.2.2.2.2.2.2.2.2.2.2.2.2.2.2.2.2.2.2.2.2.2.2.2.2.2.2.2.2.1, (x.2.2.2.2.2.2.2.2.2.2.2.2.2.2.2.2.2.2.2.2.2.2.2.2.2.2.2.2.2.2.2.2.2.2.2.2.2.2.2.1, (x.2.2.2.2.2.2.2.2.2.2.2.2.2.2.2.2.2.2.2.2.2.2.2.2.2.2.2.2.2.2.2.2.2.2.2.2.2.2.2.2.1, (x.2.2.2.2.2.2.2.2.2.2.2.2.2.2.2.2.2.2.2.2.2.2.2.2.2.2.2.2.2.2.2.2.2.2.2.2.2.2.2.2.2.1, (x.2.2.2.2.2.2.2.2.2.2.2.2.2.2.2.2.2.2.2.2.2.2.2.2.2.2.2.2.2.2.2.2.2.2.2.2.2.2.2.2.2.2.1, (x.2.2.2.2.2.2.2.2.2.2.2.2.2.2.2.2.2.2.2.2.2.2.2.2.2.2.2.2.2.2.2.2.2.2.2.2.2.2.2.2.2.2.2.1, (x.2.2.2.2.2.2.2.2.2.2.2.2.2.2.2.2.2.2.2.2.2.2.2.2.2.2.2.2.2.2.2.2.2.2.2.2.2.2.2.2.2.2.2.2.1, (x.2.2.2.2.2.2.2.2.2.2.2.2.2.2.2.2.2.2.2.2.2.2.2.2.2.2.2.2.2.2.2.2.2.2.2.2.2.2.2.2.2.2.2.2.2.1, (x.2.2.2.2.2.2.2.2.2.2.2.2.2.2.2.2.2.2.2.2.2.2.2.2.2.2.2.2.2.2.2.2.2.2.2.2.2.2.2.2.2.2.2.2.2.2.1, Unit.unit))))))))))))))))))))))))))))))))))))))))))
   else (some (Sum.inl (x.2.1, (x.2.2.1, (false, (x.2.2.2.1, (x.2.2.2.2.1, (x.2.2.2.2.2.1, (x.2.2.2.2.2.2.1, (x.2.2.2.2.2.2.2.1, (x.2.2.2.2.2.2.2.2.1, (x.2.2.2.2.2.2.2.2.2.1, (x.2.2.2.2.2.2.2.2.2.2.1, (x.2.2.2.2.2.2.2.2.2.2.2.1, (x.2.2.2.2.2.2.2.2.2.2.2.2.1, (x.2.2.2.2.2.2.2.2.2.2.2.2.2.1, (x.2.2.2.2.2.2.2.2.2.2.2.2.2.2.1, (x.2.2.2.2.2.2.2.2.2.2.2.2.2.2.2.2.2.2.2.2.2.2.2.1, (x.2.2.2.2.2.2.2.2.2.2.2.2.2.2.2.2.2.2.2.2.2.2.2.2.1, (x.2.2.2.2.2.2.2.2.2.2.2.2.2.2.2.2.2.2.2.2.2.2.2.2.2.1, (x.2.2.2.2.2.2.2.2.2.2.2.2.2.2.2.2.2.2.2.2.2.2.2.2.2.2.1, (x.2.2.2.2.2.2.2.2.2.2.2.2.2.2.2.2.2.2.2.2.2.2.2.2.2.2.2.1, (x.2.2.2.2.2.2.2.2.2.2.2.2.2.2.2.2.2.2.2.2.2.2.2.2.2.2.2.2.1, (x.2.2.2.2.2.2.2.2.2.2.2.2.2.2.2.2.2.2.2.2.2.2.2.2.2.2.2.2.2.1, (x.2.2.2.2.2.2.2.2.2.2.2.2.2.2.2.2.2.2.2.2.2.2.2.2.2.2.2.2.2.2.1, (x.2.2.2.2.2.2.2.2.2.2.2.2.2.2.2.2.2.2.2.2.2.2.2.2.2.2.2.2.2.2.2.1, (x.2.2.2.2.2.2.2.2.2.2.2.2.2.2.2.2.2.2.2.2.2.2.2.2.2.2.2.2.2.2.2.2.1, (x.2.2.2.2.2.2.2.2.2.2.2.2.2.2.2.2.2.2.2.2.2.2.2.2.2.2.2.2.2.2.2.2.2.1, (x.2.2.2.2.2.2.2.2.2.2.2.2.2.2.2.2.2.2.2.2.2.2.2.2.2.2.2.2.2.2.2.2.2.2.1, (x.2.2.2.2.2.2.2.2.2.2.2.2.2.2.2.2.2.2.2.2.2.2.2.2.2.2.2.2.2.2.2.2.2.2.2.1, (x.2.2.2.2.2.2.2.2.2.2.2.2.2.2.2.2.2.2.2.2.2.2.2.2.2.2.2.2.2.2.2.2.2.2.2.2.1, (x.2.2.2.2.2.2.2.2.2.2.2.2.2.2.2.2.2.2.2.2.2.2.2.2.2.2.2.2.2.2.2.2.2.2.2.2.2.1, (x.2.2.2.2.2.2.2.2.2.2.2.2.2.2.2.2.2.2.2.2.2.2.2.2.2.2.2.2.2.2.2.2.2.2.2.2.2.2.1, (x.2.2.2.2.2.2.2.2.2.2.2.2.2.2.2.2.2.2.2.2.2.2.2.2.2.2.2.2.2.2.2.2.2.2.2.2.2.2.2.1, (x.2.2.2.2.2.2.2.2.2.2.2.2.2.2.2.2.2.2.2.2.2.2.2.2.2.2.2.2.2.2.2.2.2.2.2.2.2.2.2.2.1, (x.2.2.2.2.2.2.2.2.2.2.2.2.2.2.2.2.2.2.2.2.2.2.2.2.2.2.2.2.2.2.2.2.2.2.2.2.2.2.2.2.2.1, (x.2.2.2.2.2.2.2.2.2.2.2.2.2.2.2.2.2.2.2.2.2.2.2.2.2.2.2.2.2.2.2.2.2.2.2.2.2.2.2.2.2.2.1, (x.2.2.2.2.2.2.2.2.2.2.2.2.2.2.2.2.2.2.2.2.2.2.2.2.2.2.2.2.2.2.2.2.2.2.2.2.2.2.2.2.2.2.2.1, (x.2.2.2.2.2.2.2.2.2.2.2.2.2.2.2.2.2.2.2.2.2.2.2.2.2.2.2.2.2.2.2.2.2.2.2.2.2.2.2.2.2.2.2.2.1, (x.2.2.2.2.2.2.2.2.2.2.2.2.2.2.2.2.2.2.2.2.2.2.2.2.2.2.2.2.2.2.2.2.2.2.2.2.2.2.2.2.2.2.2.2.2.1, (x.2.2.2.2.2.2.2.2.2.2.2.2.2.2.2.2.2.2.2.2.2.2.2.2.2.2.2.2.2.2.2.2.2.2.2.2.2.2.2.2.2.2.2.2.2.2.1, Unit.unit))))))))))))))))))))))))))))))))))))))))))))
   else (some (Sum.inl (x.2.1, (x.2.2.1, (false, (x.2.2.2.1, (x.2.2.2.2.1, (x.2.2.2.2.2.1, (x.2.2.2.2.2.2.1, (x.2.2.2.2.2.2.2.1, (x.2.2.2.2.2.2.2.2.1, (x.2.2.2.2.2.2.2.2.2.1, (x.2.2.2.2.2.2.2.2.2.2.1, (x.2.2.2.2.2.2.2.2.2.2.2.1, (x.2.2.2.2.2.2.2.2.2.2.2.2.1, (x.2.2.2.2.2.2.2.2.2.2.2.2.2.1, (x.2.2.2.2.2.2.2.2.2.2.2.2.2.2.1, (x.2.2.2.2.2.2.2.2.2.2.2.2.2.2.2.2.2.2.2.2.2.2.2.1, (x.2.2.2.2.2.2.2.2.2.2.2.2.2.2.2.2.2.2.2.2.2.2.2.2.1, (x.2.2.2.2.2.2.2.2.2.2.2.2.2.2.2.2.2.2.2.2.2.2.2.2.2.1, (x.2.2.2.2.2.2.2.2.2.2.2.2.2.2.2.2.2.2.2.2.2.2.2.2.2.2.1, (x.2.2.2.2.2.2.2.2.2.2.2.2.2.2.2.2.2.2.2.2.2.2.2.2.2.2.2.1, (x.2.2.2.2.2.2.2.2.2.2.2.2.2.2.2.2.2.2.2.2.2.2.2.2.2.2.2.2.1, (x.2.2.2.2.2.2.2.2.2.2.2.2.2.2.2.2.2.2.2.2.2.2.2.2.2.2.2.2.2.1, (x.2.2.2.2.2.2.2.2.2.2.2.2.2.2.2.2.2.2.2.2.2.2.2.2.2.2.2.2.2.2.1, (x.2.2.2.2.2.2.2.2.2.2.2.2.2.2.2.2.2.2.2.2.2.2.2.2.2.2.2.2.2.2.2.1, (x.2.2.2.2.2.2.2.2.2.2.2.2.2.2.2.2.2.2.2.2.2.2.2.2.2.2.2.2.2.2.2.2.1, (x.2.2.2.2.2.2.2.2.2.2.2.2.2.2.2.2.2.2.2.2.2.2.2.2.2.2.2.2.2.2.2.2.2.1, (x.2.2.2.2.2.2.2.2.2.2.2.2.2.2.2.2.2.2.2.2.2.2.2.2.2.2.2.2.2.2.2.2.2.2.1, (x.2.2.2.2.2.2.2.2.2.2.2.2.2.2.2.2.2.2.2.2.2.2.2.2.2.2.2.2.2.2.2.2.2.2.2.1, (x.2.2.2.2.2.2.2.2.2.2.2.2.2.2.2.2.2.2.2.2.2.2.2.2.2.2.2.2.2.2.2.2.2.2.2.2.1, (x.2.2.2.2.2.2.2.2.2.2.2.2.2.2.2.2.2.2.2.2.2.2.2.2.2.2.2.2.2.2.2.2.2.2.2.2.2.1, (x.2.2.2.2.2.2.2.2.2.2.2.2.2.2.2.2.2.2.2.2.2.2.2.2.2.2.2.2.2.2.2.2.2.2.2.2.2.2.1, (x.2.2.2.2.2.2.2.2.2.2.2.2.2.2.2.2.2.2.2.2.2.2.2.2.2.2.2.2.2.2.2.2.2.2.2.2.2.2.2.1, (x.2.2.2.2.2.2.2.2.2.2.2.2.2.2.2.2.2.2.2.2.2.2.2.2.2.2.2.2.2.2.2.2.2.2.2.2.2.2.2.2.1, (x.2.2.2.2.2.2.2.2.2.2.2.2.2.2.2.2.2.2.2.2.2.2.2.2.2.2.2.2.2.2.2.2.2.2.2.2.2.2.2.2.2.1, (x.2.2.2.2.2.2.2.2.2.2.2.2.2.2.2.2.2.2.2.2.2.2.2.2.2.2.2.2.2.2.2.2.2.2.2.2.2.2.2.2.2.2.1, (x.2.2.2.2.2.2.2.2.2.2.2.2.2.2.2.2.2.2.2.2.2.2.2.2.2.2.2.2.2.2.2.2.2.2.2.2.2.2.2.2.2.2.2.1, (x.2.2.2.2.2.2.2.2.2.2.2.2.2.2.2.2.2.2.2.2.2.2.2.2.2.2.2.2.2.2.2.2.2.2.2.2.2.2.2.2.2.2.2.2.1, (x.2.2.2.2.2.2.2.2.2.2.2.2.2.2.2.2.2.2.2.2.2.2.2.2.2.2.2.2.2.2.2.2.2.2.2.2.2.2.2.2.2.2.2.2.2.1, (x.2.2.2.2.2.2.2.2.2.2.2.2.2.2.2.2.2.2.2.2.2.2.2.2.2.2.2.2.2.2.2.2.2.2.2.2.2.2.2.2.2.2.2.2.2.2.1, Unit.unit))))))))))))))))))))))))))))))))))))))))))))
theorem b4_2_eq (x : g4_2.D) : b4_2 x = evF P (T3.orc _) Go.Proofs.Try.f4.ntmps fx4 (Code.at [true, true, true, true, true, true, true, true, true, false, false] c4) (planAt 64 []) g4_2 x (injK fx4 o4_2 some) := by kernel_rfl
theorem s4_2_ok : SubOk P Go.Proofs.Try.f4.ntmps fx4 (Code.at [true, true, true, true, true, true, true, true, true, false, false] c4) ⟨g4_2, o4_2, b4_2⟩ :=
  sub_ok (g := g4_2) (outs := o4_2) (f := b4_2) (Table.ok T3_ok _) hmix (planAt_ok (P := P) (n := Go.Proofs.Try.f4.ntmps) (fx := fx4) (c := (Code.at [true, true, true, true, true, true, true, true, true, false, false] c4)) (d := 64) (l := []) trivial) b4_2_eq
abbrev g4_1 : Sg := ⟨[3, 5, 8, 9, 10, 12, 13, 14], [.lf (.ptr 0 0), .lf (.ptr 1 0), .lf (.int .i64), .lf (.ptr 2 0), .lf (.int .i64), .lf (.int .i64), .lf (.ptr 3 0), .lf (.int .i64)], [some (.box true [.lf (.int .i64), .lf (.int .i64), .lf (.int .i64), .lf (.int .i64), .lf (.int .i64), .lf (.int .i64), .lf (.int .i64), .lf (.int .i64), .lf (.int .i64), .lf (.int .i64), .lf (.int .i64), .lf (.int .i64)]), some (.box true [.lf (.int .i64), .lf (.int .i64), .lf (.int .i64), .lf (.int .i64)]), some (.box true [.lf (.int .i64), .lf (.int .i64), .lf (.int .i64), .lf (.int .i64)]), some (.box true [.lf (.int .i64), .lf (.int .i64), .lf (.int .i64), .lf (.int .i64)])]⟩
abbrev o4_1 : Outs := [(.normal, ⟨[3, 5, 63], [.lf (.ptr 0 0), .lf (.ptr 1 0), .lf .bool], [some (.box true [.lf (.int .i64), .lf (.int .i64), .lf (.int .i64), .lf (.int .i64), .lf (.int .i64), .lf (.int .i64), .lf (.int .i64), .lf (.int .i64), .lf (.int .i64), .lf (.int .i64), .lf (.int .i64), .lf (.int .i64)]), some (.box true [.lf (.int .i64), .lf (.int .i64), .lf (.int .i64), .lf (.int .i64)])]⟩)]
noncomputable def b4_1 (x : g4_1.D) : Option (outD o4_1) :=
  (if ((x.1 == (0 : Int)) = true) then (if ((x.2.1 == (0 : Int)) = true) then (if ((x.2.2.1 == (0 : Int)) = true) then (if ((x.2.2.2.1 == (0 : Int)) = true) then (some (Sum.inl ((Bool.not (Go.Ev.allEq ((((x.2.2.2.2.2.2.2.2.2.2.2.2.2.2.2.2.2.2.2.2.1, x.2.2.2.2.2.2.2.2.2.2.2.2.2.2.2.2.2.2.2.2.2.2.2.2.1) :: []) ++ (((x.2.2.2.2.2.2.2.2.2.2.2.2.2.2.2.2.2.2.2.2.2.1, x.2.2.2.2.2.2.2.2.2.2.2.2.2.2.2.2.2.2.2.2.2.2.2.2.2.1) :: []) ++ [])) ++ ((((x.2.2.2.2.2.2.2.2.2.2.2.2.2.2.2.2.2.2.2.2.2.2.1, x.2.2.2.2.2.2.2.2.2.2.2.2.2.2.2.2.2.2.2.2.2.2.2.2.2.2.1) :: []) ++ (((x.2.2.2.2.2.2.2.2.2.2.2.2.2.2.2.2.2.2.2.2.2.2.2.1, x.2.2.2.2.2.2.2.2.2.2.2.2.2.2.2.2.2.2.2.2.2.2.2.2.2.2.2.1) :: []) ++ [])) ++ [])))), (x.2.2.2.2.1, (x.2.2.2.2.2.1, (x.2.2.2.2.2.2.1, (x.2.2.2.2.2.2.2.1, (x.2.2.2.2.2.2.2.2.1, (x.2.2.2.2.2.2.2.2.2.1, (x.2.2.2.2.2.2.2.2.2.2.1, (x.2.2.2.2.2.2.2.2.2.2.2.1, (x.2.2.2.2.2.2.2.2.2.2.2.2.1, (x.2.2.2.2.2.2.2.2.2.2.2.2.2.1, (x.2.2.2.2.2.2.2.2.2.2.2.2.2.2.1, (x.2.2.2.2.2.2.2.2.2.2.2.2.2.2.2.1, (x.2.2.2.2.2.2.2.2.2.2.2.2.2.2.2.2.1, (x.2.2.2.2.2.2.2.2.2.2.2.2.2.2.2.2.2.1, (x.2.2.2.2.2.2.2.2.2.2.2.2.2.2.2.2.2.2.1, (x.2.2.2.2.2.2.2.2.2.2.2.2.2.2.2.2.2.2.2.1, Unit.unit)))))))))))))))))))
   else (some (Sum.inl (false, (x.2.2.2.2.1, (x.2.2.2.2.2.1, (x.2.2.2.2.2.2.1, (x.2.2.2.2.2.2.2.1, (x.2.2.2.2.2.2.2.2.1, (x.2.2.2.2.2.2.2.2.2.1, (x.2.2.2.2.2.2.2.2.2.2.1, (x.2.2.2.2.2.2.2.2.2.2.2.1, (x.2.2.2.2.2.2.2.2.2.2.2.2.1, (x.2.2.2.2.2.2.2.2.2.2.2.2.2.1, (x.2.2.2.2.2.2.2.2.2.2.2.2.2.2.1, (x.2.2.2.2.2.2.2.2.2.2.2.2.2.2.2.1, (x.2.2.2.2.2.2.2.2.2.2.2.2.2.2.2.2.1, (x.2.2.2.2.2.2.2.2.2.2.2.2.2.2.2.2.2.1, (x.2.2.2.2.2.2.2.2.2.2.2.2.2.2.2.2.2.2.1, (x.2.2.2.2.2.2.2.2.2.2.2.2.2.2.2.2.2.2.2.1, Unit.unit))))))))))))))))))))
   else (some (Sum.inl (false, (x.2.2.2.2.1, (x.2.2.2.2.2.1, (x.2.2.2.2.2.2.1, (x.2.2.2.2.2.2.2.1, (x.2.2.2.2.2.2.2.2.1, (x.2.2.2.2.2.2.2.2.2.1, (x.2.2.2.2.2.2.2.2.2.2.1, (x.2.2.2.2.2.2.2.2.2.2.2.1, (x.2.2.2.2.2.2.2.2.2.2.2.2.1, (x.2.2.2.2.2.2.2.2.2.2.2.2.2.1, (x.2.2.2.2.2.2.2.2.2.2.2.2.2.2.1, (x.2.2.2.2.2.2.2.2.2.2.2.2.2.2.2.1, (x.2.2.2.2.2.2.2.2.2.2.2.2.2.2.2.2.1, (x.2.2.2.2.2.2.2.2.2.2.2.2.2.2.2.2.2.1, (x.2.2.2.2.2.2.2.2.2.2.2.2.2.2.2.2.2.2.1, (x.2.2.2.2.2.2.2.2.2.2.2.2.2.2.2.2.2.2.2.1, Unit.unit))))))))))))))))))))
   else (some (Sum.inl (false, (x.2.2.2.2.1, (x.2.2.2.2.2.1, (x.2.2.2.2.2.2.1, (x.2.2.2.2.2.2.2.1, (x.2.2.2.2.2.2.2.2.1, (x.2.2.2.2.2.2.2.2.2.1, (x.2.2.2.2.2.2.2.2.2.2.1, (x.2.2.2.2.2.2.2.2.2.2.2.1, (x.2.2.2.2.2.2.2.2.2.2.2.2.1, (x.2.2.2.2.2.2.2.2.2.2.2.2.2.1, (x.2.2.2.2.2.2.2.2.2.2.2.2.2.2.1, (x.2.2.2.2.2.2.2.2.2.2.2.2.2.2.2.1, (x.2.2.2.2.2.2.2.2.2.2.2.2.2.2.2.2.1, (x.2.2.2.2.2.2.2.2.2.2.2.2.2.2.2.2.2.1, (x.2.2.2.2.2.2.2.2.2.2.2.2.2.2.2.2.2.2.1, (x.2.2.2.2.2.2.2.2.2.2.2.2.2.2.2.2.2.2.2.1, Unit.unit))))))))))))))))))))
   else (some (Sum.inl (false, (x.2.2.2.2.1, (x.2.2.2.2.2.1, (x.2.2.2.2.2.2.1, (x.2.2.2.2.2.2.2.1, (x.2.2.2.2.2.2.2.2.1, (x.2.2.2.2.2.2.2.2.2.1, (x.2.2.2.2.2.2.2.2.2.2.1, (x.2.2.2.2.2.2.2.2.2.2.2.1, (x.2.2.2.2.2.2.2.2.2.2.2.2.1, (x.2.2.2.2.2.2.2.2.2.2.2.2.2.1, (x.2.2.2.2.2.2.2.2.2.2.2.2.2.2.1, (x.2.2.2.2.2.2.2.2.2.2.2.2.2.2.2.1, (x.2.2.2.2.2.2.2.2.2.2.2.2.2.2.2.2.1, (x.2.2.2.2.2.2.2.2.2.2.2.2.2.2.2.2.2.1, (x.2.2.2.2.2.2.2.2.2.2.2.2.2.2.2.2.2.2.1, (x.2.2.2.2.2.2.2.2.2.2.2.2.2.2.2.2.2.2.2.1, Unit.unit))))))))))))))))))))
theorem b4_1_eq (x : g4_1.D) : b4_1 x = evF P (T3.orc _) Go.Proofs.Try.f4.ntmps fx4 (Code.at [true, true, true, true, true, false, false] c4) (planAt 64 []) g4_1 x (injK fx4 o4_1 some) := by kernel_rfl
theorem s4_1_ok : SubOk P Go.Proofs.Try.f4.ntmps fx4 (Code.at [true, true, true, true, true, false, false] c4) ⟨g4_1, o4_1, b4_1⟩ :=
  sub_ok (g := g4_1) (outs := o4_1) (f := b4_1) (Table.ok T3_ok _) hmix (planAt_ok (P := P) (n := Go.Proofs.Try.f4.ntmps) (fx := fx4) (c := (Code.at [true, true, true, true, true, false, false] c4)) (d := 64) (l := []) trivial) b4_1_eq
noncomputable def f4 (x : gi4.D) : Option go4.D :=
  (Option.bind (Go.Ev.Matrix.f10 (x.1, (x.2.1, (x.2.2.1, (x.2.2.2.1, (x.2.2.2.2.1, (x.2.2.2.2.2.1, (x.2.2.2.2.2.2.1, (x.2.2.2.2.2.2.2.1, (x.2.2.2.2.2.2.2.2.1, (x.2.2.2.2.2.2.2.2.2.1, (x.2.2.2.2.2.2.2.2.2.2.1, (x.2.2.2.2.2.2.2.2.2.2.2.1, (x.2.2.2.2.2.2.2.2.2.2.2.2.1, (x.2.2.2.2.2.2.2.2.2.2.2.2.2.1, (x.2.2.2.2.2.2.2.2.2.2.2.2.2.2.1, (x.2.2.2.2.2.2.2.2.2.2.2.2.2.2.2.1, (x.2.2.2.2.2.2.2.2.2.2.2.2.2.2.2.2.1, (x.2.2.2.2.2.2.2.2.2.2.2.2.2.2.2.2.2.1, (x.2.2.2.2.2.2.2.2.2.2.2.2.2.2.2.2.2.2.1, (x.2.2.2.2.2.2.2.2.2.2.2.2.2.2.2.2.2.2.2.1, (x.2.2.2.2.2.2.2.2.2.2.2.2.2.2.2.2.2.2.2.2.1, (x.2.2.2.2.2.2.2.2.2.2.2.2.2.2.2.2.2.2.2.2.2.1, (x.2.2.2.2.2.2.2.2.2.2.2.2.2.2.2.2.2.2.2.2.2.2.1, (x.2.2.2.2.2.2.2.2.2.2.2.2.2.2.2.2.2.2.2.2.2.2.2.1, Unit.unit))))))))))))))))))))))))) (fun y1 => (Option.bind (Go.Ev.Matrix.f8 (y1.1, (y1.2.1, (y1.2.2.1, (y1.2.2.2.1, (y1.2.2.2.2.1, (y1.2.2.2.2.2.1, (y1.2.2.2.2.2.2.1, (y1.2.2.2.2.2.2.2.1, (y1.2.2.2.2.2.2.2.2.1, (y1.2.2.2.2.2.2.2.2.2.1, (y1.2.2.2.2.2.2.2.2.2.2.1, (y1.2.2.2.2.2.2.2.2.2.2.2.1, (x.2.2.2.2.2.2.2.2.2.2.2.2.2.2.2.2.2.2.2.2.2.2.2.2.1, (x.2.2.2.2.2.2.2.2.2.2.2.2.2.2.2.2.2.2.2.2.2.2.2.2.2.1, (x.2.2.2.2.2.2.2.2.2.2.2.2.2.2.2.2.2.2.2.2.2.2.2.2.2.2.1, (x.2.2.2.2.2.2.2.2.2.2.2.2.2.2.2.2.2.2.2.2.2.2.2.2.2.2.2.1, Unit.unit))))))))))))))))) (fun y2 => (Option.bind (Go.Ev.Matrix.f8 (x.1, (x.2.1, (x.2.2.1, (x.2.2.2.1, (x.2.2.2.2.1, (x.2.2.2.2.2.1, (x.2.2.2.2.2.2.1, (x.2.2.2.2.2.2.2.1, (x.2.2.2.2.2.2.2.2.1, (x.2.2.2.2.2.2.2.2.2.1, (x.2.2.2.2.2.2.2.2.2.2.1, (x.2.2.2.2.2.2.2.2.2.2.2.1, (x.2.2.2.2.2.2.2.2.2.2.2.2.2.2.2.2.2.2.2.2.2.2.2.2.1, (x.2.2.2.2.2.2.2.2.2.2.2.2.2.2.2.2.2.2.2.2.2.2.2.2.2.1, (x.2.2.2.2.2.2.2.2.2.2.2.2.2.2.2.2.2.2.2.2.2.2.2.2.2.2.1, (x.2.2.2.2.2.2.2.2.2.2.2.2.2.2.2.2.2.2.2.2.2.2.2.2.2.2.2.1, Unit.unit))))))))))))))))) (fun y3 => (Option.bind (Go.Ev.Matrix.f8 (x.2.2.2.2.2.2.2.2.2.2.2.2.1, (x.2.2.2.2.2.2.2.2.2.2.2.2.2.1, (x.2.2.2.2.2.2.2.2.2.2.2.2.2.2.1, (x.2.2.2.2.2.2.2.2.2.2.2.2.2.2.2.1, (x.2.2.2.2.2.2.2.2.2.2.2.2.2.2.2.2.1, (x.2.2.2.2.2.2.2.2.2.2.2.2.2.2.2.2.2.1, (x.2.2.2.2.2.2.2.2.2.2.2.2.2.2.2.2.2.2.1, (x.2.2.2.2.2.2.2.2.2.2.2.2.2.2.2.2.2.2.2.1, (x.2.2.2.2.2.2.2.2.2.2.2.2.2.2.2.2.2.2.2.2.1, (x.2.2.2.2.2.2.2.2.2.2.2.2.2.2.2.2.2.2.2.2.2.1, (x.2.2.2.2.2.2.2.2.2.2.2.2.2.2.2.2.2.2.2.2.2.2.1, (x.2.2.2.2.2.2.2.2.2.2.2.2.2.2.2.2.2.2.2.2.2.2.2.1, (y3.1, (y3.2.1, (y3.2.2.1, (y3.2.2.2.1, Unit.unit))))))))))))))))) (fun y4 => (Option.bind (Go.Ev.Matrix.b4_1 (y1.2.2.2.2.2.2.2.2.2.2.2.2.1, (y2.2.2.2.2.1, (y3.2.2.2.2.1, (y4.2.2.2.2.1, (x.1, (x.2.1, (x.2.2.1, (x.2.2.2.1, (x.2.2.2.2.1, (x.2.2.2.2.2.1, (x.2.2.2.2.2.2.1, (x.2.2.2.2.2.2.2.1, (x.2.2.2.2.2.2.2.2.1, (x.2.2.2.2.2.2.2.2.2.1, (x.2.2.2.2.2.2.2.2.2.2.1, (x.2.2.2.2.2.2.2.2.2.2.2.1, (x.2.2.2.2.2.2.2.2.2.2.2.2.2.2.2.2.2.2.2.2.2.2.2.2.1, (x.2.2.2.2.2.2.2.2.2.2.2.2.2.2.2.2.2.2.2.2.2.2.2.2.2.1, (x.2.2.2.2.2.2.2.2.2.2.2.2.2.2.2.2.2.2.2.2.2.2.2.2.2.2.1, (x.2.2.2.2.2.2.2.2.2.2.2.2.2.2.2.2.2.2.2.2.2.2.2.2.2.2.2.1, (y2.1, (y2.2.1, (y2.2.2.1, (y2.2.2.2.1, (y4.1, (y4.2.1, (y4.2.2.1, (y4.2.2.2.1, Unit.unit))))))))))))))))))))))))))))) (Sum.elim (fun y5 => (if (y5.1 = true) then (some (false, Unit.unit))
   else (Option.bind (Go.Ev.Matrix.f17 Unit.unit) (fun y6 => (Option.bind (Go.Ev.Matrix.f8 (y6.1, (y6.2.1, (y6.2.2.1, (y6.2.2.2.1, (y6.2.2.2.2.1, (y6.2.2.2.2.2.1, (y6.2.2.2.2.2.2.1, (y6.2.2.2.2.2.2.2.1, (y6.2.2.2.2.2.2.2.2.1, (y6.2.2.2.2.2.2.2.2.2.1, (y6.2.2.2.2.2.2.2.2.2.2.1, (y6.2.2.2.2.2.2.2.2.2.2.2.1, (y5.2.2.2.2.2.2.2.2.2.2.2.2.2.1, (y5.2.2.2.2.2.2.2.2.2.2.2.2.2.2.1, (y5.2.2.2.2.2.2.2.2.2.2.2.2.2.2.2.1, (y5.2.2.2.2.2.2.2.2.2.2.2.2.2.2.2.2.1, Unit.unit))))))))))))))))) (fun y7 => (Option.bind (Go.Ev.Matrix.f17 Unit.unit) (fun y8 => (Option.bind (Go.Ev.Matrix.f10 (y5.2.1, (y5.2.2.1, (y5.2.2.2.1, (y5.2.2.2.2.1, (y5.2.2.2.2.2.1, (y5.2.2.2.2.2.2.1, (y5.2.2.2.2.2.2.2.1, (y5.2.2.2.2.2.2.2.2.1, (y5.2.2.2.2.2.2.2.2.2.1, (y5.2.2.2.2.2.2.2.2.2.2.1, (y5.2.2.2.2.2.2.2.2.2.2.2.1, (y5.2.2.2.2.2.2.2.2.2.2.2.2.1, (y8.1, (y8.2.1, (y8.2.2.1, (y8.2.2.2.1, (y8.2.2.2.2.1, (y8.2.2.2.2.2.1, (y8.2.2.2.2.2.2.1, (y8.2.2.2.2.2.2.2.1, (y8.2.2.2.2.2.2.2.2.1, (y8.2.2.2.2.2.2.2.2.2.1, (y8.2.2.2.2.2.2.2.2.2.2.1, (y8.2.2.2.2.2.2.2.2.2.2.2.1, Unit.unit))))))))))))))))))))))))) (fun y9 => (Option.bind (Go.Ev.Matrix.f17 Unit.unit) (fun y10 => (Option.bind (Go.Ev.Matrix.f10 (y10.1, (y10.2.1, (y10.2.2.1, (y10.2.2.2.1, (y10.2.2.2.2.1, (y10.2.2.2.2.2.1, (y10.2.2.2.2.2.2.1, (y10.2.2.2.2.2.2.2.1, (y10.2.2.2.2.2.2.2.2.1, (y10.2.2.2.2.2.2.2.2.2.1, (y10.2.2.2.2.2.2.2.2.2.2.1, (y10.2.2.2.2.2.2.2.2.2.2.2.1, (y5.2.1, (y5.2.2.1, (y5.2.2.2.1, (y5.2.2.2.2.1, (y5.2.2.2.2.2.1, (y5.2.2.2.2.2.2.1, (y5.2.2.2.2.2.2.2.1, (y5.2.2.2.2.2.2.2.2.1, (y5.2.2.2.2.2.2.2.2.2.1, (y5.2.2.2.2.2.2.2.2.2.2.1, (y5.2.2.2.2.2.2.2.2.2.2.2.1, (y5.2.2.2.2.2.2.2.2.2.2.2.2.1, Unit.unit))))))))))))))))))))))))) (fun y11 => (Option.bind (Go.Ev.Matrix.b4_2 (y7.2.2.2.2.1, (y9.2.2.2.2.2.2.2.2.2.2.2.2.1, (y11.2.2.2.2.2.2.2.2.2.2.2.2.1, (y5.2.1, (y5.2.2.1, (y5.2.2.2.1, (y5.2.2.2.2.1, (y5.2.2.2.2.2.1, (y5.2.2.2.2.2.2.1, (y5.2.2.2.2.2.2.2.1, (y5.2.2.2.2.2.2.2.2.1, (y5.2.2.2.2.2.2.2.2.2.1, (y5.2.2.2.2.2.2.2.2.2.2.1, (y5.2.2.2.2.2.2.2.2.2.2.2.1, (y5.2.2.2.2.2.2.2.2.2.2.2.2.1, (y5.2.2.2.2.2.2.2.2.2.2.2.2.2.1, (y5.2.2.2.2.2.2.2.2.2.2.2.2.2.2.1, (y5.2.2.2.2.2.2.2.2.2.2.2.2.2.2.2.1, (y5.2.2.2.2.2.2.2.2.2.2.2.2.2.2.2.2.1, (y7.1, (y7.2.1, (y7.2.2.1, (y7.2.2.2.1, (y9.1, (y9.2.1, (y9.2.2.1, (y9.2.2.2.1, (y9.2.2.2.2.1, (y9.2.2.2.2.2.1, (y9.2.2.2.2.2.2.1, (y9.2.2.2.2.2.2.2.1, (y9.2.2.2.2.2.2.2.2.1, (y9.2.2.2.2.2.2.2.2.2.1, (y9.2.2.2.2.2.2.2.2.2.2.1, (y9.2.2.2.2.2.2.2.2.2.2.2.1, (y11.1, (y11.2.1, (y11.2.2.1, (y11.2.2.2.1, (y11.2.2.2.2.1, (y11.2.2.2.2.2.1, (y11.2.2.2.2.2.2.1, (y11.2.2.2.2.2.2.2.1, (y11.2.2.2.2.2.2.2.2.1, (y11.2.2.2.2.2.2.2.2.2.1, (y11.2.2.2.2.2.2.2.2.2.2.1, (y11.2.2.2.2.2.2.2.2.2.2.2.1, Unit.unit)))))))))))))))))))))))))))))))))))))))))))))))) (Sum.elim (fun y12 => (if (y12.2.2.1 = true) then (some (false, Unit.unit))
   else (Option.bind (Go.Ev.Matrix.f14 Unit.unit) (fun y13 => (if (y13.1 = true) then (Option.bind (Go.Ev.Matrix.f15 (y12.2.2.2.1, (y12.2.2.2.2.1, (y12.2.2.2.2.2.1, (y12.2.2.2.2.2.2.1, (y12.2.2.2.2.2.2.2.1, (y12.2.2.2.2.2.2.2.2.1, (y12.2.2.2.2.2.2.2.2.2.1, (y12.2.2.2.2.2.2.2.2.2.2.1, (y12.2.2.2.2.2.2.2.2.2.2.2.1, (y12.2.2.2.2.2.2.2.2.2.2.2.2.1, (y12.2.2.2.2.2.2.2.2.2.2.2.2.2.1, (y12.2.2.2.2.2.2.2.2.2.2.2.2.2.2.1, Unit.unit))))))))))))) (fun y14 => (if ((y14.1 != (0 : Int)) = true) then (some (true, Unit.unit))
   else (if ((y12.1 == (0 : Int)) = true) then (if ((y12.2.1 == (0 : Int)) = true) then (if ((Go.Ev.allEq ((((y12.2.2.2.2.2.2.2.2.2.2.2.2.2.2.2.1, y12.2.2.2.1) :: []) ++ (((y12.2.2.2.2.2.2.2.2.2.2.2.2.2.2.2.2.1, y12.2.2.2.2.1) :: []) ++ [])) ++ ((((y12.2.2.2.2.2.2.2.2.2.2.2.2.2.2.2.2.2.1, y12.2.2.2.2.2.1) :: []) ++ (((y12.2.2.2.2.2.2.2.2.2.2.2.2.2.2.2.2.2.2.1, y12.2.2.2.2.2.2.1) :: []) ++ [])) ++ ((((y12.2.2.2.2.2.2.2.2.2.2.2.2.2.2.2.2.2.2.2.1, y12.2.2.2.2.2.2.2.1) :: []) ++ (((y12.2.2.2.2.2.2.2.2.2.2.2.2.2.2.2.2.2.2.2.2.1, y12.2.2.2.2.2.2.2.2.1) :: []) ++ [])) ++ ((((y12.2.2.2.2.2.2.2.2.2.2.2.2.2.2.2.2.2.2.2.2.2.1, y12.2.2.2.2.2.2.2.2.2.1) :: []) ++ (((y12.2.2.2.2.2.2.2.2.2.2.2.2.2.2.2.2.2.2.2.2.2.2.1, y12.2.2.2.2.2.2.2.2.2.2.1) :: []) ++ [])) ++ ((((y12.2.2.2.2.2.2.2.2.2.2.2.2.2.2.2.2.2.2.2.2.2.2.2.1, y12.2.2.2.2.2.2.2.2.2.2.2.1) :: []) ++ (((y12.2.2.2.2.2.2.2.2.2.2.2.2.2.2.2.2.2.2.2.2.2.2.2.2.1, y12.2.2.2.2.2.2.2.2.2.2.2.2.1) :: []) ++ [])) ++ ((((y12.2.2.2.2.2.2.2.2.2.2.2.2.2.2.2.2.2.2.2.2.2.2.2.2.2.1, y12.2.2.2.2.2.2.2.2.2.2.2.2.2.1) :: []) ++ (((y12.2.2.2.2.2.2.2.2.2.2.2.2.2.2.2.2.2.2.2.2.2.2.2.2.2.2.1, y12.2.2.2.2.2.2.2.2.2.2.2.2.2.2.1) :: []) ++ [])) ++ []))))))) = true) then (some ((Go.Ev.allEq ((((y12.2.2.2.2.2.2.2.2.2.2.2.2.2.2.2.2.2.2.2.2.2.2.2.2.2.2.2.1, y12.2.2.2.1) :: []) ++ (((y12.2.2.2.2.2.2.2.2.2.2.2.2.2.2.2.2.2.2.2.2.2.2.2.2.2.2.2.2.1, y12.2.2.2.2.1) :: []) ++ [])) ++ ((((y12.2.2.2.2.2.2.2.2.2.2.2.2.2.2.2.2.2.2.2.2.2.2.2.2.2.2.2.2.2.1, y12.2.2.2.2.2.1) :: []) ++ (((y12.2.2.2.2.2.2.2.2.2.2.2.2.2.2.2.2.2.2.2.2.2.2.2.2.2.2.2.2.2.2.1, y12.2.2.2.2.2.2.1) :: []) ++ [])) ++ ((((y12.2.2.2.2.2.2.2.2.2.2.2.2.2.2.2.2.2.2.2.2.2.2.2.2.2.2.2.2.2.2.2.1, y12.2.2.2.2.2.2.2.1) :: []) ++ (((y12.2.2.2.2.2.2.2.2.2.2.2.2.2.2.2.2.2.2.2.2.2.2.2.2.2.2.2.2.2.2.2.2.1, y12.2.2.2.2.2.2.2.2.1) :: []) ++ [])) ++ ((((y12.2.2.2.2.2.2.2.2.2.2.2.2.2.2.2.2.2.2.2.2.2.2.2.2.2.2.2.2.2.2.2.2.2.1, y12.2.2.2.2.2.2.2.2.2.1) :: []) ++ (((y12.2.2.2.2.2.2.2.2.2.2.2.2.2.2.2.2.2.2.2.2.2.2.2.2.2.2.2.2.2.2.2.2.2.2.1, y12.2.2.2.2.2.2.2.2.2.2.1) :: []) ++ [])) ++ ((((y12.2.2.2.2.2.2.2.2.2.2.2.2.2.2.2.2.2.2.2.2.2.2.2.2.2.2.2.2.2.2.2.2.2.2.2.1, y12.2.2.2.2.2.2.2.2.2.2.2.1) :: []) ++ (((y12.2.2.2.2.2.2.2.2.2.2.2.2.2.2.2.2.2.2.2.2.2.2.2.2.2.2.2.2.2.2.2.2.2.2.2.2.1, y12.2.2.2.2.2.2.2.2.2.2.2.2.1) :: []) ++ [])) ++ ((((y12.2.2.2.2.2.2.2.2.2.2.2.2.2.2.2.2.2.2.2.2.2.2.2.2.2.2.2.2.2.2.2.2.2.2.2.2.2.1, y12.2.2.2.2.2.2.2.2.2.2.2.2.2.1) :: []) ++ (((y12.2.2.2.2.2.2.2.2.2.2.2.2.2.2.2.2.2.2.2.2.2.2.2.2.2.2.2.2.2.2.2.2.2.2.2.2.2.2.1, y12.2.2.2.2.2.2.2.2.2.2.2.2.2.2.1) :: []) ++ [])) ++ []))))))), Unit.unit))
   else (some (false, Unit.unit)))
   else (some (false, Unit.unit)))
   else (some (false, Unit.unit))))))
   else (some (false, Unit.unit))))))) Empty.elim)))))))))))))))) Empty.elim))))))))))
theorem f4_eq (x : gi4.D) : f4 x = evF P (T3.orc _) Go.Proofs.Try.f4.ntmps fx4 c4 (planAt 64 [([true, true, true, true, true, false, false], ⟨g4_1, o4_1, b4_1⟩), ([true, true, true, true, true, true, true, true, true, false, false], ⟨g4_2, o4_2, b4_2⟩)]) gi4 x (fnK fx4 [go4]) := by kernel_rfl
theorem pf4 : AllSub P Go.Proofs.Try.f4.ntmps fx4 c4 [([true, true, true, true, true, false, false], ⟨g4_1, o4_1, b4_1⟩), ([true, true, true, true, true, true, true, true, true, false, false], ⟨g4_2, o4_2, b4_2⟩)] := And.intro s4_1_ok (And.intro s4_2_ok (trivial))
theorem qf4 : PlanOk P Go.Proofs.Try.f4.ntmps fx4 (planAt 64 [([true, true, true, true, true, false, false], ⟨g4_1, o4_1, b4_1⟩), ([true, true, true, true, true, true, true, true, true, false, false], ⟨g4_2, o4_2, b4_2⟩)]) c4 := planAt_ok pf4
theorem f4_ok : EntOk P 4 ⟨gi4, [go4], f4⟩ :=
  ent_ok (fn := Go.Proofs.Try.f4) (gi := gi4) (gos := [go4]) (f := f4) (c := c4) (fx := fx4) ⟨Go.Proofs.Try.func4, by kernel_rfl, rfl, by decide +kernel, rfl, rfl⟩ (by kernel_rfl) (Table.ok T3_ok _) hmix (qf4) f4_eq
noncomputable def T4 : Table := T3.add 4 [⟨gi4, [go4], f4⟩] []
theorem T4_ok : TableOk P T4 := Table.plus T3_ok (es := [⟨gi4, [go4], f4⟩]) ⟨f4_ok, trivial⟩ []

/-! ## 5: erasure/erasurelaw02.MatrixHolds -/
noncomputable def c5 : Code := Func.code Go.Proofs.Try.f5
abbrev gi5 : Sg := ⟨[0, 1, 2], [.agg [.lf (.int .i64), .lf (.int .i64), .lf (.int .i64), .lf (.int .i64), .lf (.int .i64), .lf (.int .i64), .lf (.int .i64), .lf (.int .i64), .lf (.int .i64), .lf (.int .i64), .lf (.int .i64), .lf (.int .i64)], .agg [.lf (.int .i64), .lf (.int .i64), .lf (.int .i64), .lf (.int .i64), .lf (.int .i64), .lf (.int .i64), .lf (.int .i64), .lf (.int .i64), .lf (.int .i64), .lf (.int .i64), .lf (.int .i64), .lf (.int .i64)], .agg [.lf (.int .i64), .lf (.int .i64), .lf (.int .i64), .lf (.int .i64), .lf (.int .i64), .lf (.int .i64), .lf (.int .i64), .lf (.int .i64), .lf (.int .i64), .lf (.int .i64), .lf (.int .i64), .lf (.int .i64)]], []⟩
abbrev go5 : Sg := ⟨[6], [.lf .bool], []⟩
def fx5 : List Bool := []
noncomputable def f5 (x : gi5.D) : Option go5.D :=
  (Option.bind (Go.Ev.Matrix.f10 (x.1, (x.2.1, (x.2.2.1, (x.2.2.2.1, (x.2.2.2.2.1, (x.2.2.2.2.2.1, (x.2.2.2.2.2.2.1, (x.2.2.2.2.2.2.2.1, (x.2.2.2.2.2.2.2.2.1, (x.2.2.2.2.2.2.2.2.2.1, (x.2.2.2.2.2.2.2.2.2.2.1, (x.2.2.2.2.2.2.2.2.2.2.2.1, (x.2.2.2.2.2.2.2.2.2.2.2.2.1, (x.2.2.2.2.2.2.2.2.2.2.2.2.2.1, (x.2.2.2.2.2.2.2.2.2.2.2.2.2.2.1, (x.2.2.2.2.2.2.2.2.2.2.2.2.2.2.2.1, (x.2.2.2.2.2.2.2.2.2.2.2.2.2.2.2.2.1, (x.2.2.2.2.2.2.2.2.2.2.2.2.2.2.2.2.2.1, (x.2.2.2.2.2.2.2.2.2.2.2.2.2.2.2.2.2.2.1, (x.2.2.2.2.2.2.2.2.2.2.2.2.2.2.2.2.2.2.2.1, (x.2.2.2.2.2.2.2.2.2.2.2.2.2.2.2.2.2.2.2.2.1, (x.2.2.2.2.2.2.2.2.2.2.2.2.2.2.2.2.2.2.2.2.2.1, (x.2.2.2.2.2.2.2.2.2.2.2.2.2.2.2.2.2.2.2.2.2.2.1, (x.2.2.2.2.2.2.2.2.2.2.2.2.2.2.2.2.2.2.2.2.2.2.2.1, Unit.unit))))))))))))))))))))))))) (fun y1 => (Option.bind (Go.Ev.Matrix.f10 (y1.1, (y1.2.1, (y1.2.2.1, (y1.2.2.2.1, (y1.2.2.2.2.1, (y1.2.2.2.2.2.1, (y1.2.2.2.2.2.2.1, (y1.2.2.2.2.2.2.2.1, (y1.2.2.2.2.2.2.2.2.1, (y1.2.2.2.2.2.2.2.2.2.1, (y1.2.2.2.2.2.2.2.2.2.2.1, (y1.2.2.2.2.2.2.2.2.2.2.2.1, (x.2.2.2.2.2.2.2.2.2.2.2.2.2.2.2.2.2.2.2.2.2.2.2.2.1, (x.2.2.2.2.2.2.2.2.2.2.2.2.2.2.2.2.2.2.2.2.2.2.2.2.2.1, (x.2.2.2.2.2.2.2.2.2.2.2.2.2.2.2.2.2.2.2.2.2.2.2.2.2.2.1, (x.2.2.2.2.2.2.2.2.2.2.2.2.2.2.2.2.2.2.2.2.2.2.2.2.2.2.2.1, (x.2.2.2.2.2.2.2.2.2.2.2.2.2.2.2.2.2.2.2.2.2.2.2.2.2.2.2.2.1, (x.2.2.2.2.2.2.2.2.2.2.2.2.2.2.2.2.2.2.2.2.2.2.2.2.2.2.2.2.2.1, (x.2.2.2.2.2.2.2.2.2.2.2.2.2.2.2.2.2.2.2.2.2.2.2.2.2.2.2.2.2.2.1, (x.2.2.2.2.2.2.2.2.2.2.2.2.2.2.2.2.2.2.2.2.2.2.2.2.2.2.2.2.2.2.2.1, (x.2.2.2.2.2.2.2.2.2.2.2.2.2.2.2.2.2.2.2.2.2.2.2.2.2.2.2.2.2.2.2.2.1, (x.2.2.2.2.2.2.2.2.2.2.2.2.2.2.2.2.2.2.2.2.2.2.2.2.2.2.2.2.2.2.2.2.2.1, (x.2.2.2.2.2.2.2.2.2.2.2.2.2.2.2.2.2.2.2.2.2.2.2.2.2.2.2.2.2.2.2.2.2.2.1, (x.2.2.2.2.2.2.2.2.2.2.2.2.2.2.2.2.2.2.2.2.2.2.2.2.2.2.2.2.2.2.2.2.2.2.2.1, Unit.unit))))))))))))))))))))))))) (fun y2 => (Option.bind (Go.Ev.Matrix.f10 (x.2.2.2.2.2.2.2.2.2.2.2.2.1, (x.2.2.2.2.2.2.2.2.2.2.2.2.2.1, (x.2.2.2.2.2.2.2.2.2.2.2.2.2.2.1, (x.2.2.2.2.2.2.2.2.2.2.2.2.2.2.2.1, (x.2.2.2.2.2.2.2.2.2.2.2.2.2.2.2.2.1, (x.2.2.2.2.2.2.2.2.2.2.2.2.2.2.2.2.2.1, (x.2.2.2.2.2.2.2.2.2.2.2.2.2.2.2.2.2.2.1, (x.2.2.2.2.2.2.2.2.2.2.2.2.2.2.2.2.2.2.2.1, (x.2.2.2.2.2.2.2.2.2.2.2.2.2.2.2.2.2.2.2.2.1, (x.2.2.2.2.2.2.2.2.2.2.2.2.2.2.2.2.2.2.2.2.2.1, (x.2.2.2.2.2.2.2.2.2.2.2.2.2.2.2.2.2.2.2.2.2.2.1, (x.2.2.2.2.2.2.2.2.2.2.2.2.2.2.2.2.2.2.2.2.2.2.2.1, (x.2.2.2.2.2.2.2.2.2.2.2.2.2.2.2.2.2.2.2.2.2.2.2.2.1, (x.2.2.2.2.2.2.2.2.2.2.2.2.2.2.2.2.2.2.2.2.2.2.2.2.2.1, (x.2.2.2.2.2.2.2.2.2.2.2.2.2.2.2.2.2.2.2.2.2.2.2.2.2.2.1, (x.2.2.2.2.2.2.2.2.2.2.2.2.2.2.2.2.2.2.2.2.2.2.2.2.2.2.2.1, (x.2.2.2.2.2.2.2.2.2.2.2.2.2.2.2.2.2.2.2.2.2.2.2.2.2.2.2.2.1, (x.2.2.2.2.2.2.2.2.2.2.2.2.2.2.2.2.2.2.2.2.2.2.2.2.2.2.2.2.2.1, (x.2.2.2.2.2.2.2.2.2.2.2.2.2.2.2.2.2.2.2.2.2.2.2.2.2.2.2.2.2.2.1, (x.2.2.2.2.2.2.2.2.2.2.2.2.2.2.2.2.2.2.2.2.2.2.2.2.2.2.2.2.2.2.2.1, (x.2.2.2.2.2.2.2.2.2.2.2.2.2.2.2.2.2.2.2.2.2.2.2.2.2.2.2.2.2.2.2.2.1, (x.2.2.2.2.2.2.2.2.2.2.2.2.2.2.2.2.2.2.2.2.2.2.2.2.2.2.2.2.2.2.2.2.2.1, (x.2.2.2.2.2.2.2.2.2.2.2.2.2.2.2.2.2.2.2.2.2.2.2.2.2.2.2.2.2.2.2.2.2.2.1, (x.2.2.2.2.2.2.2.2.2.2.2.2.2.2.2.2.2.2.2.2.2.2.2.2.2.2.2.2.2.2.2.2.2.2.2.1, Unit.unit))))))))))))))))))))))))) (fun y3 => (Option.bind (Go.Ev.Matrix.f10 (x.1, (x.2.1, (x.2.2.1, (x.2.2.2.1, (x.2.2.2.2.1, (x.2.2.2.2.2.1, (x.2.2.2.2.2.2.1, (x.2.2.2.2.2.2.2.1, (x.2.2.2.2.2.2.2.2.1, (x.2.2.2.2.2.2.2.2.2.1, (x.2.2.2.2.2.2.2.2.2.2.1, (x.2.2.2.2.2.2.2.2.2.2.2.1, (y3.1, (y3.2.1, (y3.2.2.1, (y3.2.2.2.1, (y3.2.2.2.2.1, (y3.2.2.2.2.2.1, (y3.2.2.2.2.2.2.1, (y3.2.2.2.2.2.2.2.1, (y3.2.2.2.2.2.2.2.2.1, (y3.2.2.2.2.2.2.2.2.2.1, (y3.2.2.2.2.2.2.2.2.2.2.1, (y3.2.2.2.2.2.2.2.2.2.2.2.1, Unit.unit))))))))))))))))))))))))) (fun y4 => (Option.bind (Go.Ev.Matrix.f14 Unit.unit) (fun y5 => (if (y5.1 = true) then (if ((y1.2.2.2.2.2.2.2.2.2.2.2.2.1 != (0 : Int)) = true) then (some (true, Unit.unit))
   else (if ((y2.2.2.2.2.2.2.2.2.2.2.2.2.1 != (0 : Int)) = true) then (some (true, Unit.unit))
   else (if ((y3.2.2.2.2.2.2.2.2.2.2.2.2.1 != (0 : Int)) = true) then (some (true, Unit.unit))
   else (if ((y4.2.2.2.2.2.2.2.2.2.2.2.2.1 != (0 : Int)) = true) then (some (true, Unit.unit))
   else (some ((Go.Ev.allEq ((((y2.1, y4.1) :: []) ++ (((y2.2.1, y4.2.1) :: []) ++ [])) ++ ((((y2.2.2.1, y4.2.2.1) :: []) ++ (((y2.2.2.2.1, y4.2.2.2.1) :: []) ++ [])) ++ ((((y2.2.2.2.2.1, y4.2.2.2.2.1) :: []) ++ (((y2.2.2.2.2.2.1, y4.2.2.2.2.2.1) :: []) ++ [])) ++ ((((y2.2.2.2.2.2.2.1, y4.2.2.2.2.2.2.1) :: []) ++ (((y2.2.2.2.2.2.2.2.1, y4.2.2.2.2.2.2.2.1) :: []) ++ [])) ++ ((((y2.2.2.2.2.2.2.2.2.1, y4.2.2.2.2.2.2.2.2.1) :: []) ++ (((y2.2.2.2.2.2.2.2.2.2.1, y4.2.2.2.2.2.2.2.2.2.1) :: []) ++ [])) ++ ((((y2.2.2.2.2.2.2.2.2.2.2.1, y4.2.2.2.2.2.2.2.2.2.2.1) :: []) ++ (((y2.2.2.2.2.2.2.2.2.2.2.2.1, y4.2.2.2.2.2.2.2.2.2.2.2.1) :: []) ++ [])) ++ []))))))), Unit.unit))))))
   else (some (false, Unit.unit)))))))))))))
theorem f5_eq (x : gi5.D) : f5 x = evF P (T4.orc _) Go.Proofs.Try.f5.ntmps fx5 c5 (planAt 64 []) gi5 x (fnK fx5 [go5]) := by kernel_rfl
theorem f5_ok : EntOk P 5 ⟨gi5, [go5], f5⟩ :=
  ent_ok (fn := Go.Proofs.Try.f5) (gi := gi5) (gos := [go5]) (f := f5) (c := c5) (fx := fx5) ⟨Go.Proofs.Try.func5, by kernel_rfl, rfl, by decide +kernel, rfl, rfl⟩ (by kernel_rfl) (Table.ok T4_ok _) hmix (planAt_ok (P := P) (n := Go.Proofs.Try.f5.ntmps) (fx := fx5) (c := c5) (d := 64) (l := []) trivial) f5_eq
noncomputable def T5 : Table := T4.add 5 [⟨gi5, [go5], f5⟩] []
theorem T5_ok : TableOk P T5 := Table.plus T4_ok (es := [⟨gi5, [go5], f5⟩]) ⟨f5_ok, trivial⟩ []

/-! ## 6: erasure/erasurelaw02.MatrixSteps -/
noncomputable def c6 : Code := Func.code Go.Proofs.Try.f6
abbrev gi6 : Sg := ⟨[0, 1, 2], [.agg [.lf (.int .i64), .lf (.int .i64)], .agg [.lf (.int .i64), .lf (.int .i64)], .agg [.lf (.int .i64), .lf (.int .i64), .lf (.int .i64), .lf (.int .i64)]], []⟩
abbrev go6 : Sg := ⟨[6], [.lf .bool], []⟩
def fx6 : List Bool := []
abbrev g6_1 : Sg := ⟨[8, 10], [.lf (.int .i64), .lf (.int .i64)], []⟩
abbrev o6_1 : Outs := [(.normal, ⟨[6], [.lf .bool], []⟩)]
noncomputable def b6_1 (x : g6_1.D) : Option (outD o6_1) :=
  (Option.bind (Go.Ev.Matrix.f14 Unit.unit) (fun y1 => (if (y1.1 = true) then (if ((x.1 != (0 : Int)) = true) then (some (Sum.inl (true, Unit.unit)))
   else (some (Sum.inl ((x.2.1 == (1 : Int)), Unit.unit))))
   else (some (Sum.inl (false, Unit.unit))))))
theorem b6_1_eq (x : g6_1.D) : b6_1 x = evF P (T5.orc _) Go.Proofs.Try.f6.ntmps fx6 (Code.at [true, true, true, true, true, false, true, false, false] c6) (planAt 64 []) g6_1 x (injK fx6 o6_1 some) := by kernel_rfl
theorem s6_1_ok : SubOk P Go.Proofs.Try.f6.ntmps fx6 (Code.at [true, true, true, true, true, false, true, false, false] c6) ⟨g6_1, o6_1, b6_1⟩ :=
  sub_ok (g := g6_1) (outs := o6_1) (f := b6_1) (Table.ok T5_ok _) hmix (planAt_ok (P := P) (n := Go.Proofs.Try.f6.ntmps) (fx := fx6) (c := (Code.at [true, true, true, true, true, false, true, false, false] c6)) (d := 64) (l := []) trivial) b6_1_eq
noncomputable def f6 (x : gi6.D) : Option go6.D :=
  (Option.bind (Go.Ev.Matrix.f12 (x.1, (x.2.1, (x.2.2.1, (x.2.2.2.1, Unit.unit))))) (fun y1 => (Option.bind (Go.Ev.Matrix.f8 (y1.1, (y1.2.1, (y1.2.2.1, (y1.2.2.2.1, (y1.2.2.2.2.1, (y1.2.2.2.2.2.1, (y1.2.2.2.2.2.2.1, (y1.2.2.2.2.2.2.2.1, (y1.2.2.2.2.2.2.2.2.1, (y1.2.2.2.2.2.2.2.2.2.1, (y1.2.2.2.2.2.2.2.2.2.2.1, (y1.2.2.2.2.2.2.2.2.2.2.2.1, (x.2.2.2.2.1, (x.2.2.2.2.2.1, (x.2.2.2.2.2.2.1, (x.2.2.2.2.2.2.2.1, Unit.unit))))))))))))))))) (fun y2 => (Option.bind (Go.Ev.Matrix.f20 (x.2.2.2.2.1, (x.2.2.2.2.2.1, (x.1, (x.2.1, Unit.unit))))) (fun y3 => (Option.bind (Go.Ev.Matrix.f20 (x.2.2.2.2.2.2.1, (x.2.2.2.2.2.2.2.1, (x.2.2.1, (x.2.2.2.1, Unit.unit))))) (fun y4 => (if ((y1.2.2.2.2.2.2.2.2.2.2.2.2.1 != (0 : Int)) = true) then (Option.bind (Go.Ev.Matrix.b6_1 (y1.2.2.2.2.2.2.2.2.2.2.2.2.1, (y2.2.2.2.2.1, Unit.unit))) (Sum.elim (fun y5 => (some (y5.1, Unit.unit))) Empty.elim))
   else (Option.bind (Go.Ev.Matrix.f19 (x.2.2.2.2.1, (x.2.2.2.2.2.1, Unit.unit))) (fun y5 => (if ((y5.1 != (0 : Int)) = true) then (Option.bind (Go.Ev.Matrix.b6_1 (y1.2.2.2.2.2.2.2.2.2.2.2.2.1, (y2.2.2.2.2.1, Unit.unit))) (Sum.elim (fun y6 => (some (y6.1, Unit.unit))) Empty.elim))
   else (Option.bind (Go.Ev.Matrix.f19 (x.2.2.2.2.2.2.1, (x.2.2.2.2.2.2.2.1, Unit.unit))) (fun y6 => (if ((y6.1 != (0 : Int)) = true) then (Option.bind (Go.Ev.Matrix.b6_1 (y1.2.2.2.2.2.2.2.2.2.2.2.2.1, (y2.2.2.2.2.1, Unit.unit))) (Sum.elim (fun y7 => (some (y7.1, Unit.unit))) Empty.elim))
   else (if ((y3.2.2.1 != (0 : Int)) = true) then (Option.bind (Go.Ev.Matrix.f14 Unit.unit) (fun y7 => (if (y7.1 = true) then (some ((y2.2.2.2.2.1 == (5 : Int)), Unit.unit))
   else (some (false, Unit.unit)))))
   else (if ((y4.2.2.1 != (0 : Int)) = true) then (Option.bind (Go.Ev.Matrix.f14 Unit.unit) (fun y7 => (if (y7.1 = true) then (some ((y2.2.2.2.2.1 == (5 : Int)), Unit.unit))
   else (some (false, Unit.unit)))))
   else (Option.bind (Go.Ev.Matrix.f14 Unit.unit) (fun y7 => (if (y7.1 = true) then (if ((y2.2.2.2.2.1 == (0 : Int)) = true) then (some ((Go.Ev.allEq ((((y2.1, y3.1) :: []) ++ (((y2.2.1, y3.2.1) :: []) ++ [])) ++ ((((y2.2.2.1, y4.1) :: []) ++ (((y2.2.2.2.1, y4.2.1) :: []) ++ [])) ++ []))), Unit.unit))
   else (some (false, Unit.unit)))
   else (some (false, Unit.unit))))))))))))))))))))))
theorem f6_eq (x : gi6.D) : f6 x = evF P (T5.orc _) Go.Proofs.Try.f6.ntmps fx6 c6 (planAt 64 [([true, true, true, true, true, false, true, false, false], ⟨g6_1, o6_1, b6_1⟩)]) gi6 x (fnK fx6 [go6]) := by kernel_rfl
theorem pf6 : AllSub P Go.Proofs.Try.f6.ntmps fx6 c6 [([true, true, true, true, true, false, true, false, false], ⟨g6_1, o6_1, b6_1⟩)] := And.intro s6_1_ok (trivial)
theorem qf6 : PlanOk P Go.Proofs.Try.f6.ntmps fx6 (planAt 64 [([true, true, true, true, true, false, true, false, false], ⟨g6_1, o6_1, b6_1⟩)]) c6 := planAt_ok pf6
theorem f6_ok : EntOk P 6 ⟨gi6, [go6], f6⟩ :=
  ent_ok (fn := Go.Proofs.Try.f6) (gi := gi6) (gos := [go6]) (f := f6) (c := c6) (fx := fx6) ⟨Go.Proofs.Try.func6, by kernel_rfl, rfl, by decide +kernel, rfl, rfl⟩ (by kernel_rfl) (Table.ok T5_ok _) hmix (qf6) f6_eq
noncomputable def T6 : Table := T5.add 6 [⟨gi6, [go6], f6⟩] []
theorem T6_ok : TableOk P T6 := Table.plus T5_ok (es := [⟨gi6, [go6], f6⟩]) ⟨f6_ok, trivial⟩ []

/-! ## 7: erasure/erasurelaw02.MatrixAxes -/
noncomputable def c7 : Code := Func.code Go.Proofs.Try.f7
abbrev gi7 : Sg := ⟨[0], [.agg [.lf (.int .i64), .lf (.int .i64), .lf (.int .i64), .lf (.int .i64), .lf (.int .i64), .lf (.int .i64), .lf (.int .i64), .lf (.int .i64), .lf (.int .i64), .lf (.int .i64), .lf (.int .i64), .lf (.int .i64)]], []⟩
abbrev go7 : Sg := ⟨[2], [.lf .bool], []⟩
def fx7 : List Bool := []
abbrev g7_1 : Sg := ⟨[5], [.lf (.int .i64)], []⟩
abbrev o7_1 : Outs := [(.normal, ⟨[2], [.lf .bool], []⟩)]
noncomputable def b7_1 (x : g7_1.D) : Option (outD o7_1) :=
  (Option.bind (Go.Ev.Matrix.f14 Unit.unit) (fun y1 => (if (y1.1 = true) then (some (Sum.inl ((x.1 == (1 : Int)), Unit.unit)))
   else (some (Sum.inl (false, Unit.unit))))))
theorem b7_1_eq (x : g7_1.D) : b7_1 x = evF P (T6.orc _) Go.Proofs.Try.f7.ntmps fx7 (Code.at [true, true, true, true, true, false, true, false, false] c7) (planAt 64 []) g7_1 x (injK fx7 o7_1 some) := by kernel_rfl
theorem s7_1_ok : SubOk P Go.Proofs.Try.f7.ntmps fx7 (Code.at [true, true, true, true, true, false, true, false, false] c7) ⟨g7_1, o7_1, b7_1⟩ :=
  sub_ok (g := g7_1) (outs := o7_1) (f := b7_1) (Table.ok T6_ok _) hmix (planAt_ok (P := P) (n := Go.Proofs.Try.f7.ntmps) (fx := fx7) (c := (Code.at [true, true, true, true, true, false, true, false, false] c7)) (d := 64) (l := []) trivial) b7_1_eq
noncomputable def f7 (x : gi7.D) : Option go7.D :=
  (Option.bind (Go.Ev.Matrix.f8 (x.1, (x.2.1, (x.2.2.1, (x.2.2.2.1, (x.2.2.2.2.1, (x.2.2.2.2.2.1, (x.2.2.2.2.2.2.1, (x.2.2.2.2.2.2.2.1, (x.2.2.2.2.2.2.2.2.1, (x.2.2.2.2.2.2.2.2.2.1, (x.2.2.2.2.2.2.2.2.2.2.1, (x.2.2.2.2.2.2.2.2.2.2.2.1, ((0 : Int), ((0 : Int), ((0 : Int), ((0 : Int), Unit.unit))))))))))))))))) (fun y1 => (Option.bind (Go.Ev.Matrix.f8 (x.1, (x.2.1, (x.2.2.1, (x.2.2.2.1, (x.2.2.2.2.1, (x.2.2.2.2.2.1, (x.2.2.2.2.2.2.1, (x.2.2.2.2.2.2.2.1, ((0 : Int), ((0 : Int), ((0 : Int), ((0 : Int), ((1 : Int), ((0 : Int), ((0 : Int), ((0 : Int), Unit.unit))))))))))))))))) (fun y2 => (Option.bind (Go.Ev.Matrix.f8 (x.1, (x.2.1, (x.2.2.1, (x.2.2.2.1, (x.2.2.2.2.1, (x.2.2.2.2.2.1, (x.2.2.2.2.2.2.1, (x.2.2.2.2.2.2.2.1, ((0 : Int), ((0 : Int), ((0 : Int), ((0 : Int), ((0 : Int), ((0 : Int), ((1 : Int), ((0 : Int), Unit.unit))))))))))))))))) (fun y3 => (Option.bind (Go.Ev.Matrix.f15 (x.1, (x.2.1, (x.2.2.1, (x.2.2.2.1, (x.2.2.2.2.1, (x.2.2.2.2.2.1, (x.2.2.2.2.2.2.1, (x.2.2.2.2.2.2.2.1, (x.2.2.2.2.2.2.2.2.1, (x.2.2.2.2.2.2.2.2.2.1, (x.2.2.2.2.2.2.2.2.2.2.1, (x.2.2.2.2.2.2.2.2.2.2.2.1, Unit.unit))))))))))))) (fun y4 => (if ((y4.1 != (0 : Int)) = true) then (Option.bind (Go.Ev.Matrix.b7_1 (y1.2.2.2.2.1, Unit.unit)) (Sum.elim (fun y5 => (some (y5.1, Unit.unit))) Empty.elim))
   else (Option.bind (Go.Ev.Matrix.f14 Unit.unit) (fun y5 => (if (y5.1 = true) then (if ((y1.2.2.2.2.1 == (0 : Int)) = true) then (if ((y2.2.2.2.2.1 == y1.2.2.2.2.1) = true) then (if ((y3.2.2.2.2.1 == y1.2.2.2.2.1) = true) then (if ((Go.Ev.allEq ((((y1.1, x.2.2.2.2.2.2.2.2.1) :: []) ++ (((y1.2.1, x.2.2.2.2.2.2.2.2.2.1) :: []) ++ [])) ++ ((((y1.2.2.1, x.2.2.2.2.2.2.2.2.2.2.1) :: []) ++ (((y1.2.2.2.1, x.2.2.2.2.2.2.2.2.2.2.2.1) :: []) ++ [])) ++ []))) = true) then (if ((Go.Ev.allEq ((((y2.1, x.1) :: []) ++ (((y2.2.1, x.2.1) :: []) ++ [])) ++ ((((y2.2.2.1, x.2.2.1) :: []) ++ (((y2.2.2.2.1, x.2.2.2.1) :: []) ++ [])) ++ []))) = true) then (some ((Go.Ev.allEq ((((y3.1, x.2.2.2.2.1) :: []) ++ (((y3.2.1, x.2.2.2.2.2.1) :: []) ++ [])) ++ ((((y3.2.2.1, x.2.2.2.2.2.2.1) :: []) ++ (((y3.2.2.2.1, x.2.2.2.2.2.2.2.1) :: []) ++ [])) ++ []))), Unit.unit))
   else (some (false, Unit.unit)))
   else (some (false, Unit.unit)))
   else (some (false, Unit.unit)))
   else (some (false, Unit.unit)))
   else (some (false, Unit.unit)))
   else (some (false, Unit.unit))))))))))))))
theorem f7_eq (x : gi7.D) : f7 x = evF P (T6.orc _) Go.Proofs.Try.f7.ntmps fx7 c7 (planAt 64 [([true, true, true, true, true, false, true, false, false], ⟨g7_1, o7_1, b7_1⟩)]) gi7 x (fnK fx7 [go7]) := by kernel_rfl
theorem pf7 : AllSub P Go.Proofs.Try.f7.ntmps fx7 c7 [([true, true, true, true, true, false, true, false, false], ⟨g7_1, o7_1, b7_1⟩)] := And.intro s7_1_ok (trivial)
theorem qf7 : PlanOk P Go.Proofs.Try.f7.ntmps fx7 (planAt 64 [([true, true, true, true, true, false, true, false, false], ⟨g7_1, o7_1, b7_1⟩)]) c7 := planAt_ok pf7
theorem f7_ok : EntOk P 7 ⟨gi7, [go7], f7⟩ :=
  ent_ok (fn := Go.Proofs.Try.f7) (gi := gi7) (gos := [go7]) (f := f7) (c := c7) (fx := fx7) ⟨Go.Proofs.Try.func7, by kernel_rfl, rfl, by decide +kernel, rfl, rfl⟩ (by kernel_rfl) (Table.ok T6_ok _) hmix (qf7) f7_eq
noncomputable def T7 : Table := T6.add 7 [⟨gi7, [go7], f7⟩] []
theorem T7_ok : TableOk P T7 := Table.plus T6_ok (es := [⟨gi7, [go7], f7⟩]) ⟨f7_ok, trivial⟩ []

end Go.Ev.Matrix
