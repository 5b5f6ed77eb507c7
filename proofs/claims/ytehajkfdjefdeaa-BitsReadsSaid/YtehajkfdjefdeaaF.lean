/- Part of a proof about the given program: F. -/
import Derived.Test.YtehajkfdjefdeaaEvZ
import Derived.Test.YtehajkfdjefdeaaChecked
namespace Go.Ev.Bits
open Go.Ev

noncomputable abbrev P := Go.Proofs.Try.prog
set_option maxRecDepth 1000000
theorem hmix : P.follows .mixedOrders = true := by kernel_rfl

/-! ## 25: slices.Clone bytes -/
noncomputable def c25 : Code := Func.code Go.Proofs.Try.f25
abbrev gi25 : Sg := ⟨[0], [.lf (.sl (.int .u8))], []⟩
abbrev go25 : Sg := ⟨[2], [.lf (.gr (.int .u8) 0)], [some (.arr true (.int .u8))]⟩
def fx25 : List Bool := []
noncomputable def f25 (x : gi25.D) : Option go25.D :=
  (if ((List.length x.1) = (0 : Nat)) then (Go.Ev.amb (Go.Ev.Orc.eq (Go.Ev.Table.orcE Go.Ev.Table.empty (Go.Ev.Sg.D Go.Ev.Bits.go25) (Go.Ev.Sg.eq Go.Ev.Bits.go25) (Go.Ev.Sg.eq_eq Go.Ev.Bits.go25))) (some ([], Unit.unit)) (if (((0 : Nat) + (List.length x.1)) ≤ (140737488355328 : Nat)) then (if ((List.length ((List.take (0 : Nat) (List.drop (0 : Nat) (List.replicate (0 : Nat) (0 : Int)))) ++ x.1)) = (List.length ((List.take (0 : Nat) (List.drop (0 : Nat) (List.replicate (0 : Nat) (0 : Int)))) ++ x.1))) then (some (((List.take (0 : Nat) (List.drop (0 : Nat) (List.replicate (0 : Nat) (0 : Int)))) ++ x.1), Unit.unit))
   else none)
   else none))
   else (if (((0 : Nat) + (List.length x.1)) ≤ (140737488355328 : Nat)) then (if ((List.length ((List.take (0 : Nat) (List.drop (0 : Nat) (List.replicate (0 : Nat) (0 : Int)))) ++ x.1)) = (List.length ((List.take (0 : Nat) (List.drop (0 : Nat) (List.replicate (0 : Nat) (0 : Int)))) ++ x.1))) then (some (((List.take (0 : Nat) (List.drop (0 : Nat) (List.replicate (0 : Nat) (0 : Int)))) ++ x.1), Unit.unit))
   else none)
   else none))
theorem f25_eq (x : gi25.D) : f25 x = evF P (Table.empty.orcE go25.D go25.eq go25.eq_eq) Go.Proofs.Try.f25.ntmps fx25 c25 (planAt 64 []) gi25 x (fnK fx25 go25) := by kernel_rfl
theorem f25_ok : EntOk P 25 ⟨gi25, go25, f25⟩ :=
  ent_ok (e := ⟨gi25, go25, f25⟩) (c := c25) (fx := fx25) ⟨Go.Proofs.Try.func25, by kernel_rfl, rfl, by decide +kernel, by kernel_rfl, rfl, rfl⟩ (Table.okE (Table.empty_ok P) _ _ _) hmix (planAt_ok (d := 64) (l := []) trivial) f25_eq
noncomputable def T25 : Table := Table.empty.add 25 [⟨gi25, go25, f25⟩] []
theorem T25_ok : TableOk P T25 := Table.plus (Table.empty_ok P) (es := [⟨gi25, go25, f25⟩]) ⟨f25_ok, trivial⟩ []

/-! ## 8: NewWriter -/
noncomputable def c8 : Code := Func.code Go.Proofs.Try.f8
abbrev gi8 : Sg := ⟨[], [], []⟩
abbrev go8 : Sg := ⟨[0], [.lf (.ptr 0 0)], [some (.box true [.lf (.gr (.int .u8) 1), .lf (.int .i64), .lf (.int .i64)]), some (.arr true (.int .u8))]⟩
def fx8 : List Bool := []
noncomputable def f8 (_ : gi8.D) : Option go8.D :=
  (some ((0 : Int), ((0 : Int), ([], Unit.unit))))
theorem f8_eq (x : gi8.D) : f8 x = evF P (T25.orc _) Go.Proofs.Try.f8.ntmps fx8 c8 (planAt 64 []) gi8 x (fnK fx8 go8) := by kernel_rfl
theorem f8_ok : EntOk P 8 ⟨gi8, go8, f8⟩ :=
  ent_ok (e := ⟨gi8, go8, f8⟩) (c := c8) (fx := fx8) ⟨Go.Proofs.Try.func8, by kernel_rfl, rfl, by decide +kernel, by kernel_rfl, rfl, rfl⟩ (Table.ok T25_ok _) hmix (planAt_ok (d := 64) (l := []) trivial) f8_eq
noncomputable def T8 : Table := T25.add 8 [⟨gi8, go8, f8⟩] []
theorem T8_ok : TableOk P T8 := Table.plus T25_ok (es := [⟨gi8, go8, f8⟩]) ⟨f8_ok, trivial⟩ []

/-! ## 12: NewReader -/
noncomputable def c12 : Code := Func.code Go.Proofs.Try.f12
abbrev gi12 : Sg := ⟨[0], [.lf (.sl (.int .u8))], []⟩
abbrev go12 : Sg := ⟨[2], [.lf (.ptr 0 0)], [some (.box true [.lf (.sl (.int .u8)), .lf (.int .i64), .lf (.int .i64), .lf (.int .i64)])]⟩
def fx12 : List Bool := []
noncomputable def f12 (x : gi12.D) : Option go12.D :=
  (Option.bind (Go.Ev.Bits.f25 (x.1, Unit.unit)) (fun y1 => (some ((List.take (List.length y1.1) (List.drop (0 : Nat) y1.1)), ((0 : Int), ((0 : Int), ((0 : Int), Unit.unit)))))))
theorem f12_eq (x : gi12.D) : f12 x = evF P (T8.orc _) Go.Proofs.Try.f12.ntmps fx12 c12 (planAt 64 []) gi12 x (fnK fx12 go12) := by kernel_rfl
theorem f12_ok : EntOk P 12 ⟨gi12, go12, f12⟩ :=
  ent_ok (e := ⟨gi12, go12, f12⟩) (c := c12) (fx := fx12) ⟨Go.Proofs.Try.func12, by kernel_rfl, rfl, by decide +kernel, by kernel_rfl, rfl, rfl⟩ (Table.ok T8_ok _) hmix (planAt_ok (d := 64) (l := []) trivial) f12_eq
noncomputable def T12 : Table := T8.add 12 [⟨gi12, go12, f12⟩] []
theorem T12_ok : TableOk P T12 := Table.plus T8_ok (es := [⟨gi12, go12, f12⟩]) ⟨f12_ok, trivial⟩ []

/-! ## 42: Reader.next -/
noncomputable def c42 : Code := Func.code Go.Proofs.Try.f42
abbrev gi42 : Sg := ⟨[0], [.lf (.ptr 0 0)], [some (.box true [.lf (.sl (.int .u8)), .lf (.int .i64), .lf (.int .i64), .lf (.int .i64)])]⟩
abbrev go42 : Sg := ⟨[2], [.lf (.int .u8)], [some (.box true [.lf (.sl (.int .u8)), .lf (.int .i64), .lf (.int .i64), .lf (.int .i64)])]⟩
def fx42 : List Bool := [true]
noncomputable def f42 (x : gi42.D) : Option go42.D :=
  (if ((0 : Int) ≤ x.2.1) then (if (x.2.1 < (((List.length x.1) : Nat) : Int)) then (some ((List.getD x.1 (Int.toNat x.2.1) (0 : Int)), (x.1, ((Go.IntKind.wrap Go.IntKind.i64 (x.2.1 + (1 : Int))), (x.2.2.1, (x.2.2.2.1, Unit.unit))))))
   else none)
   else none)
theorem f42_eq (x : gi42.D) : f42 x = evF P (T12.orc _) Go.Proofs.Try.f42.ntmps fx42 c42 (planAt 64 []) gi42 x (fnK fx42 go42) := by kernel_rfl
theorem f42_ok : EntOk P 42 ⟨gi42, go42, f42⟩ :=
  ent_ok (e := ⟨gi42, go42, f42⟩) (c := c42) (fx := fx42) ⟨Go.Proofs.Try.func42, by kernel_rfl, rfl, by decide +kernel, by kernel_rfl, rfl, rfl⟩ (Table.ok T12_ok _) hmix (planAt_ok (d := 64) (l := []) trivial) f42_eq
noncomputable def T42 : Table := T12.add 42 [⟨gi42, go42, f42⟩] []
theorem T42_ok : TableOk P T42 := Table.plus T12_ok (es := [⟨gi42, go42, f42⟩]) ⟨f42_ok, trivial⟩ []

/-! ## 10: Writer.Put -/
noncomputable def c10 : Code := Func.code Go.Proofs.Try.f10
abbrev gi10 : Sg := ⟨[0, 1, 2], [.lf (.ptr 0 0), .lf (.int .i64), .lf (.int .i64)], [some (.box true [.lf (.gr (.int .u8) 1), .lf (.int .i64), .lf (.int .i64)]), some (.arr true (.int .u8))]⟩
abbrev go10 : Sg := ⟨[6], [.lf (.int .i64)], [some (.box true [.lf (.gr (.int .u8) 2), .lf (.int .i64), .lf (.int .i64)]), none, some (.arr true (.int .u8))]⟩
def fx10 : List Bool := [true, false]
abbrev g10_1 : Sg := ⟨[0], [.lf (.ptr 0 0)], [some (.box true [.lf (.gr (.int .u8) 1), .lf (.int .i64), .lf (.int .i64)]), some (.arr true (.int .u8))]⟩
abbrev o10_1 : Outs := [(.exit 1, g10_1)]
noncomputable def b10_1 (x : g10_1.D) : Option (outD ((.normal, g10_1) :: o10_1)) :=
  (if ((decide (x.2.1 ≥ (8 : Int))) = true) then (if (((List.length (List.take (List.length x.2.2.1) (List.drop (0 : Nat) x.2.2.1))) + (List.length (List.take (1 : Nat) (List.drop (0 : Nat) (List.set (List.replicate (1 : Nat) (0 : Int)) (0 : Nat) (Go.IntKind.wrap Go.IntKind.u8 x.1)))))) ≤ (140737488355328 : Nat)) then (if ((List.length ((List.take (List.length x.2.2.1) (List.drop (0 : Nat) x.2.2.1)) ++ (List.take (1 : Nat) (List.drop (0 : Nat) (List.set (List.replicate (1 : Nat) (0 : Int)) (0 : Nat) (Go.IntKind.wrap Go.IntKind.u8 x.1)))))) = (List.length ((List.take (List.length x.2.2.1) (List.drop (0 : Nat) x.2.2.1)) ++ (List.take (1 : Nat) (List.drop (0 : Nat) (List.set (List.replicate (1 : Nat) (0 : Int)) (0 : Nat) (Go.IntKind.wrap Go.IntKind.u8 x.1))))))) then (some (Sum.inl ((Int.fdiv x.1 (256 : Int)), ((Go.IntKind.wrap Go.IntKind.i64 (x.2.1 - (8 : Int))), (((List.take (List.length x.2.2.1) (List.drop (0 : Nat) x.2.2.1)) ++ (List.take (1 : Nat) (List.drop (0 : Nat) (List.set (List.replicate (1 : Nat) (0 : Int)) (0 : Nat) (Go.IntKind.wrap Go.IntKind.u8 x.1))))), Unit.unit)))))
   else none)
   else none)
   else (if ((List.length x.2.2.1) = (List.length x.2.2.1)) then (some (Sum.inr (Sum.inl (x.1, (x.2.1, (x.2.2.1, Unit.unit))))))
   else none))
theorem b10_1_eq (x : g10_1.D) : b10_1 x = evF P (T42.orc _) Go.Proofs.Try.f10.ntmps fx10 (Code.at [true, true, true, false, true, false, false] c10) (planAt 64 []) g10_1 x (injK fx10 ((.normal, g10_1) :: o10_1) some) := by kernel_rfl
noncomputable def l10_1 : g10_1.D → Option (outD o10_1) := loopN g10_1 o10_1 b10_1 18446744073709551616
theorem at10_1 : Code.at [true, true, true, false, true, false] c10 = .loop (Code.at [true, true, true, false, true, false, false] c10) := by kernel_rfl
theorem s10_1_ok : SubOk P Go.Proofs.Try.f10.ntmps fx10 (Code.at [true, true, true, false, true, false] c10) ⟨g10_1, o10_1, l10_1⟩ := by
  rw [at10_1]
  exact loop_ok (sub_ok (ct := ⟨g10_1, ((.normal, g10_1) :: o10_1), b10_1⟩) (Table.ok T42_ok _) hmix (planAt_ok (d := 64) (l := []) trivial) b10_1_eq) rfl _
noncomputable def f10 (x : gi10.D) : Option go10.D :=
  (if ((decide (x.2.1 < (0 : Int))) = true) then (if ((List.length x.2.2.2.2.1) = (List.length x.2.2.2.2.1)) then (some ((1 : Int), (x.2.2.1, (x.2.2.2.1, (x.2.2.2.2.1, Unit.unit)))))
   else none)
   else (if ((decide (x.2.1 > (24 : Int))) = true) then (if ((List.length x.2.2.2.2.1) = (List.length x.2.2.2.2.1)) then (some ((1 : Int), (x.2.2.1, (x.2.2.2.1, (x.2.2.2.2.1, Unit.unit)))))
   else none)
   else (if ((decide (x.1 < (0 : Int))) = true) then (if ((List.length x.2.2.2.2.1) = (List.length x.2.2.2.2.1)) then (some ((1 : Int), (x.2.2.1, (x.2.2.2.1, (x.2.2.2.2.1, Unit.unit)))))
   else none)
   else (if (x.2.1 < (0 : Int)) then none
   else (if (((Int.fdiv x.1 ((2 : Int) ^ (Min.min (Int.toNat x.2.1) (64 : Nat)))) != (0 : Int)) = true) then (if ((List.length x.2.2.2.2.1) = (List.length x.2.2.2.2.1)) then (some ((1 : Int), (x.2.2.1, (x.2.2.2.1, (x.2.2.2.2.1, Unit.unit)))))
   else none)
   else (if (x.2.2.2.1 < (0 : Int)) then none
   else (if ((List.length x.2.2.2.2.1) = (List.length x.2.2.2.2.1)) then (Option.bind (Go.Ev.Bits.l10_1 ((Go.IntKind.wrap Go.IntKind.i64 (((BitVec.toNat ((BitVec.ofInt (64 : Nat) x.2.2.1) ||| (BitVec.ofInt (64 : Nat) (Go.IntKind.wrap Go.IntKind.i64 (x.1 * ((2 : Int) ^ (Min.min (Int.toNat x.2.2.2.1) (64 : Nat)))))))) : Nat) : Int)), ((Go.IntKind.wrap Go.IntKind.i64 (x.2.2.2.1 + x.2.1)), (x.2.2.2.2.1, Unit.unit)))) (Sum.elim (fun y1 => (if ((List.length y1.2.2.1) = (List.length y1.2.2.1)) then (some ((0 : Int), (y1.1, (y1.2.1, (y1.2.2.1, Unit.unit)))))
   else none)) Empty.elim))
   else none)))))))
theorem f10_eq (x : gi10.D) : f10 x = evF P (T42.orc _) Go.Proofs.Try.f10.ntmps fx10 c10 (planAt 64 [([true, true, true, false, true, false], ⟨g10_1, o10_1, l10_1⟩)]) gi10 x (fnK fx10 go10) := by kernel_rfl
theorem f10_ok : EntOk P 10 ⟨gi10, go10, f10⟩ :=
  ent_ok (e := ⟨gi10, go10, f10⟩) (c := c10) (fx := fx10) ⟨Go.Proofs.Try.func10, by kernel_rfl, rfl, by decide +kernel, by kernel_rfl, rfl, rfl⟩ (Table.ok T42_ok _) hmix (planAt_ok (d := 64) (l := [([true, true, true, false, true, false], ⟨g10_1, o10_1, l10_1⟩)]) ⟨s10_1_ok, trivial⟩) f10_eq
abbrev gi10_n : Sg := ⟨[0, 1, 2], [.lf .nilp, .lf (.int .i64), .lf (.int .i64)], []⟩
abbrev go10_n : Sg := ⟨[6], [.lf (.int .i64)], []⟩
def fx10_n : List Bool := []
noncomputable def f10_n (_ : gi10_n.D) : Option go10_n.D :=
  (some ((3 : Int), Unit.unit))
theorem f10_n_eq (x : gi10_n.D) : f10_n x = evF P (T42.orc _) Go.Proofs.Try.f10.ntmps fx10_n c10 (planAt 64 []) gi10_n x (fnK fx10_n go10_n) := by kernel_rfl
theorem f10_n_ok : EntOk P 10 ⟨gi10_n, go10_n, f10_n⟩ :=
  ent_ok (e := ⟨gi10_n, go10_n, f10_n⟩) (c := c10) (fx := fx10_n) ⟨Go.Proofs.Try.func10, by kernel_rfl, rfl, by decide +kernel, by kernel_rfl, rfl, rfl⟩ (Table.ok T42_ok _) hmix (planAt_ok (d := 64) (l := []) trivial) f10_n_eq
noncomputable def T10 : Table := T42.add 10 [⟨gi10, go10, f10⟩, ⟨gi10_n, go10_n, f10_n⟩] []
theorem T10_ok : TableOk P T10 := Table.plus T42_ok (es := [⟨gi10, go10, f10⟩, ⟨gi10_n, go10_n, f10_n⟩]) ⟨f10_ok, f10_n_ok, trivial⟩ []

/-! ## 11: Writer.Bytes -/
noncomputable def c11 : Code := Func.code Go.Proofs.Try.f11
abbrev gi11 : Sg := ⟨[0], [.lf (.ptr 0 0)], [some (.box true [.lf (.gr (.int .u8) 1), .lf (.int .i64), .lf (.int .i64)]), some (.arr true (.int .u8))]⟩
abbrev go11 : Sg := ⟨[2], [.lf (.gr (.int .u8) 2)], [some (.box true [.lf (.gr (.int .u8) 1), .lf (.int .i64), .lf (.int .i64)]), some (.arr true (.int .u8)), some (.arr true (.int .u8))]⟩
def fx11 : List Bool := [true, true]
noncomputable def f11 (x : gi11.D) : Option go11.D :=
  (Option.bind (Go.Ev.Bits.f25 ((List.take (List.length x.2.2.1) (List.drop (0 : Nat) x.2.2.1)), Unit.unit)) (fun y1 => (if ((decide (x.2.1 > (0 : Int))) = true) then (if (((List.length (List.take (List.length y1.1) (List.drop (0 : Nat) y1.1))) + (List.length (List.take (1 : Nat) (List.drop (0 : Nat) (List.set (List.replicate (1 : Nat) (0 : Int)) (0 : Nat) (Go.IntKind.wrap Go.IntKind.u8 x.1)))))) ≤ (140737488355328 : Nat)) then (if ((List.length ((List.take (List.length y1.1) (List.drop (0 : Nat) y1.1)) ++ (List.take (1 : Nat) (List.drop (0 : Nat) (List.set (List.replicate (1 : Nat) (0 : Int)) (0 : Nat) (Go.IntKind.wrap Go.IntKind.u8 x.1)))))) = (List.length ((List.take (List.length y1.1) (List.drop (0 : Nat) y1.1)) ++ (List.take (1 : Nat) (List.drop (0 : Nat) (List.set (List.replicate (1 : Nat) (0 : Int)) (0 : Nat) (Go.IntKind.wrap Go.IntKind.u8 x.1))))))) then (if ((List.length x.2.2.1) = (List.length x.2.2.1)) then (some (x.1, (x.2.1, (x.2.2.1, (((List.take (List.length y1.1) (List.drop (0 : Nat) y1.1)) ++ (List.take (1 : Nat) (List.drop (0 : Nat) (List.set (List.replicate (1 : Nat) (0 : Int)) (0 : Nat) (Go.IntKind.wrap Go.IntKind.u8 x.1))))), Unit.unit)))))
   else none)
   else none)
   else none)
   else (if ((List.length y1.1) = (List.length y1.1)) then (if ((List.length x.2.2.1) = (List.length x.2.2.1)) then (some (x.1, (x.2.1, (x.2.2.1, (y1.1, Unit.unit)))))
   else none)
   else none))))
theorem f11_eq (x : gi11.D) : f11 x = evF P (T10.orc _) Go.Proofs.Try.f11.ntmps fx11 c11 (planAt 64 []) gi11 x (fnK fx11 go11) := by kernel_rfl
theorem f11_ok : EntOk P 11 ⟨gi11, go11, f11⟩ :=
  ent_ok (e := ⟨gi11, go11, f11⟩) (c := c11) (fx := fx11) ⟨Go.Proofs.Try.func11, by kernel_rfl, rfl, by decide +kernel, by kernel_rfl, rfl, rfl⟩ (Table.ok T10_ok _) hmix (planAt_ok (d := 64) (l := []) trivial) f11_eq
abbrev gi11_n : Sg := ⟨[0], [.lf .nilp], []⟩
abbrev go11_n : Sg := ⟨[2], [.lf (.sl (.int .u8))], []⟩
def fx11_n : List Bool := []
noncomputable def f11_n (_ : gi11_n.D) : Option go11_n.D :=
  (some ([], Unit.unit))
theorem f11_n_eq (x : gi11_n.D) : f11_n x = evF P (T10.orc _) Go.Proofs.Try.f11.ntmps fx11_n c11 (planAt 64 []) gi11_n x (fnK fx11_n go11_n) := by kernel_rfl
theorem f11_n_ok : EntOk P 11 ⟨gi11_n, go11_n, f11_n⟩ :=
  ent_ok (e := ⟨gi11_n, go11_n, f11_n⟩) (c := c11) (fx := fx11_n) ⟨Go.Proofs.Try.func11, by kernel_rfl, rfl, by decide +kernel, by kernel_rfl, rfl, rfl⟩ (Table.ok T10_ok _) hmix (planAt_ok (d := 64) (l := []) trivial) f11_n_eq
noncomputable def T11 : Table := T10.add 11 [⟨gi11, go11, f11⟩, ⟨gi11_n, go11_n, f11_n⟩] []
theorem T11_ok : TableOk P T11 := Table.plus T10_ok (es := [⟨gi11, go11, f11⟩, ⟨gi11_n, go11_n, f11_n⟩]) ⟨f11_ok, f11_n_ok, trivial⟩ []

/-! ## 14: Reader.Left -/
noncomputable def c14 : Code := Func.code Go.Proofs.Try.f14
abbrev gi14 : Sg := ⟨[0], [.lf (.ptr 0 0)], [some (.box true [.lf (.sl (.int .u8)), .lf (.int .i64), .lf (.int .i64), .lf (.int .i64)])]⟩
abbrev go14 : Sg := ⟨[2], [.lf (.int .i64)], [some (.box true [.lf (.sl (.int .u8)), .lf (.int .i64), .lf (.int .i64), .lf (.int .i64)])]⟩
def fx14 : List Bool := [true]
noncomputable def f14 (x : gi14.D) : Option go14.D :=
  (some ((Go.IntKind.wrap Go.IntKind.i64 ((Go.IntKind.wrap Go.IntKind.i64 ((8 : Int) * (Go.IntKind.wrap Go.IntKind.i64 ((((List.length x.1) : Nat) : Int) - x.2.1)))) + x.2.2.2.1)), (x.1, (x.2.1, (x.2.2.1, (x.2.2.2.1, Unit.unit))))))
theorem f14_eq (x : gi14.D) : f14 x = evF P (T11.orc _) Go.Proofs.Try.f14.ntmps fx14 c14 (planAt 64 []) gi14 x (fnK fx14 go14) := by kernel_rfl
theorem f14_ok : EntOk P 14 ⟨gi14, go14, f14⟩ :=
  ent_ok (e := ⟨gi14, go14, f14⟩) (c := c14) (fx := fx14) ⟨Go.Proofs.Try.func14, by kernel_rfl, rfl, by decide +kernel, by kernel_rfl, rfl, rfl⟩ (Table.ok T11_ok _) hmix (planAt_ok (d := 64) (l := []) trivial) f14_eq
abbrev gi14_n : Sg := ⟨[0], [.lf .nilp], []⟩
abbrev go14_n : Sg := ⟨[2], [.lf (.int .i64)], []⟩
def fx14_n : List Bool := []
noncomputable def f14_n (_ : gi14_n.D) : Option go14_n.D :=
  (some ((0 : Int), Unit.unit))
theorem f14_n_eq (x : gi14_n.D) : f14_n x = evF P (T11.orc _) Go.Proofs.Try.f14.ntmps fx14_n c14 (planAt 64 []) gi14_n x (fnK fx14_n go14_n) := by kernel_rfl
theorem f14_n_ok : EntOk P 14 ⟨gi14_n, go14_n, f14_n⟩ :=
  ent_ok (e := ⟨gi14_n, go14_n, f14_n⟩) (c := c14) (fx := fx14_n) ⟨Go.Proofs.Try.func14, by kernel_rfl, rfl, by decide +kernel, by kernel_rfl, rfl, rfl⟩ (Table.ok T11_ok _) hmix (planAt_ok (d := 64) (l := []) trivial) f14_n_eq
noncomputable def T14 : Table := T11.add 14 [⟨gi14, go14, f14⟩, ⟨gi14_n, go14_n, f14_n⟩] []
theorem T14_ok : TableOk P T14 := Table.plus T11_ok (es := [⟨gi14, go14, f14⟩, ⟨gi14_n, go14_n, f14_n⟩]) ⟨f14_ok, f14_n_ok, trivial⟩ []

/-! ## 13: Reader.Bits -/
noncomputable def c13 : Code := Func.code Go.Proofs.Try.f13
abbrev gi13 : Sg := ⟨[0, 1], [.lf (.ptr 0 0), .lf (.int .i64)], [some (.box true [.lf (.sl (.int .u8)), .lf (.int .i64), .lf (.int .i64), .lf (.int .i64)])]⟩
abbrev go13 : Sg := ⟨[4, 5], [.lf (.int .i64), .lf (.int .i64)], [some (.box true [.lf (.sl (.int .u8)), .lf (.int .i64), .lf (.int .i64), .lf (.int .i64)])]⟩
def fx13 : List Bool := [true]
abbrev g13_1 : Sg := ⟨[0, 1, 6], [.lf (.ptr 0 0), .lf (.int .i64), .lf (.ifc 32 (.ptr 0 0))], [some (.box true [.lf (.sl (.int .u8)), .lf (.int .i64), .lf (.int .i64), .lf (.int .i64)])]⟩
abbrev o13_1 : Outs := [(.exit 1, g13_1)]
noncomputable def b13_1 (x : g13_1.D) : Option (outD ((.normal, g13_1) :: o13_1)) :=
  (if ((decide (x.2.2.2.2.1 < x.1)) = true) then (Option.bind (Go.Ev.Bits.f42 (x.2.1, (x.2.2.1, (x.2.2.2.1, (x.2.2.2.2.1, Unit.unit))))) (fun y1 => (if (y1.2.2.2.2.1 < (0 : Int)) then none
   else (if ((decide (x.2.2.2.1 = y1.2.2.2.1)) = true) then (if ((decide (x.2.2.2.2.1 = y1.2.2.2.2.1)) = true) then (some (Sum.inl (x.1, (y1.2.1, (y1.2.2.1, ((Go.IntKind.wrap Go.IntKind.i64 (((BitVec.toNat ((BitVec.ofInt (64 : Nat) x.2.2.2.1) ||| (BitVec.ofInt (64 : Nat) (Go.IntKind.wrap Go.IntKind.i64 ((Go.IntKind.wrap Go.IntKind.i64 y1.1) * ((2 : Int) ^ (Min.min (Int.toNat y1.2.2.2.2.1) (64 : Nat)))))))) : Nat) : Int)), ((Go.IntKind.wrap Go.IntKind.i64 (y1.2.2.2.2.1 + (8 : Int))), Unit.unit)))))))
   else none)
   else none))))
   else (some (Sum.inr (Sum.inl (x.1, (x.2.1, (x.2.2.1, (x.2.2.2.1, (x.2.2.2.2.1, Unit.unit)))))))))
theorem b13_1_eq (x : g13_1.D) : b13_1 x = evF P (T14.orc _) Go.Proofs.Try.f13.ntmps fx13 (Code.at [true, true, true, false, false, false] c13) (planAt 64 []) g13_1 x (injK fx13 ((.normal, g13_1) :: o13_1) some) := by kernel_rfl
noncomputable def l13_1 : g13_1.D → Option (outD o13_1) := loopN g13_1 o13_1 b13_1 18446744073709551616
theorem at13_1 : Code.at [true, true, true, false, false] c13 = .loop (Code.at [true, true, true, false, false, false] c13) := by kernel_rfl
theorem s13_1_ok : SubOk P Go.Proofs.Try.f13.ntmps fx13 (Code.at [true, true, true, false, false] c13) ⟨g13_1, o13_1, l13_1⟩ := by
  rw [at13_1]
  exact loop_ok (sub_ok (ct := ⟨g13_1, ((.normal, g13_1) :: o13_1), b13_1⟩) (Table.ok T14_ok _) hmix (planAt_ok (d := 64) (l := []) trivial) b13_1_eq) rfl _
noncomputable def f13 (x : gi13.D) : Option go13.D :=
  (if ((decide (x.1 < (0 : Int))) = true) then (some ((0 : Int), ((1 : Int), (x.2.1, (x.2.2.1, (x.2.2.2.1, (x.2.2.2.2.1, Unit.unit)))))))
   else (if ((decide (x.1 > (24 : Int))) = true) then (some ((0 : Int), ((1 : Int), (x.2.1, (x.2.2.1, (x.2.2.2.1, (x.2.2.2.2.1, Unit.unit)))))))
   else (Option.bind (Go.Ev.Bits.f14 (x.2.1, (x.2.2.1, (x.2.2.2.1, (x.2.2.2.2.1, Unit.unit))))) (fun y1 => (if ((decide (x.1 > y1.1)) = true) then (some ((0 : Int), ((6 : Int), (y1.2.1, (y1.2.2.1, (y1.2.2.2.1, (y1.2.2.2.2.1, Unit.unit)))))))
   else (Option.bind (Go.Ev.Bits.l13_1 (x.1, (y1.2.1, (y1.2.2.1, (y1.2.2.2.1, (y1.2.2.2.2.1, Unit.unit)))))) (Sum.elim (fun y2 => (if (y2.1 < (0 : Int)) then none
   else (if (y2.1 < (0 : Int)) then none
   else (some ((Go.IntKind.wrap Go.IntKind.i64 (((BitVec.toNat ((BitVec.ofInt (64 : Nat) y2.2.2.2.1) &&& (BitVec.ofInt (64 : Nat) (Go.IntKind.wrap Go.IntKind.i64 ((Go.IntKind.wrap Go.IntKind.i64 ((1 : Int) * ((2 : Int) ^ (Min.min (Int.toNat y2.1) (64 : Nat))))) - (1 : Int)))))) : Nat) : Int)), ((0 : Int), (y2.2.1, (y2.2.2.1, ((Int.fdiv y2.2.2.2.1 ((2 : Int) ^ (Min.min (Int.toNat y2.1) (64 : Nat)))), ((Go.IntKind.wrap Go.IntKind.i64 (y2.2.2.2.2.1 - y2.1)), Unit.unit)))))))))) Empty.elim)))))))
theorem f13_eq (x : gi13.D) : f13 x = evF P (T14.orc _) Go.Proofs.Try.f13.ntmps fx13 c13 (planAt 64 [([true, true, true, false, false], ⟨g13_1, o13_1, l13_1⟩)]) gi13 x (fnK fx13 go13) := by kernel_rfl
theorem f13_ok : EntOk P 13 ⟨gi13, go13, f13⟩ :=
  ent_ok (e := ⟨gi13, go13, f13⟩) (c := c13) (fx := fx13) ⟨Go.Proofs.Try.func13, by kernel_rfl, rfl, by decide +kernel, by kernel_rfl, rfl, rfl⟩ (Table.ok T14_ok _) hmix (planAt_ok (d := 64) (l := [([true, true, true, false, false], ⟨g13_1, o13_1, l13_1⟩)]) ⟨s13_1_ok, trivial⟩) f13_eq
abbrev gi13_n : Sg := ⟨[0, 1], [.lf .nilp, .lf (.int .i64)], []⟩
abbrev go13_n : Sg := ⟨[4, 5], [.lf (.int .i64), .lf (.int .i64)], []⟩
def fx13_n : List Bool := []
noncomputable def f13_n (_ : gi13_n.D) : Option go13_n.D :=
  (some ((0 : Int), ((3 : Int), Unit.unit)))
theorem f13_n_eq (x : gi13_n.D) : f13_n x = evF P (T14.orc _) Go.Proofs.Try.f13.ntmps fx13_n c13 (planAt 64 []) gi13_n x (fnK fx13_n go13_n) := by kernel_rfl
theorem f13_n_ok : EntOk P 13 ⟨gi13_n, go13_n, f13_n⟩ :=
  ent_ok (e := ⟨gi13_n, go13_n, f13_n⟩) (c := c13) (fx := fx13_n) ⟨Go.Proofs.Try.func13, by kernel_rfl, rfl, by decide +kernel, by kernel_rfl, rfl, rfl⟩ (Table.ok T14_ok _) hmix (planAt_ok (d := 64) (l := []) trivial) f13_n_eq
noncomputable def T13 : Table := T14.add 13 [⟨gi13, go13, f13⟩, ⟨gi13_n, go13_n, f13_n⟩] []
theorem T13_ok : TableOk P T13 := Table.plus T14_ok (es := [⟨gi13, go13, f13⟩, ⟨gi13_n, go13_n, f13_n⟩]) ⟨f13_ok, f13_n_ok, trivial⟩ []

/-! ## 21: Reader.Align -/
noncomputable def c21 : Code := Func.code Go.Proofs.Try.f21
abbrev gi21 : Sg := ⟨[0], [.lf (.ptr 0 0)], [some (.box true [.lf (.sl (.int .u8)), .lf (.int .i64), .lf (.int .i64), .lf (.int .i64)])]⟩
abbrev go21 : Sg := ⟨[2], [.lf (.int .i64)], [some (.box true [.lf (.sl (.int .u8)), .lf (.int .i64), .lf (.int .i64), .lf (.int .i64)])]⟩
def fx21 : List Bool := [true]
noncomputable def f21 (x : gi21.D) : Option go21.D :=
  (some ((0 : Int), (x.1, ((Go.IntKind.wrap Go.IntKind.i64 (x.2.1 - (Go.IntKind.wrap Go.IntKind.i64 (Int.tdiv x.2.2.2.1 (8 : Int))))), ((0 : Int), ((0 : Int), Unit.unit))))))
theorem f21_eq (x : gi21.D) : f21 x = evF P (T13.orc _) Go.Proofs.Try.f21.ntmps fx21 c21 (planAt 64 []) gi21 x (fnK fx21 go21) := by kernel_rfl
theorem f21_ok : EntOk P 21 ⟨gi21, go21, f21⟩ :=
  ent_ok (e := ⟨gi21, go21, f21⟩) (c := c21) (fx := fx21) ⟨Go.Proofs.Try.func21, by kernel_rfl, rfl, by decide +kernel, by kernel_rfl, rfl, rfl⟩ (Table.ok T13_ok _) hmix (planAt_ok (d := 64) (l := []) trivial) f21_eq
abbrev gi21_n : Sg := ⟨[0], [.lf .nilp], []⟩
abbrev go21_n : Sg := ⟨[2], [.lf (.int .i64)], []⟩
def fx21_n : List Bool := []
noncomputable def f21_n (_ : gi21_n.D) : Option go21_n.D :=
  (some ((3 : Int), Unit.unit))
theorem f21_n_eq (x : gi21_n.D) : f21_n x = evF P (T13.orc _) Go.Proofs.Try.f21.ntmps fx21_n c21 (planAt 64 []) gi21_n x (fnK fx21_n go21_n) := by kernel_rfl
theorem f21_n_ok : EntOk P 21 ⟨gi21_n, go21_n, f21_n⟩ :=
  ent_ok (e := ⟨gi21_n, go21_n, f21_n⟩) (c := c21) (fx := fx21_n) ⟨Go.Proofs.Try.func21, by kernel_rfl, rfl, by decide +kernel, by kernel_rfl, rfl, rfl⟩ (Table.ok T13_ok _) hmix (planAt_ok (d := 64) (l := []) trivial) f21_n_eq
noncomputable def T21 : Table := T13.add 21 [⟨gi21, go21, f21⟩, ⟨gi21_n, go21_n, f21_n⟩] []
theorem T21_ok : TableOk P T21 := Table.plus T13_ok (es := [⟨gi21, go21, f21⟩, ⟨gi21_n, go21_n, f21_n⟩]) ⟨f21_ok, f21_n_ok, trivial⟩ []

/-! ## 16: Writer.Align -/
noncomputable def c16 : Code := Func.code Go.Proofs.Try.f16
abbrev gi16 : Sg := ⟨[0], [.lf (.ptr 0 0)], [some (.box true [.lf (.gr (.int .u8) 1), .lf (.int .i64), .lf (.int .i64)]), some (.arr true (.int .u8))]⟩
abbrev go16 : Sg := ⟨[2], [.lf (.int .i64)], [some (.box true [.lf (.gr (.int .u8) 2), .lf (.int .i64), .lf (.int .i64)]), none, some (.arr true (.int .u8))]⟩
def fx16 : List Bool := [true, false]
noncomputable def f16 (x : gi16.D) : Option go16.D :=
  (if ((List.length x.2.2.1) = (List.length x.2.2.1)) then (Option.bind (Go.Ev.Bits.f10 ((0 : Int), ((Go.IntKind.wrap Go.IntKind.i64 (((BitVec.toNat ((BitVec.ofInt (64 : Nat) (Go.IntKind.wrap Go.IntKind.i64 ((0 : Int) - x.2.1))) &&& (BitVec.ofInt (64 : Nat) (7 : Int)))) : Nat) : Int)), (x.1, (x.2.1, (x.2.2.1, Unit.unit)))))) (fun y1 => (if ((List.length y1.2.2.2.1) = (List.length y1.2.2.2.1)) then (some (y1.1, (y1.2.1, (y1.2.2.1, (y1.2.2.2.1, Unit.unit)))))
   else none)))
   else none)
theorem f16_eq (x : gi16.D) : f16 x = evF P (T21.orc _) Go.Proofs.Try.f16.ntmps fx16 c16 (planAt 64 []) gi16 x (fnK fx16 go16) := by kernel_rfl
theorem f16_ok : EntOk P 16 ⟨gi16, go16, f16⟩ :=
  ent_ok (e := ⟨gi16, go16, f16⟩) (c := c16) (fx := fx16) ⟨Go.Proofs.Try.func16, by kernel_rfl, rfl, by decide +kernel, by kernel_rfl, rfl, rfl⟩ (Table.ok T21_ok _) hmix (planAt_ok (d := 64) (l := []) trivial) f16_eq
abbrev gi16_n : Sg := ⟨[0], [.lf .nilp], []⟩
abbrev go16_n : Sg := ⟨[2], [.lf (.int .i64)], []⟩
def fx16_n : List Bool := []
noncomputable def f16_n (_ : gi16_n.D) : Option go16_n.D :=
  (some ((3 : Int), Unit.unit))
theorem f16_n_eq (x : gi16_n.D) : f16_n x = evF P (T21.orc _) Go.Proofs.Try.f16.ntmps fx16_n c16 (planAt 64 []) gi16_n x (fnK fx16_n go16_n) := by kernel_rfl
theorem f16_n_ok : EntOk P 16 ⟨gi16_n, go16_n, f16_n⟩ :=
  ent_ok (e := ⟨gi16_n, go16_n, f16_n⟩) (c := c16) (fx := fx16_n) ⟨Go.Proofs.Try.func16, by kernel_rfl, rfl, by decide +kernel, by kernel_rfl, rfl, rfl⟩ (Table.ok T21_ok _) hmix (planAt_ok (d := 64) (l := []) trivial) f16_n_eq
noncomputable def T16 : Table := T21.add 16 [⟨gi16, go16, f16⟩, ⟨gi16_n, go16_n, f16_n⟩] []
theorem T16_ok : TableOk P T16 := Table.plus T21_ok (es := [⟨gi16, go16, f16⟩, ⟨gi16_n, go16_n, f16_n⟩]) ⟨f16_ok, f16_n_ok, trivial⟩ []

/-! ## 23: Reader.Bytes -/
noncomputable def c23 : Code := Func.code Go.Proofs.Try.f23
abbrev gi23 : Sg := ⟨[0, 1], [.lf (.ptr 0 0), .lf (.int .i64)], [some (.box true [.lf (.sl (.int .u8)), .lf (.int .i64), .lf (.int .i64), .lf (.int .i64)])]⟩
abbrev go23 : Sg := ⟨[4, 5], [.lf (.gr (.int .u8) 1), .lf (.int .i64)], [some (.box true [.lf (.sl (.int .u8)), .lf (.int .i64), .lf (.int .i64), .lf (.int .i64)]), some (.arr true (.int .u8))]⟩
def fx23 : List Bool := [true]
noncomputable def f23 (x : gi23.D) : Option go23.D :=
  (if ((decide (x.1 < (0 : Int))) = true) then (some ((1 : Int), (x.2.1, (x.2.2.1, (x.2.2.2.1, (x.2.2.2.2.1, ([], Unit.unit)))))))
   else (Option.bind (Go.Ev.Bits.f21 (x.2.1, (x.2.2.1, (x.2.2.2.1, (x.2.2.2.2.1, Unit.unit))))) (fun y1 => (if ((decide (x.1 > (Go.IntKind.wrap Go.IntKind.i64 ((((List.length y1.2.1) : Nat) : Int) - y1.2.2.1)))) = true) then (some ((6 : Int), (y1.2.1, (y1.2.2.1, (y1.2.2.2.1, (y1.2.2.2.2.1, ([], Unit.unit)))))))
   else (if ((0 : Int) ≤ (Go.IntKind.wrap Go.IntKind.i64 (y1.2.2.1 + x.1))) then (if ((Go.IntKind.wrap Go.IntKind.i64 (y1.2.2.1 + x.1)) ≤ (((List.length y1.2.1) : Nat) : Int)) then (if ((0 : Int) ≤ (Go.IntKind.wrap Go.IntKind.i64 ((Go.IntKind.wrap Go.IntKind.i64 (y1.2.2.1 + x.1)) - x.1))) then (if ((Go.IntKind.wrap Go.IntKind.i64 ((Go.IntKind.wrap Go.IntKind.i64 (y1.2.2.1 + x.1)) - x.1)) ≤ (((Int.toNat (Go.IntKind.wrap Go.IntKind.i64 (y1.2.2.1 + x.1))) : Nat) : Int)) then (Option.bind (Go.Ev.Bits.f25 ((List.drop (Int.toNat (Go.IntKind.wrap Go.IntKind.i64 ((Go.IntKind.wrap Go.IntKind.i64 (y1.2.2.1 + x.1)) - x.1))) (List.take (Int.toNat (Go.IntKind.wrap Go.IntKind.i64 (y1.2.2.1 + x.1))) y1.2.1)), Unit.unit)) (fun y2 => (if ((List.length y2.1) = (List.length y2.1)) then (some ((0 : Int), (y1.2.1, ((Go.IntKind.wrap Go.IntKind.i64 (y1.2.2.1 + x.1)), (y1.2.2.2.1, (y1.2.2.2.2.1, (y2.1, Unit.unit)))))))
   else none)))
   else none)
   else none)
   else none)
   else none)))))
theorem f23_eq (x : gi23.D) : f23 x = evF P (T16.orc _) Go.Proofs.Try.f23.ntmps fx23 c23 (planAt 64 []) gi23 x (fnK fx23 go23) := by kernel_rfl
theorem f23_ok : EntOk P 23 ⟨gi23, go23, f23⟩ :=
  ent_ok (e := ⟨gi23, go23, f23⟩) (c := c23) (fx := fx23) ⟨Go.Proofs.Try.func23, by kernel_rfl, rfl, by decide +kernel, by kernel_rfl, rfl, rfl⟩ (Table.ok T16_ok _) hmix (planAt_ok (d := 64) (l := []) trivial) f23_eq
abbrev gi23_n : Sg := ⟨[0, 1], [.lf .nilp, .lf (.int .i64)], []⟩
abbrev go23_n : Sg := ⟨[4, 5], [.lf (.sl (.int .u8)), .lf (.int .i64)], []⟩
def fx23_n : List Bool := []
noncomputable def f23_n (_ : gi23_n.D) : Option go23_n.D :=
  (some ([], ((3 : Int), Unit.unit)))
theorem f23_n_eq (x : gi23_n.D) : f23_n x = evF P (T16.orc _) Go.Proofs.Try.f23.ntmps fx23_n c23 (planAt 64 []) gi23_n x (fnK fx23_n go23_n) := by kernel_rfl
theorem f23_n_ok : EntOk P 23 ⟨gi23_n, go23_n, f23_n⟩ :=
  ent_ok (e := ⟨gi23_n, go23_n, f23_n⟩) (c := c23) (fx := fx23_n) ⟨Go.Proofs.Try.func23, by kernel_rfl, rfl, by decide +kernel, by kernel_rfl, rfl, rfl⟩ (Table.ok T16_ok _) hmix (planAt_ok (d := 64) (l := []) trivial) f23_n_eq
noncomputable def T23 : Table := T16.add 23 [⟨gi23, go23, f23⟩, ⟨gi23_n, go23_n, f23_n⟩] []
theorem T23_ok : TableOk P T23 := Table.plus T16_ok (es := [⟨gi23, go23, f23⟩, ⟨gi23_n, go23_n, f23_n⟩]) ⟨f23_ok, f23_n_ok, trivial⟩ []

/-! ## 9: awake -/
noncomputable def c9 : Code := Func.code Go.Proofs.Try.f9
abbrev gi9 : Sg := ⟨[], [], []⟩
abbrev go9 : Sg := ⟨[0], [.lf .bool], []⟩
def fx9 : List Bool := []
noncomputable def f9 (_ : gi9.D) : Option go9.D :=
  (Option.bind (Go.Ev.Bits.f8 Unit.unit) (fun y1 => (Option.bind (Go.Ev.Bits.f12 ((List.take (2 : Nat) (List.drop (0 : Nat) (List.set (List.set (List.replicate (2 : Nat) (0 : Int)) (0 : Nat) (13 : Int)) (1 : Nat) (0 : Int)))), Unit.unit)) (fun y2 => (if ((List.length y1.2.2.1) = (List.length y1.2.2.1)) then (Option.bind (Go.Ev.Bits.f10 ((5 : Int), ((3 : Int), (y1.1, (y1.2.1, (y1.2.2.1, Unit.unit)))))) (fun y3 => (if ((List.length y3.2.2.2.1) = (List.length y3.2.2.2.1)) then (Option.bind (Go.Ev.Bits.f10 ((1 : Int), ((1 : Int), (y3.2.1, (y3.2.2.1, (y3.2.2.2.1, Unit.unit)))))) (fun y4 => (if ((List.length y4.2.2.2.1) = (List.length y4.2.2.2.1)) then (Option.bind (Go.Ev.Bits.f10 ((0 : Int), ((5 : Int), (y4.2.1, (y4.2.2.1, (y4.2.2.2.1, Unit.unit)))))) (fun y5 => (Option.bind (Go.Ev.Bits.f13 ((3 : Int), (y2.1, (y2.2.1, (y2.2.2.1, (y2.2.2.2.1, Unit.unit)))))) (fun y6 => (Option.bind (Go.Ev.Bits.f13 ((1 : Int), (y6.2.2.1, (y6.2.2.2.1, (y6.2.2.2.2.1, (y6.2.2.2.2.2.1, Unit.unit)))))) (fun y7 => (Option.bind (Go.Ev.Bits.f21 (y7.2.2.1, (y7.2.2.2.1, (y7.2.2.2.2.1, (y7.2.2.2.2.2.1, Unit.unit))))) (fun y8 => (if ((List.length y5.2.2.2.1) = (List.length y5.2.2.2.1)) then (Option.bind (Go.Ev.Bits.f11 (y5.2.1, (y5.2.2.1, (y5.2.2.2.1, Unit.unit)))) (fun y9 => (if (((ByteArray.toList (ByteArray.mk (List.toArray (List.map (fun y10 => (UInt8.ofNat (Int.toNat y10))) (List.take (List.length y9.2.2.2.1) (List.drop (0 : Nat) y9.2.2.2.1)))))) == (ByteArray.toList (ByteArray.mk #[13, 0]))) = true) then (if ((y5.1 == (0 : Int)) = true) then (if ((y6.1 == (5 : Int)) = true) then (if ((y6.2.1 == y5.1) = true) then (if ((y7.1 == (1 : Int)) = true) then (if ((y7.2.1 == y5.1) = true) then (if ((y8.1 == y5.1) = true) then (Option.bind (Go.Ev.Bits.f14 (y8.2.1, (y8.2.2.1, (y8.2.2.2.1, (y8.2.2.2.2.1, Unit.unit))))) (fun y10 => (some ((y10.1 == (8 : Int)), Unit.unit))))
   else (some (false, Unit.unit)))
   else (some (false, Unit.unit)))
   else (some (false, Unit.unit)))
   else (some (false, Unit.unit)))
   else (some (false, Unit.unit)))
   else (some (false, Unit.unit)))
   else (some (false, Unit.unit)))))
   else none)))))))))
   else none)))
   else none)))
   else none)))))
theorem f9_eq (x : gi9.D) : f9 x = evF P (T23.orc _) Go.Proofs.Try.f9.ntmps fx9 c9 (planAt 64 []) gi9 x (fnK fx9 go9) := by kernel_rfl
theorem f9_ok : EntOk P 9 ⟨gi9, go9, f9⟩ :=
  ent_ok (e := ⟨gi9, go9, f9⟩) (c := c9) (fx := fx9) ⟨Go.Proofs.Try.func9, by kernel_rfl, rfl, by decide +kernel, by kernel_rfl, rfl, rfl⟩ (Table.ok T23_ok _) hmix (planAt_ok (d := 64) (l := []) trivial) f9_eq
noncomputable def T9 : Table := T23.add 9 [⟨gi9, go9, f9⟩] []
theorem T9_ok : TableOk P T9 := Table.plus T23_ok (es := [⟨gi9, go9, f9⟩]) ⟨f9_ok, trivial⟩ []

/-! ## 3: BitsBack -/
noncomputable def c3 : Code := Func.code Go.Proofs.Try.f3
abbrev gi3 : Sg := ⟨[0], [.lf (.sl (.pair (.int .i64) (.pair (.int .i64) (.int .i64))))], []⟩
abbrev go3 : Sg := ⟨[2], [.lf .bool], []⟩
def fx3 : List Bool := []
abbrev g3_2 : Sg := ⟨[4, 8, 9], [.lf (.gr (.pair (.int .i64) (.pair (.int .i64) (.int .i64))) 1), .lf (.ptr 0 0), .lf (.int .i64)], [some (.box true [.lf (.sl (.int .u8)), .lf (.int .i64), .lf (.int .i64), .lf (.int .i64)]), some (.arr true (.pair (.int .i64) (.pair (.int .i64) (.int .i64))))]⟩
abbrev o3_2 : Outs := [(.exit 2, g3_2), (.ret, ⟨[2], [.lf .bool], []⟩)]
noncomputable def b3_2 (x : g3_2.D) : Option (outD ((.normal, g3_2) :: o3_2)) :=
  (if ((decide (x.1 < (((List.length x.2.2.2.2.2.1) : Nat) : Int))) = true) then (if ((0 : Int) ≤ x.1) then (if (x.1 < (((List.length x.2.2.2.2.2.1) : Nat) : Int)) then (Option.bind (Go.Ev.Bits.f13 ((List.getD x.2.2.2.2.2.1 ((0 : Nat) + (Int.toNat x.1)) ((0 : Int), ((0 : Int), (0 : Int)))).2.2, (x.2.1, (x.2.2.1, (x.2.2.2.1, (x.2.2.2.2.1, Unit.unit)))))) (fun y1 => (if ((y1.2.1 != (0 : Int)) = true) then (some (Sum.inr (Sum.inr (Sum.inl (false, Unit.unit)))))
   else (if ((0 : Int) ≤ x.1) then (if (x.1 < (((List.length x.2.2.2.2.2.1) : Nat) : Int)) then (if ((y1.1 != (List.getD x.2.2.2.2.2.1 ((0 : Nat) + (Int.toNat x.1)) ((0 : Int), ((0 : Int), (0 : Int)))).2.1) = true) then (some (Sum.inr (Sum.inr (Sum.inl (false, Unit.unit)))))
   else (if ((List.length x.2.2.2.2.2.1) = (List.length x.2.2.2.2.2.1)) then (some (Sum.inl ((Go.IntKind.wrap Go.IntKind.i64 (x.1 + (1 : Int))), (y1.2.2.1, (y1.2.2.2.1, (y1.2.2.2.2.1, (y1.2.2.2.2.2.1, (x.2.2.2.2.2.1, Unit.unit))))))))
   else none))
   else none)
   else none))))
   else none)
   else none)
   else (if ((List.length x.2.2.2.2.2.1) = (List.length x.2.2.2.2.2.1)) then (some (Sum.inr (Sum.inl (x.1, (x.2.1, (x.2.2.1, (x.2.2.2.1, (x.2.2.2.2.1, (x.2.2.2.2.2.1, Unit.unit)))))))))
   else none))
theorem b3_2_eq (x : g3_2.D) : b3_2 x = evF P (T9.orc _) Go.Proofs.Try.f3.ntmps fx3 (Code.at [true, true, true, true, true, true, true, true, true, false, true, false, false] c3) (planAt 64 []) g3_2 x (injK fx3 ((.normal, g3_2) :: o3_2) some) := by kernel_rfl
noncomputable def l3_2 : g3_2.D → Option (outD o3_2) := loopN g3_2 o3_2 b3_2 18446744073709551616
theorem at3_2 : Code.at [true, true, true, true, true, true, true, true, true, false, true, false] c3 = .loop (Code.at [true, true, true, true, true, true, true, true, true, false, true, false, false] c3) := by kernel_rfl
theorem s3_2_ok : SubOk P Go.Proofs.Try.f3.ntmps fx3 (Code.at [true, true, true, true, true, true, true, true, true, false, true, false] c3) ⟨g3_2, o3_2, l3_2⟩ := by
  rw [at3_2]
  exact loop_ok (sub_ok (ct := ⟨g3_2, ((.normal, g3_2) :: o3_2), b3_2⟩) (Table.ok T9_ok _) hmix (planAt_ok (d := 64) (l := []) trivial) b3_2_eq) rfl _
abbrev g3_1 : Sg := ⟨[0, 3, 4, 5, 6], [.lf (.sl (.pair (.int .i64) (.pair (.int .i64) (.int .i64)))), .lf (.ptr 0 0), .lf (.gr (.pair (.int .i64) (.pair (.int .i64) (.int .i64))) 2), .lf (.int .i64), .lf (.int .i64)], [some (.box true [.lf (.gr (.int .u8) 1), .lf (.int .i64), .lf (.int .i64)]), some (.arr true (.int .u8)), some (.arr true (.pair (.int .i64) (.pair (.int .i64) (.int .i64))))]⟩
abbrev o3_1 : Outs := [(.exit 0, g3_1)]
noncomputable def b3_1 (x : g3_1.D) : Option (outD ((.normal, g3_1) :: o3_1)) :=
  (if ((decide (x.2.2.1 < (((List.length x.1) : Nat) : Int))) = true) then (if ((0 : Int) ≤ x.2.2.1) then (if (x.2.2.1 < (((List.length x.1) : Nat) : Int)) then (if ((0 : Int) ≤ x.2.2.1) then (if (x.2.2.1 < (((List.length x.1) : Nat) : Int)) then (if ((List.length x.2.2.2.2.2.1) = (List.length x.2.2.2.2.2.1)) then (Option.bind (Go.Ev.Bits.f10 ((List.getD x.1 (Int.toNat x.2.2.1) ((0 : Int), ((0 : Int), (0 : Int)))).2.1, ((List.getD x.1 (Int.toNat x.2.2.1) ((0 : Int), ((0 : Int), (0 : Int)))).2.2, (x.2.2.2.1, (x.2.2.2.2.1, (x.2.2.2.2.2.1, Unit.unit)))))) (fun y1 => (if ((y1.1 == (0 : Int)) = true) then (if ((0 : Int) ≤ x.2.2.1) then (if (x.2.2.1 < (((List.length x.1) : Nat) : Int)) then (if (((List.length (List.take (List.length x.2.2.2.2.2.2.1) (List.drop (0 : Nat) x.2.2.2.2.2.2.1))) + (List.length (List.take (1 : Nat) (List.drop (0 : Nat) (List.set (List.replicate (1 : Nat) ((0 : Int), ((0 : Int), (0 : Int)))) (0 : Nat) ((List.getD x.1 (Int.toNat x.2.2.1) ((0 : Int), ((0 : Int), (0 : Int)))).1, ((List.getD x.1 (Int.toNat x.2.2.1) ((0 : Int), ((0 : Int), (0 : Int)))).2.1, (List.getD x.1 (Int.toNat x.2.2.1) ((0 : Int), ((0 : Int), (0 : Int)))).2.2))))))) ≤ (5864062014805 : Nat)) then (if ((0 : Int) ≤ x.2.2.1) then (if (x.2.2.1 < (((List.length x.1) : Nat) : Int)) then (if ((List.length ((List.take (List.length x.2.2.2.2.2.2.1) (List.drop (0 : Nat) x.2.2.2.2.2.2.1)) ++ (List.take (1 : Nat) (List.drop (0 : Nat) (List.set (List.replicate (1 : Nat) ((0 : Int), ((0 : Int), (0 : Int)))) (0 : Nat) ((List.getD x.1 (Int.toNat x.2.2.1) ((0 : Int), ((0 : Int), (0 : Int)))).1, ((List.getD x.1 (Int.toNat x.2.2.1) ((0 : Int), ((0 : Int), (0 : Int)))).2.1, (List.getD x.1 (Int.toNat x.2.2.1) ((0 : Int), ((0 : Int), (0 : Int)))).2.2))))))) = (List.length ((List.take (List.length x.2.2.2.2.2.2.1) (List.drop (0 : Nat) x.2.2.2.2.2.2.1)) ++ (List.take (1 : Nat) (List.drop (0 : Nat) (List.set (List.replicate (1 : Nat) ((0 : Int), ((0 : Int), (0 : Int)))) (0 : Nat) ((List.getD x.1 (Int.toNat x.2.2.1) ((0 : Int), ((0 : Int), (0 : Int)))).1, ((List.getD x.1 (Int.toNat x.2.2.1) ((0 : Int), ((0 : Int), (0 : Int)))).2.1, (List.getD x.1 (Int.toNat x.2.2.1) ((0 : Int), ((0 : Int), (0 : Int)))).2.2)))))))) then (if ((List.length y1.2.2.2.1) = (List.length y1.2.2.2.1)) then (some (Sum.inl (x.1, ((Go.IntKind.wrap Go.IntKind.i64 (x.2.1 + (List.getD x.1 (Int.toNat x.2.2.1) ((0 : Int), ((0 : Int), (0 : Int)))).2.2)), ((Go.IntKind.wrap Go.IntKind.i64 (x.2.2.1 + (1 : Int))), (y1.2.1, (y1.2.2.1, (y1.2.2.2.1, (((List.take (List.length x.2.2.2.2.2.2.1) (List.drop (0 : Nat) x.2.2.2.2.2.2.1)) ++ (List.take (1 : Nat) (List.drop (0 : Nat) (List.set (List.replicate (1 : Nat) ((0 : Int), ((0 : Int), (0 : Int)))) (0 : Nat) ((List.getD x.1 (Int.toNat x.2.2.1) ((0 : Int), ((0 : Int), (0 : Int)))).1, ((List.getD x.1 (Int.toNat x.2.2.1) ((0 : Int), ((0 : Int), (0 : Int)))).2.1, (List.getD x.1 (Int.toNat x.2.2.1) ((0 : Int), ((0 : Int), (0 : Int)))).2.2)))))), Unit.unit)))))))))
   else none)
   else none)
   else none)
   else none)
   else none)
   else none)
   else none)
   else (if ((List.length x.2.2.2.2.2.2.1) = (List.length x.2.2.2.2.2.2.1)) then (if ((List.length y1.2.2.2.1) = (List.length y1.2.2.2.1)) then (some (Sum.inl (x.1, (x.2.1, ((Go.IntKind.wrap Go.IntKind.i64 (x.2.2.1 + (1 : Int))), (y1.2.1, (y1.2.2.1, (y1.2.2.2.1, (x.2.2.2.2.2.2.1, Unit.unit)))))))))
   else none)
   else none))))
   else none)
   else none)
   else none)
   else none)
   else none)
   else (if ((List.length x.2.2.2.2.2.2.1) = (List.length x.2.2.2.2.2.2.1)) then (if ((List.length x.2.2.2.2.2.1) = (List.length x.2.2.2.2.2.1)) then (some (Sum.inr (Sum.inl (x.1, (x.2.1, (x.2.2.1, (x.2.2.2.1, (x.2.2.2.2.1, (x.2.2.2.2.2.1, (x.2.2.2.2.2.2.1, Unit.unit))))))))))
   else none)
   else none))
theorem b3_1_eq (x : g3_1.D) : b3_1 x = evF P (T9.orc _) Go.Proofs.Try.f3.ntmps fx3 (Code.at [true, true, true, true, true, false, true, false, false] c3) (planAt 64 []) g3_1 x (injK fx3 ((.normal, g3_1) :: o3_1) some) := by kernel_rfl
noncomputable def l3_1 : g3_1.D → Option (outD o3_1) := loopN g3_1 o3_1 b3_1 18446744073709551616
theorem at3_1 : Code.at [true, true, true, true, true, false, true, false] c3 = .loop (Code.at [true, true, true, true, true, false, true, false, false] c3) := by kernel_rfl
theorem s3_1_ok : SubOk P Go.Proofs.Try.f3.ntmps fx3 (Code.at [true, true, true, true, true, false, true, false] c3) ⟨g3_1, o3_1, l3_1⟩ := by
  rw [at3_1]
  exact loop_ok (sub_ok (ct := ⟨g3_1, ((.normal, g3_1) :: o3_1), b3_1⟩) (Table.ok T9_ok _) hmix (planAt_ok (d := 64) (l := []) trivial) b3_1_eq) rfl _
noncomputable def f3 (x : gi3.D) : Option go3.D :=
  (Option.bind (Go.Ev.Bits.f8 Unit.unit) (fun y1 => (if ((decide ((((List.length x.1) : Nat) : Int) > (200 : Int))) = true) then (Option.bind (Go.Ev.Bits.f9 Unit.unit) (fun y2 => (some (y2.1, Unit.unit))))
   else (if ((List.length y1.2.2.1) = (List.length y1.2.2.1)) then (Option.bind (Go.Ev.Bits.l3_1 (x.1, ((0 : Int), ((0 : Int), (y1.1, (y1.2.1, (y1.2.2.1, ([], Unit.unit)))))))) (Sum.elim (fun y2 => (if ((List.length y2.2.2.2.2.2.1) = (List.length y2.2.2.2.2.2.1)) then (Option.bind (Go.Ev.Bits.f11 (y2.2.2.2.1, (y2.2.2.2.2.1, (y2.2.2.2.2.2.1, Unit.unit)))) (fun y3 => (Option.bind (Go.Ev.Bits.f12 ((List.take (List.length y3.2.2.2.1) (List.drop (0 : Nat) y3.2.2.2.1)), Unit.unit)) (fun y4 => (if (((((List.length y3.2.2.2.1) : Nat) : Int) != (Go.IntKind.wrap Go.IntKind.i64 (Int.tdiv (Go.IntKind.wrap Go.IntKind.i64 (y2.2.1 + (7 : Int))) (8 : Int)))) = true) then (some (false, Unit.unit))
   else (if ((List.length y2.2.2.2.2.2.2.1) = (List.length y2.2.2.2.2.2.2.1)) then (Option.bind (Go.Ev.Bits.l3_2 ((0 : Int), (y4.1, (y4.2.1, (y4.2.2.1, (y4.2.2.2.1, (y2.2.2.2.2.2.2.1, Unit.unit))))))) (Sum.elim (fun y5 => (Option.bind (Go.Ev.Bits.f9 Unit.unit) (fun y6 => (if (y6.1 = true) then (Option.bind (Go.Ev.Bits.f14 (y5.2.1, (y5.2.2.1, (y5.2.2.2.1, (y5.2.2.2.2.1, Unit.unit))))) (fun y7 => (some ((decide (y7.1 < (8 : Int))), Unit.unit))))
   else (some (false, Unit.unit)))))) (Sum.elim (fun y5 => (some (y5.1, Unit.unit))) Empty.elim)))
   else none))))))
   else none)) Empty.elim))
   else none))))
theorem f3_eq (x : gi3.D) : f3 x = evF P (T9.orc _) Go.Proofs.Try.f3.ntmps fx3 c3 (planAt 64 [([true, true, true, true, true, false, true, false], ⟨g3_1, o3_1, l3_1⟩), ([true, true, true, true, true, true, true, true, true, false, true, false], ⟨g3_2, o3_2, l3_2⟩)]) gi3 x (fnK fx3 go3) := by kernel_rfl
theorem f3_ok : EntOk P 3 ⟨gi3, go3, f3⟩ :=
  ent_ok (e := ⟨gi3, go3, f3⟩) (c := c3) (fx := fx3) ⟨Go.Proofs.Try.func3, by kernel_rfl, rfl, by decide +kernel, by kernel_rfl, rfl, rfl⟩ (Table.ok T9_ok _) hmix (planAt_ok (d := 64) (l := [([true, true, true, true, true, false, true, false], ⟨g3_1, o3_1, l3_1⟩), ([true, true, true, true, true, true, true, true, true, false, true, false], ⟨g3_2, o3_2, l3_2⟩)]) ⟨s3_1_ok, s3_2_ok, trivial⟩) f3_eq
noncomputable def T3 : Table := T9.add 3 [⟨gi3, go3, f3⟩] []
theorem T3_ok : TableOk P T3 := Table.plus T9_ok (es := [⟨gi3, go3, f3⟩]) ⟨f3_ok, trivial⟩ []

/-! ## 7: BitsNil -/
noncomputable def c7 : Code := Func.code Go.Proofs.Try.f7
abbrev gi7 : Sg := ⟨[0], [.lf (.int .i64)], []⟩
abbrev go7 : Sg := ⟨[2], [.lf .bool], []⟩
def fx7 : List Bool := []
noncomputable def f7 (x : gi7.D) : Option go7.D :=
  (Option.bind (Go.Ev.Bits.f13_n (x.1, Unit.unit)) (fun y1 => (Option.bind (Go.Ev.Bits.f23_n (x.1, Unit.unit)) (fun y2 => (Option.bind (Go.Ev.Bits.f9 Unit.unit) (fun y3 => (if (y3.1 = true) then (if ((y1.1 == (0 : Int)) = true) then (if ((y1.2.1 == (3 : Int)) = true) then (if (((((List.length y2.1) : Nat) : Int) == (0 : Int)) = true) then (if ((y2.2.1 == (3 : Int)) = true) then (Option.bind (Go.Ev.Bits.f21_n Unit.unit) (fun y4 => (if ((y4.1 == (3 : Int)) = true) then (Option.bind (Go.Ev.Bits.f14_n Unit.unit) (fun y5 => (if ((y5.1 == (0 : Int)) = true) then (Option.bind (Go.Ev.Bits.f10_n (x.1, (x.1, Unit.unit))) (fun y6 => (if ((y6.1 == (3 : Int)) = true) then (Option.bind (Go.Ev.Bits.f16_n Unit.unit) (fun y7 => (if ((y7.1 == (3 : Int)) = true) then (Option.bind (Go.Ev.Bits.f11_n Unit.unit) (fun y8 => (some (((((List.length y8.1) : Nat) : Int) == (0 : Int)), Unit.unit))))
   else (some (false, Unit.unit)))))
   else (some (false, Unit.unit)))))
   else (some (false, Unit.unit)))))
   else (some (false, Unit.unit)))))
   else (some (false, Unit.unit)))
   else (some (false, Unit.unit)))
   else (some (false, Unit.unit)))
   else (some (false, Unit.unit)))
   else (some (false, Unit.unit)))))))))
theorem f7_eq (x : gi7.D) : f7 x = evF P (T3.orc _) Go.Proofs.Try.f7.ntmps fx7 c7 (planAt 64 []) gi7 x (fnK fx7 go7) := by kernel_rfl
theorem f7_ok : EntOk P 7 ⟨gi7, go7, f7⟩ :=
  ent_ok (e := ⟨gi7, go7, f7⟩) (c := c7) (fx := fx7) ⟨Go.Proofs.Try.func7, by kernel_rfl, rfl, by decide +kernel, by kernel_rfl, rfl, rfl⟩ (Table.ok T3_ok _) hmix (planAt_ok (d := 64) (l := []) trivial) f7_eq
noncomputable def T7 : Table := T3.add 7 [⟨gi7, go7, f7⟩] []
theorem T7_ok : TableOk P T7 := Table.plus T3_ok (es := [⟨gi7, go7, f7⟩]) ⟨f7_ok, trivial⟩ []

/-! ## 6: BitsBytes -/
noncomputable def c6 : Code := Func.code Go.Proofs.Try.f6
abbrev gi6 : Sg := ⟨[0], [.lf (.sl (.int .u8))], []⟩
abbrev go6 : Sg := ⟨[2], [.lf .bool], []⟩
def fx6 : List Bool := []
abbrev g6_1 : Sg := ⟨[0, 3, 4, 5, 6, 7], [.lf (.sl (.int .u8)), .lf (.ptr 0 0), .lf (.ptr 1 0), .lf (.gr (.int .u8) 2), .lf (.int .i64), .lf (.int .i64)], [some (.box true [.lf (.sl (.int .u8)), .lf (.int .i64), .lf (.int .i64), .lf (.int .i64)]), some (.box true [.lf (.sl (.int .u8)), .lf (.int .i64), .lf (.int .i64), .lf (.int .i64)]), some (.arr true (.int .u8))]⟩
abbrev o6_1 : Outs := [(.exit 0, g6_1), (.ret, ⟨[2], [.lf .bool], []⟩)]
noncomputable def b6_1 (x : g6_1.D) : Option (outD ((.normal, g6_1) :: o6_1)) :=
  (if ((decide (x.2.2.1 < (((List.length x.1) : Nat) : Int))) = true) then (Option.bind (Go.Ev.Bits.f13 ((8 : Int), (x.2.2.2.2.2.2.2.1, (x.2.2.2.2.2.2.2.2.1, (x.2.2.2.2.2.2.2.2.2.1, (x.2.2.2.2.2.2.2.2.2.2.1, Unit.unit)))))) (fun y1 => (if ((y1.2.1 != (0 : Int)) = true) then (some (Sum.inr (Sum.inr (Sum.inl (false, Unit.unit)))))
   else (if ((0 : Int) ≤ x.2.2.1) then (if (x.2.2.1 < (((List.length x.1) : Nat) : Int)) then (if ((y1.1 != (Go.IntKind.wrap Go.IntKind.i64 (List.getD x.1 (Int.toNat x.2.2.1) (0 : Int)))) = true) then (some (Sum.inr (Sum.inr (Sum.inl (false, Unit.unit)))))
   else (Option.bind (Go.Ev.Bits.f14 (y1.2.2.1, (y1.2.2.2.1, (y1.2.2.2.2.1, (y1.2.2.2.2.2.1, Unit.unit))))) (fun y2 => (if ((y2.1 != (Go.IntKind.wrap Go.IntKind.i64 ((8 : Int) * (Go.IntKind.wrap Go.IntKind.i64 ((Go.IntKind.wrap Go.IntKind.i64 ((((List.length x.1) : Nat) : Int) - x.2.2.1)) - (1 : Int)))))) = true) then (some (Sum.inr (Sum.inr (Sum.inl (false, Unit.unit)))))
   else (if ((List.length x.2.2.2.2.2.2.2.2.2.2.2.1) = (List.length x.2.2.2.2.2.2.2.2.2.2.2.1)) then (some (Sum.inl (x.1, (x.2.1, ((Go.IntKind.wrap Go.IntKind.i64 (x.2.2.1 + (1 : Int))), (x.2.2.2.1, (x.2.2.2.2.1, (x.2.2.2.2.2.1, (x.2.2.2.2.2.2.1, (y2.2.1, (y2.2.2.1, (y2.2.2.2.1, (y2.2.2.2.2.1, (x.2.2.2.2.2.2.2.2.2.2.2.1, Unit.unit))))))))))))))
   else none)))))
   else none)
   else none))))
   else (if ((List.length x.2.2.2.2.2.2.2.2.2.2.2.1) = (List.length x.2.2.2.2.2.2.2.2.2.2.2.1)) then (some (Sum.inr (Sum.inl (x.1, (x.2.1, (x.2.2.1, (x.2.2.2.1, (x.2.2.2.2.1, (x.2.2.2.2.2.1, (x.2.2.2.2.2.2.1, (x.2.2.2.2.2.2.2.1, (x.2.2.2.2.2.2.2.2.1, (x.2.2.2.2.2.2.2.2.2.1, (x.2.2.2.2.2.2.2.2.2.2.1, (x.2.2.2.2.2.2.2.2.2.2.2.1, Unit.unit)))))))))))))))
   else none))
theorem b6_1_eq (x : g6_1.D) : b6_1 x = evF P (T7.orc _) Go.Proofs.Try.f6.ntmps fx6 (Code.at [true, true, true, true, true, true, false, true, false, false] c6) (planAt 64 []) g6_1 x (injK fx6 ((.normal, g6_1) :: o6_1) some) := by kernel_rfl
noncomputable def l6_1 : g6_1.D → Option (outD o6_1) := loopN g6_1 o6_1 b6_1 18446744073709551616
theorem at6_1 : Code.at [true, true, true, true, true, true, false, true, false] c6 = .loop (Code.at [true, true, true, true, true, true, false, true, false, false] c6) := by kernel_rfl
theorem s6_1_ok : SubOk P Go.Proofs.Try.f6.ntmps fx6 (Code.at [true, true, true, true, true, true, false, true, false] c6) ⟨g6_1, o6_1, l6_1⟩ := by
  rw [at6_1]
  exact loop_ok (sub_ok (ct := ⟨g6_1, ((.normal, g6_1) :: o6_1), b6_1⟩) (Table.ok T7_ok _) hmix (planAt_ok (d := 64) (l := []) trivial) b6_1_eq) rfl _
noncomputable def f6 (x : gi6.D) : Option go6.D :=
  (if ((decide ((((List.length x.1) : Nat) : Int) > (500 : Int))) = true) then (some (true, Unit.unit))
   else (Option.bind (Go.Ev.Bits.f12 (x.1, Unit.unit)) (fun y1 => (Option.bind (Go.Ev.Bits.f12 (x.1, Unit.unit)) (fun y2 => (Option.bind (Go.Ev.Bits.f23 ((((List.length x.1) : Nat) : Int), (y1.1, (y1.2.1, (y1.2.2.1, (y1.2.2.2.1, Unit.unit)))))) (fun y3 => (if ((List.length y3.2.2.2.2.2.1) = (List.length y3.2.2.2.2.2.1)) then (Option.bind (Go.Ev.Bits.l6_1 (x.1, (y3.1, ((0 : Int), (y3.2.1, (y3.2.2.1, (y3.2.2.2.1, (y3.2.2.2.2.1, (y2.1, (y2.2.1, (y2.2.2.1, (y2.2.2.2.1, (y3.2.2.2.2.2.1, Unit.unit))))))))))))) (Sum.elim (fun y4 => (Option.bind (Go.Ev.Bits.f13 ((1 : Int), (y4.2.2.2.2.2.2.2.1, (y4.2.2.2.2.2.2.2.2.1, (y4.2.2.2.2.2.2.2.2.2.1, (y4.2.2.2.2.2.2.2.2.2.2.1, Unit.unit)))))) (fun y5 => (Option.bind (Go.Ev.Bits.f9 Unit.unit) (fun y6 => (if (y6.1 = true) then (if ((y4.2.1 == (0 : Int)) = true) then (if (((ByteArray.toList (ByteArray.mk (List.toArray (List.map (fun y7 => (UInt8.ofNat (Int.toNat y7))) (List.take (List.length y4.2.2.2.2.2.2.2.2.2.2.2.1) (List.drop (0 : Nat) y4.2.2.2.2.2.2.2.2.2.2.2.1)))))) == (ByteArray.toList (ByteArray.mk (List.toArray (List.map (fun y7 => (UInt8.ofNat (Int.toNat y7))) y4.1))))) = true) then (Option.bind (Go.Ev.Bits.f14 (y4.2.2.2.1, (y4.2.2.2.2.1, (y4.2.2.2.2.2.1, (y4.2.2.2.2.2.2.1, Unit.unit))))) (fun y7 => (if ((y7.1 == (0 : Int)) = true) then (some ((y5.2.1 == (6 : Int)), Unit.unit))
   else (some (false, Unit.unit)))))
   else (some (false, Unit.unit)))
   else (some (false, Unit.unit)))
   else (some (false, Unit.unit)))))))) (Sum.elim (fun y4 => (some (y4.1, Unit.unit))) Empty.elim)))
   else none))))))))
theorem f6_eq (x : gi6.D) : f6 x = evF P (T7.orc _) Go.Proofs.Try.f6.ntmps fx6 c6 (planAt 64 [([true, true, true, true, true, true, false, true, false], ⟨g6_1, o6_1, l6_1⟩)]) gi6 x (fnK fx6 go6) := by kernel_rfl
theorem f6_ok : EntOk P 6 ⟨gi6, go6, f6⟩ :=
  ent_ok (e := ⟨gi6, go6, f6⟩) (c := c6) (fx := fx6) ⟨Go.Proofs.Try.func6, by kernel_rfl, rfl, by decide +kernel, by kernel_rfl, rfl, rfl⟩ (Table.ok T7_ok _) hmix (planAt_ok (d := 64) (l := [([true, true, true, true, true, true, false, true, false], ⟨g6_1, o6_1, l6_1⟩)]) ⟨s6_1_ok, trivial⟩) f6_eq
noncomputable def T6 : Table := T7.add 6 [⟨gi6, go6, f6⟩] []
theorem T6_ok : TableOk P T6 := Table.plus T7_ok (es := [⟨gi6, go6, f6⟩]) ⟨f6_ok, trivial⟩ []

/-! ## 18: ref Own -/
noncomputable def c18 : Code := Func.code Go.Proofs.Try.f18
abbrev gi18 : Sg := ⟨[0], [.lf (.sl (.int .u8))], []⟩
abbrev go18 : Sg := ⟨[2], [.lf (.gr (.int .u8) 0)], [some (.arr true (.int .u8))]⟩
def fx18 : List Bool := []
noncomputable def f18 (x : gi18.D) : Option go18.D :=
  (if (((0 : Nat) + (List.length x.1)) ≤ (140737488355328 : Nat)) then (if ((List.length ([] ++ x.1)) = (List.length ([] ++ x.1))) then (some (([] ++ x.1), Unit.unit))
   else none)
   else none)
theorem f18_eq (x : gi18.D) : f18 x = evF P (T6.orc _) Go.Proofs.Try.f18.ntmps fx18 c18 (planAt 64 []) gi18 x (fnK fx18 go18) := by kernel_rfl
theorem f18_ok : EntOk P 18 ⟨gi18, go18, f18⟩ :=
  ent_ok (e := ⟨gi18, go18, f18⟩) (c := c18) (fx := fx18) ⟨Go.Proofs.Try.func18, by kernel_rfl, rfl, by decide +kernel, by kernel_rfl, rfl, rfl⟩ (Table.ok T6_ok _) hmix (planAt_ok (d := 64) (l := []) trivial) f18_eq
noncomputable def T18 : Table := T6.add 18 [⟨gi18, go18, f18⟩] []
theorem T18_ok : TableOk P T18 := Table.plus T6_ok (es := [⟨gi18, go18, f18⟩]) ⟨f18_ok, trivial⟩ []

/-! ## 19: ref Of -/
noncomputable def c19 : Code := Func.code Go.Proofs.Try.f19
abbrev gi19 : Sg := ⟨[0], [.lf (.sl (.int .u8))], []⟩
abbrev go19 : Sg := ⟨[2], [.lf (.sl .bool)], []⟩
def fx19 : List Bool := []
abbrev g19_2 : Sg := ⟨[0, 3, 4, 5, 6], [.lf (.sl (.int .u8)), .lf (.gr .bool 0), .lf (.int .i64), .lf (.int .i64), .lf (.int .i64)], [some (.arr true .bool)]⟩
abbrev o19_2 : Outs := [(.exit 2, g19_2)]
noncomputable def b19_2 (x : g19_2.D) : Option (outD ((.normal, g19_2) :: o19_2)) :=
  (if ((decide (x.2.2.2.1 < (8 : Int))) = true) then (if (((List.length (List.take (List.length x.2.2.2.2.1) (List.drop (0 : Nat) x.2.2.2.2.1))) + (List.length (List.take (1 : Nat) (List.drop (0 : Nat) (List.set (List.replicate (1 : Nat) false) (0 : Nat) ((Int.tmod x.2.2.1 (2 : Int)) == (1 : Int))))))) ≤ (140737488355328 : Nat)) then (if ((List.length ((List.take (List.length x.2.2.2.2.1) (List.drop (0 : Nat) x.2.2.2.2.1)) ++ (List.take (1 : Nat) (List.drop (0 : Nat) (List.set (List.replicate (1 : Nat) false) (0 : Nat) ((Int.tmod x.2.2.1 (2 : Int)) == (1 : Int))))))) = (List.length ((List.take (List.length x.2.2.2.2.1) (List.drop (0 : Nat) x.2.2.2.2.1)) ++ (List.take (1 : Nat) (List.drop (0 : Nat) (List.set (List.replicate (1 : Nat) false) (0 : Nat) ((Int.tmod x.2.2.1 (2 : Int)) == (1 : Int)))))))) then (some (Sum.inl (x.1, (x.2.1, ((Go.IntKind.wrap Go.IntKind.i64 (Int.tdiv x.2.2.1 (2 : Int))), ((Go.IntKind.wrap Go.IntKind.i64 (x.2.2.2.1 + (1 : Int))), (((List.take (List.length x.2.2.2.2.1) (List.drop (0 : Nat) x.2.2.2.2.1)) ++ (List.take (1 : Nat) (List.drop (0 : Nat) (List.set (List.replicate (1 : Nat) false) (0 : Nat) ((Int.tmod x.2.2.1 (2 : Int)) == (1 : Int)))))), Unit.unit)))))))
   else none)
   else none)
   else (if ((List.length x.2.2.2.2.1) = (List.length x.2.2.2.2.1)) then (some (Sum.inr (Sum.inl (x.1, (x.2.1, (x.2.2.1, (x.2.2.2.1, (x.2.2.2.2.1, Unit.unit))))))))
   else none))
theorem b19_2_eq (x : g19_2.D) : b19_2 x = evF P (T18.orc _) Go.Proofs.Try.f19.ntmps fx19 (Code.at [true, true, false, true, false, false, true, false, false, true, true, false, false] c19) (planAt 64 []) g19_2 x (injK fx19 ((.normal, g19_2) :: o19_2) some) := by kernel_rfl
noncomputable def l19_2 : g19_2.D → Option (outD o19_2) := loopN g19_2 o19_2 b19_2 18446744073709551616
theorem at19_2 : Code.at [true, true, false, true, false, false, true, false, false, true, true, false] c19 = .loop (Code.at [true, true, false, true, false, false, true, false, false, true, true, false, false] c19) := by kernel_rfl
theorem s19_2_ok : SubOk P Go.Proofs.Try.f19.ntmps fx19 (Code.at [true, true, false, true, false, false, true, false, false, true, true, false] c19) ⟨g19_2, o19_2, l19_2⟩ := by
  rw [at19_2]
  exact loop_ok (sub_ok (ct := ⟨g19_2, ((.normal, g19_2) :: o19_2), b19_2⟩) (Table.ok T18_ok _) hmix (planAt_ok (d := 64) (l := []) trivial) b19_2_eq) rfl _
abbrev g19_1 : Sg := ⟨[0, 3, 4], [.lf (.sl (.int .u8)), .lf (.gr .bool 0), .lf (.int .i64)], [some (.arr true .bool)]⟩
abbrev o19_1 : Outs := [(.exit 0, g19_1)]
noncomputable def b19_1 (x : g19_1.D) : Option (outD ((.normal, g19_1) :: o19_1)) :=
  (if ((decide (x.2.1 < (((List.length x.1) : Nat) : Int))) = true) then (if ((0 : Int) ≤ x.2.1) then (if (x.2.1 < (((List.length x.1) : Nat) : Int)) then (if ((List.length x.2.2.1) = (List.length x.2.2.1)) then (Option.bind (Go.Ev.Bits.l19_2 (x.1, (x.2.1, ((Go.IntKind.wrap Go.IntKind.i64 (List.getD x.1 (Int.toNat x.2.1) (0 : Int))), ((0 : Int), (x.2.2.1, Unit.unit)))))) (Sum.elim (fun y1 => (if ((List.length y1.2.2.2.2.1) = (List.length y1.2.2.2.2.1)) then (some (Sum.inl (y1.1, ((Go.IntKind.wrap Go.IntKind.i64 (y1.2.1 + (1 : Int))), (y1.2.2.2.2.1, Unit.unit)))))
   else none)) Empty.elim))
   else none)
   else none)
   else none)
   else (if ((List.length x.2.2.1) = (List.length x.2.2.1)) then (some (Sum.inr (Sum.inl (x.1, (x.2.1, (x.2.2.1, Unit.unit))))))
   else none))
theorem b19_1_eq (x : g19_1.D) : b19_1 x = evF P (T18.orc _) Go.Proofs.Try.f19.ntmps fx19 (Code.at [true, true, false, true, false, false] c19) (planAt 64 [([true, false, false, true, true, false], ⟨g19_2, o19_2, l19_2⟩)]) g19_1 x (injK fx19 ((.normal, g19_1) :: o19_1) some) := by kernel_rfl
noncomputable def l19_1 : g19_1.D → Option (outD o19_1) := loopN g19_1 o19_1 b19_1 18446744073709551616
theorem at19_1 : Code.at [true, true, false, true, false] c19 = .loop (Code.at [true, true, false, true, false, false] c19) := by kernel_rfl
theorem s19_1_ok : SubOk P Go.Proofs.Try.f19.ntmps fx19 (Code.at [true, true, false, true, false] c19) ⟨g19_1, o19_1, l19_1⟩ := by
  rw [at19_1]
  exact loop_ok (sub_ok (ct := ⟨g19_1, ((.normal, g19_1) :: o19_1), b19_1⟩) (Table.ok T18_ok _) hmix (planAt_ok (d := 64) (l := [([true, false, false, true, true, false], ⟨g19_2, o19_2, l19_2⟩)]) ⟨s19_2_ok, trivial⟩) b19_1_eq) rfl _
noncomputable def f19 (x : gi19.D) : Option go19.D :=
  (Option.bind (Go.Ev.Bits.l19_1 (x.1, ((0 : Int), ([], Unit.unit)))) (Sum.elim (fun y1 => (some ((List.take (List.length y1.2.2.1) (List.drop (0 : Nat) y1.2.2.1)), Unit.unit))) Empty.elim))
theorem f19_eq (x : gi19.D) : f19 x = evF P (T18.orc _) Go.Proofs.Try.f19.ntmps fx19 c19 (planAt 64 [([true, true, false, true, false], ⟨g19_1, o19_1, l19_1⟩)]) gi19 x (fnK fx19 go19) := by kernel_rfl
theorem f19_ok : EntOk P 19 ⟨gi19, go19, f19⟩ :=
  ent_ok (e := ⟨gi19, go19, f19⟩) (c := c19) (fx := fx19) ⟨Go.Proofs.Try.func19, by kernel_rfl, rfl, by decide +kernel, by kernel_rfl, rfl, rfl⟩ (Table.ok T18_ok _) hmix (planAt_ok (d := 64) (l := [([true, true, false, true, false], ⟨g19_1, o19_1, l19_1⟩)]) ⟨s19_1_ok, trivial⟩) f19_eq
noncomputable def T19 : Table := T18.add 19 [⟨gi19, go19, f19⟩] []
theorem T19_ok : TableOk P T19 := Table.plus T18_ok (es := [⟨gi19, go19, f19⟩]) ⟨f19_ok, trivial⟩ []

/-! ## 22: ref Align -/
noncomputable def c22 : Code := Func.code Go.Proofs.Try.f22
abbrev gi22 : Sg := ⟨[0], [.lf (.ptr 0 0)], [some (.box true [.lf (.sl .bool), .lf (.int .i64)])]⟩
abbrev go22 : Sg := ⟨[2], [.lf (.int .i64)], [some (.box true [.lf (.sl .bool), .lf (.int .i64)])]⟩
def fx22 : List Bool := [true]
abbrev g22_1 : Sg := ⟨[0], [.lf (.ptr 0 0)], [some (.box true [.lf (.sl .bool), .lf (.int .i64)])]⟩
abbrev o22_1 : Outs := [(.exit 0, g22_1)]
noncomputable def b22_1 (x : g22_1.D) : Option (outD ((.normal, g22_1) :: o22_1)) :=
  (if (((Int.tmod x.2.1 (8 : Int)) != (0 : Int)) = true) then (some (Sum.inl (x.1, ((Go.IntKind.wrap Go.IntKind.i64 (x.2.1 + (1 : Int))), Unit.unit))))
   else (some (Sum.inr (Sum.inl (x.1, (x.2.1, Unit.unit))))))
theorem b22_1_eq (x : g22_1.D) : b22_1 x = evF P (T19.orc _) Go.Proofs.Try.f22.ntmps fx22 (Code.at [true, false, false, false] c22) (planAt 64 []) g22_1 x (injK fx22 ((.normal, g22_1) :: o22_1) some) := by kernel_rfl
noncomputable def l22_1 : g22_1.D → Option (outD o22_1) := loopN g22_1 o22_1 b22_1 18446744073709551616
theorem at22_1 : Code.at [true, false, false] c22 = .loop (Code.at [true, false, false, false] c22) := by kernel_rfl
theorem s22_1_ok : SubOk P Go.Proofs.Try.f22.ntmps fx22 (Code.at [true, false, false] c22) ⟨g22_1, o22_1, l22_1⟩ := by
  rw [at22_1]
  exact loop_ok (sub_ok (ct := ⟨g22_1, ((.normal, g22_1) :: o22_1), b22_1⟩) (Table.ok T19_ok _) hmix (planAt_ok (d := 64) (l := []) trivial) b22_1_eq) rfl _
noncomputable def f22 (x : gi22.D) : Option go22.D :=
  (Option.bind (Go.Ev.Bits.l22_1 (x.1, (x.2.1, Unit.unit))) (Sum.elim (fun y1 => (some ((0 : Int), (y1.1, (y1.2.1, Unit.unit))))) Empty.elim))
theorem f22_eq (x : gi22.D) : f22 x = evF P (T19.orc _) Go.Proofs.Try.f22.ntmps fx22 c22 (planAt 64 [([true, false, false], ⟨g22_1, o22_1, l22_1⟩)]) gi22 x (fnK fx22 go22) := by kernel_rfl
theorem f22_ok : EntOk P 22 ⟨gi22, go22, f22⟩ :=
  ent_ok (e := ⟨gi22, go22, f22⟩) (c := c22) (fx := fx22) ⟨Go.Proofs.Try.func22, by kernel_rfl, rfl, by decide +kernel, by kernel_rfl, rfl, rfl⟩ (Table.ok T19_ok _) hmix (planAt_ok (d := 64) (l := [([true, false, false], ⟨g22_1, o22_1, l22_1⟩)]) ⟨s22_1_ok, trivial⟩) f22_eq
noncomputable def T22 : Table := T19.add 22 [⟨gi22, go22, f22⟩] []
theorem T22_ok : TableOk P T22 := Table.plus T19_ok (es := [⟨gi22, go22, f22⟩]) ⟨f22_ok, trivial⟩ []

/-! ## 26: ref Number -/
noncomputable def c26 : Code := Func.code Go.Proofs.Try.f26
abbrev gi26 : Sg := ⟨[0], [.lf (.sl .bool)], []⟩
abbrev go26 : Sg := ⟨[2], [.lf (.int .i64)], []⟩
def fx26 : List Bool := []
abbrev g26_1 : Sg := ⟨[0, 3, 4], [.lf (.sl .bool), .lf (.int .i64), .lf (.int .i64)], []⟩
abbrev o26_1 : Outs := [(.exit 0, g26_1)]
noncomputable def b26_1 (x : g26_1.D) : Option (outD ((.normal, g26_1) :: o26_1)) :=
  (if ((decide (x.2.2.1 ≥ (0 : Int))) = true) then (if ((0 : Int) ≤ x.2.2.1) then (if (x.2.2.1 < (((List.length x.1) : Nat) : Int)) then (if ((List.getD x.1 (Int.toNat x.2.2.1) false) = true) then (some (Sum.inl (x.1, ((Go.IntKind.wrap Go.IntKind.i64 ((Go.IntKind.wrap Go.IntKind.i64 ((2 : Int) * x.2.1)) + (1 : Int))), ((Go.IntKind.wrap Go.IntKind.i64 (x.2.2.1 - (1 : Int))), Unit.unit)))))
   else (some (Sum.inl (x.1, ((Go.IntKind.wrap Go.IntKind.i64 ((2 : Int) * x.2.1)), ((Go.IntKind.wrap Go.IntKind.i64 (x.2.2.1 - (1 : Int))), Unit.unit))))))
   else none)
   else none)
   else (some (Sum.inr (Sum.inl (x.1, (x.2.1, (x.2.2.1, Unit.unit)))))))
theorem b26_1_eq (x : g26_1.D) : b26_1 x = evF P (T22.orc _) Go.Proofs.Try.f26.ntmps fx26 (Code.at [true, true, false, true, false, false] c26) (planAt 64 []) g26_1 x (injK fx26 ((.normal, g26_1) :: o26_1) some) := by kernel_rfl
noncomputable def l26_1 : g26_1.D → Option (outD o26_1) := loopN g26_1 o26_1 b26_1 18446744073709551616
theorem at26_1 : Code.at [true, true, false, true, false] c26 = .loop (Code.at [true, true, false, true, false, false] c26) := by kernel_rfl
theorem s26_1_ok : SubOk P Go.Proofs.Try.f26.ntmps fx26 (Code.at [true, true, false, true, false] c26) ⟨g26_1, o26_1, l26_1⟩ := by
  rw [at26_1]
  exact loop_ok (sub_ok (ct := ⟨g26_1, ((.normal, g26_1) :: o26_1), b26_1⟩) (Table.ok T22_ok _) hmix (planAt_ok (d := 64) (l := []) trivial) b26_1_eq) rfl _
noncomputable def f26 (x : gi26.D) : Option go26.D :=
  (Option.bind (Go.Ev.Bits.l26_1 (x.1, ((0 : Int), ((Go.IntKind.wrap Go.IntKind.i64 ((((List.length x.1) : Nat) : Int) - (1 : Int))), Unit.unit)))) (Sum.elim (fun y1 => (some (y1.2.1, Unit.unit))) Empty.elim))
theorem f26_eq (x : gi26.D) : f26 x = evF P (T22.orc _) Go.Proofs.Try.f26.ntmps fx26 c26 (planAt 64 [([true, true, false, true, false], ⟨g26_1, o26_1, l26_1⟩)]) gi26 x (fnK fx26 go26) := by kernel_rfl
theorem f26_ok : EntOk P 26 ⟨gi26, go26, f26⟩ :=
  ent_ok (e := ⟨gi26, go26, f26⟩) (c := c26) (fx := fx26) ⟨Go.Proofs.Try.func26, by kernel_rfl, rfl, by decide +kernel, by kernel_rfl, rfl, rfl⟩ (Table.ok T22_ok _) hmix (planAt_ok (d := 64) (l := [([true, true, false, true, false], ⟨g26_1, o26_1, l26_1⟩)]) ⟨s26_1_ok, trivial⟩) f26_eq
noncomputable def T26 : Table := T22.add 26 [⟨gi26, go26, f26⟩] []
theorem T26_ok : TableOk P T26 := Table.plus T22_ok (es := [⟨gi26, go26, f26⟩]) ⟨f26_ok, trivial⟩ []

/-! ## 17: ref Bytes -/
noncomputable def c17 : Code := Func.code Go.Proofs.Try.f17
abbrev gi17 : Sg := ⟨[0], [.lf (.sl .bool)], []⟩
abbrev go17 : Sg := ⟨[2], [.lf (.gr (.int .u8) 0)], [some (.arr true (.int .u8))]⟩
def fx17 : List Bool := []
abbrev g17_2 : Sg := ⟨[0, 3, 4, 5, 6], [.lf (.sl .bool), .lf (.gr (.int .u8) 0), .lf (.int .i64), .lf (.int .i64), .lf (.int .i64)], [some (.arr true (.int .u8))]⟩
abbrev o17_2 : Outs := [(.exit 2, g17_2)]
noncomputable def b17_2 (x : g17_2.D) : Option (outD ((.normal, g17_2) :: o17_2)) :=
  (if ((decide (x.2.2.2.1 < (Int.tmod x.2.1 (8 : Int)))) = true) then (if ((List.length x.2.2.2.2.1) = (List.length x.2.2.2.2.1)) then (some (Sum.inl (x.1, (x.2.1, ((Go.IntKind.wrap Go.IntKind.i64 ((2 : Int) * x.2.2.1)), ((Go.IntKind.wrap Go.IntKind.i64 (x.2.2.2.1 + (1 : Int))), (x.2.2.2.2.1, Unit.unit)))))))
   else none)
   else (if ((List.length x.2.2.2.2.1) = (List.length x.2.2.2.2.1)) then (some (Sum.inr (Sum.inl (x.1, (x.2.1, (x.2.2.1, (x.2.2.2.1, (x.2.2.2.2.1, Unit.unit))))))))
   else none))
theorem b17_2_eq (x : g17_2.D) : b17_2 x = evF P (T26.orc _) Go.Proofs.Try.f17.ntmps fx17 (Code.at [true, true, false, true, false, false, true, false, false, true, false, true, false, true, false, false] c17) (planAt 64 []) g17_2 x (injK fx17 ((.normal, g17_2) :: o17_2) some) := by kernel_rfl
noncomputable def l17_2 : g17_2.D → Option (outD o17_2) := loopN g17_2 o17_2 b17_2 18446744073709551616
theorem at17_2 : Code.at [true, true, false, true, false, false, true, false, false, true, false, true, false, true, false] c17 = .loop (Code.at [true, true, false, true, false, false, true, false, false, true, false, true, false, true, false, false] c17) := by kernel_rfl
theorem s17_2_ok : SubOk P Go.Proofs.Try.f17.ntmps fx17 (Code.at [true, true, false, true, false, false, true, false, false, true, false, true, false, true, false] c17) ⟨g17_2, o17_2, l17_2⟩ := by
  rw [at17_2]
  exact loop_ok (sub_ok (ct := ⟨g17_2, ((.normal, g17_2) :: o17_2), b17_2⟩) (Table.ok T26_ok _) hmix (planAt_ok (d := 64) (l := []) trivial) b17_2_eq) rfl _
abbrev g17_1 : Sg := ⟨[0, 3, 4], [.lf (.sl .bool), .lf (.gr (.int .u8) 0), .lf (.int .i64)], [some (.arr true (.int .u8))]⟩
abbrev o17_1 : Outs := [(.exit 0, g17_1)]
noncomputable def b17_1 (x : g17_1.D) : Option (outD ((.normal, g17_1) :: o17_1)) :=
  (if ((decide (x.2.1 ≥ (0 : Int))) = true) then (if ((0 : Int) ≤ x.2.1) then (if (x.2.1 < (((List.length x.1) : Nat) : Int)) then (if ((List.getD x.1 (Int.toNat x.2.1) false) = true) then (if ((List.length x.2.2.1) = (List.length x.2.2.1)) then (Option.bind (Go.Ev.Bits.l17_2 (x.1, (x.2.1, ((1 : Int), ((0 : Int), (x.2.2.1, Unit.unit)))))) (Sum.elim (fun y1 => (if ((0 : Int) ≤ (Go.IntKind.wrap Go.IntKind.i64 (Int.tdiv y1.2.1 (8 : Int)))) then (if ((Go.IntKind.wrap Go.IntKind.i64 (Int.tdiv y1.2.1 (8 : Int))) < (((List.length y1.2.2.2.2.1) : Nat) : Int)) then (if ((0 : Int) ≤ (Go.IntKind.wrap Go.IntKind.i64 (Int.tdiv y1.2.1 (8 : Int)))) then (if ((Go.IntKind.wrap Go.IntKind.i64 (Int.tdiv y1.2.1 (8 : Int))) < (((List.length y1.2.2.2.2.1) : Nat) : Int)) then (if ((List.length y1.2.2.2.2.1) = (List.length (List.set y1.2.2.2.2.1 ((0 : Nat) + (Int.toNat (Go.IntKind.wrap Go.IntKind.i64 (Int.tdiv y1.2.1 (8 : Int))))) (Go.IntKind.wrap Go.IntKind.u8 ((List.getD y1.2.2.2.2.1 ((0 : Nat) + (Int.toNat (Go.IntKind.wrap Go.IntKind.i64 (Int.tdiv y1.2.1 (8 : Int))))) (0 : Int)) + (Go.IntKind.wrap Go.IntKind.u8 y1.2.2.1)))))) then (some (Sum.inl (y1.1, ((Go.IntKind.wrap Go.IntKind.i64 (y1.2.1 - (1 : Int))), ((List.set y1.2.2.2.2.1 ((0 : Nat) + (Int.toNat (Go.IntKind.wrap Go.IntKind.i64 (Int.tdiv y1.2.1 (8 : Int))))) (Go.IntKind.wrap Go.IntKind.u8 ((List.getD y1.2.2.2.2.1 ((0 : Nat) + (Int.toNat (Go.IntKind.wrap Go.IntKind.i64 (Int.tdiv y1.2.1 (8 : Int))))) (0 : Int)) + (Go.IntKind.wrap Go.IntKind.u8 y1.2.2.1)))), Unit.unit)))))
   else none)
   else none)
   else none)
   else none)
   else none)) Empty.elim))
   else none)
   else (if ((List.length x.2.2.1) = (List.length x.2.2.1)) then (some (Sum.inl (x.1, ((Go.IntKind.wrap Go.IntKind.i64 (x.2.1 - (1 : Int))), (x.2.2.1, Unit.unit)))))
   else none))
   else none)
   else none)
   else (if ((List.length x.2.2.1) = (List.length x.2.2.1)) then (some (Sum.inr (Sum.inl (x.1, (x.2.1, (x.2.2.1, Unit.unit))))))
   else none))
theorem b17_1_eq (x : g17_1.D) : b17_1 x = evF P (T26.orc _) Go.Proofs.Try.f17.ntmps fx17 (Code.at [true, true, false, true, false, false] c17) (planAt 64 [([true, false, false, true, false, true, false, true, false], ⟨g17_2, o17_2, l17_2⟩)]) g17_1 x (injK fx17 ((.normal, g17_1) :: o17_1) some) := by kernel_rfl
noncomputable def l17_1 : g17_1.D → Option (outD o17_1) := loopN g17_1 o17_1 b17_1 18446744073709551616
theorem at17_1 : Code.at [true, true, false, true, false] c17 = .loop (Code.at [true, true, false, true, false, false] c17) := by kernel_rfl
theorem s17_1_ok : SubOk P Go.Proofs.Try.f17.ntmps fx17 (Code.at [true, true, false, true, false] c17) ⟨g17_1, o17_1, l17_1⟩ := by
  rw [at17_1]
  exact loop_ok (sub_ok (ct := ⟨g17_1, ((.normal, g17_1) :: o17_1), b17_1⟩) (Table.ok T26_ok _) hmix (planAt_ok (d := 64) (l := [([true, false, false, true, false, true, false, true, false], ⟨g17_2, o17_2, l17_2⟩)]) ⟨s17_2_ok, trivial⟩) b17_1_eq) rfl _
noncomputable def f17 (x : gi17.D) : Option go17.D :=
  (if ((0 : Int) ≤ (Go.IntKind.wrap Go.IntKind.i64 (Int.tdiv (Go.IntKind.wrap Go.IntKind.i64 ((((List.length x.1) : Nat) : Int) + (7 : Int))) (8 : Int)))) then (if ((Go.IntKind.wrap Go.IntKind.i64 (Int.tdiv (Go.IntKind.wrap Go.IntKind.i64 ((((List.length x.1) : Nat) : Int) + (7 : Int))) (8 : Int))) ≤ (Go.IntKind.wrap Go.IntKind.i64 (Int.tdiv (Go.IntKind.wrap Go.IntKind.i64 ((((List.length x.1) : Nat) : Int) + (7 : Int))) (8 : Int)))) then (if ((Go.IntKind.wrap Go.IntKind.i64 (Int.tdiv (Go.IntKind.wrap Go.IntKind.i64 ((((List.length x.1) : Nat) : Int) + (7 : Int))) (8 : Int))) ≤ (281474976710656 : Int)) then (if ((Int.toNat (Go.IntKind.wrap Go.IntKind.i64 (Int.tdiv (Go.IntKind.wrap Go.IntKind.i64 ((((List.length x.1) : Nat) : Int) + (7 : Int))) (8 : Int)))) = (List.length (List.replicate (Int.toNat (Go.IntKind.wrap Go.IntKind.i64 (Int.tdiv (Go.IntKind.wrap Go.IntKind.i64 ((((List.length x.1) : Nat) : Int) + (7 : Int))) (8 : Int)))) (0 : Int)))) then (Option.bind (Go.Ev.Bits.l17_1 (x.1, ((Go.IntKind.wrap Go.IntKind.i64 ((((List.length x.1) : Nat) : Int) - (1 : Int))), ((List.replicate (Int.toNat (Go.IntKind.wrap Go.IntKind.i64 (Int.tdiv (Go.IntKind.wrap Go.IntKind.i64 ((((List.length x.1) : Nat) : Int) + (7 : Int))) (8 : Int)))) (0 : Int)), Unit.unit)))) (Sum.elim (fun y1 => (if ((List.length y1.2.2.1) = (List.length y1.2.2.1)) then (some (y1.2.2.1, Unit.unit))
   else none)) Empty.elim))
   else none)
   else none)
   else none)
   else none)
theorem f17_eq (x : gi17.D) : f17 x = evF P (T26.orc _) Go.Proofs.Try.f17.ntmps fx17 c17 (planAt 64 [([true, true, false, true, false], ⟨g17_1, o17_1, l17_1⟩)]) gi17 x (fnK fx17 go17) := by kernel_rfl
theorem f17_ok : EntOk P 17 ⟨gi17, go17, f17⟩ :=
  ent_ok (e := ⟨gi17, go17, f17⟩) (c := c17) (fx := fx17) ⟨Go.Proofs.Try.func17, by kernel_rfl, rfl, by decide +kernel, by kernel_rfl, rfl, rfl⟩ (Table.ok T26_ok _) hmix (planAt_ok (d := 64) (l := [([true, true, false, true, false], ⟨g17_1, o17_1, l17_1⟩)]) ⟨s17_1_ok, trivial⟩) f17_eq
noncomputable def T17 : Table := T26.add 17 [⟨gi17, go17, f17⟩] []
theorem T17_ok : TableOk P T17 := Table.plus T26_ok (es := [⟨gi17, go17, f17⟩]) ⟨f17_ok, trivial⟩ []

/-! ## 20: ref Reader.Bits -/
noncomputable def c20 : Code := Func.code Go.Proofs.Try.f20
abbrev gi20 : Sg := ⟨[0, 1], [.lf (.ptr 0 0), .lf (.int .i64)], [some (.box true [.lf (.sl .bool), .lf (.int .i64)])]⟩
abbrev go20 : Sg := ⟨[4, 5], [.lf (.int .i64), .lf (.int .i64)], [some (.box true [.lf (.sl .bool), .lf (.int .i64)])]⟩
def fx20 : List Bool := [true]
noncomputable def f20 (x : gi20.D) : Option go20.D :=
  (if ((decide (x.1 < (0 : Int))) = true) then (some ((0 : Int), ((1 : Int), (x.2.1, (x.2.2.1, Unit.unit)))))
   else (if ((decide (x.1 > (24 : Int))) = true) then (some ((0 : Int), ((1 : Int), (x.2.1, (x.2.2.1, Unit.unit)))))
   else (if ((decide (x.1 > (Go.IntKind.wrap Go.IntKind.i64 ((((List.length x.2.1) : Nat) : Int) - x.2.2.1)))) = true) then (some ((0 : Int), ((6 : Int), (x.2.1, (x.2.2.1, Unit.unit)))))
   else (if ((0 : Int) ≤ (Go.IntKind.wrap Go.IntKind.i64 (x.2.2.1 + x.1))) then (if ((Go.IntKind.wrap Go.IntKind.i64 (x.2.2.1 + x.1)) ≤ (((List.length x.2.1) : Nat) : Int)) then (if ((0 : Int) ≤ (Go.IntKind.wrap Go.IntKind.i64 ((Go.IntKind.wrap Go.IntKind.i64 (x.2.2.1 + x.1)) - x.1))) then (if ((Go.IntKind.wrap Go.IntKind.i64 ((Go.IntKind.wrap Go.IntKind.i64 (x.2.2.1 + x.1)) - x.1)) ≤ (((Int.toNat (Go.IntKind.wrap Go.IntKind.i64 (x.2.2.1 + x.1))) : Nat) : Int)) then (Option.bind (Go.Ev.Bits.f26 ((List.drop (Int.toNat (Go.IntKind.wrap Go.IntKind.i64 ((Go.IntKind.wrap Go.IntKind.i64 (x.2.2.1 + x.1)) - x.1))) (List.take (Int.toNat (Go.IntKind.wrap Go.IntKind.i64 (x.2.2.1 + x.1))) x.2.1)), Unit.unit)) (fun y1 => (some (y1.1, ((0 : Int), (x.2.1, ((Go.IntKind.wrap Go.IntKind.i64 (x.2.2.1 + x.1)), Unit.unit)))))))
   else none)
   else none)
   else none)
   else none))))
theorem f20_eq (x : gi20.D) : f20 x = evF P (T17.orc _) Go.Proofs.Try.f20.ntmps fx20 c20 (planAt 64 []) gi20 x (fnK fx20 go20) := by kernel_rfl
theorem f20_ok : EntOk P 20 ⟨gi20, go20, f20⟩ :=
  ent_ok (e := ⟨gi20, go20, f20⟩) (c := c20) (fx := fx20) ⟨Go.Proofs.Try.func20, by kernel_rfl, rfl, by decide +kernel, by kernel_rfl, rfl, rfl⟩ (Table.ok T17_ok _) hmix (planAt_ok (d := 64) (l := []) trivial) f20_eq
noncomputable def T20 : Table := T17.add 20 [⟨gi20, go20, f20⟩] []
theorem T20_ok : TableOk P T20 := Table.plus T17_ok (es := [⟨gi20, go20, f20⟩]) ⟨f20_ok, trivial⟩ []

/-! ## 24: ref Reader.Bytes -/
noncomputable def c24 : Code := Func.code Go.Proofs.Try.f24
abbrev gi24 : Sg := ⟨[0, 1], [.lf (.ptr 0 0), .lf (.int .i64)], [some (.box true [.lf (.sl .bool), .lf (.int .i64)])]⟩
abbrev go24 : Sg := ⟨[4, 5], [.lf (.gr (.int .u8) 1), .lf (.int .i64)], [some (.box true [.lf (.sl .bool), .lf (.int .i64)]), some (.arr true (.int .u8))]⟩
def fx24 : List Bool := [true]
noncomputable def f24 (x : gi24.D) : Option go24.D :=
  (if ((decide (x.1 < (0 : Int))) = true) then (some ((1 : Int), (x.2.1, (x.2.2.1, ([], Unit.unit)))))
   else (Option.bind (Go.Ev.Bits.f22 (x.2.1, (x.2.2.1, Unit.unit))) (fun y1 => (if ((decide (x.1 > (Go.IntKind.wrap Go.IntKind.i64 (Int.tdiv (Go.IntKind.wrap Go.IntKind.i64 ((((List.length y1.2.1) : Nat) : Int) - y1.2.2.1)) (8 : Int))))) = true) then (some ((6 : Int), (y1.2.1, (y1.2.2.1, ([], Unit.unit)))))
   else (if ((0 : Int) ≤ (Go.IntKind.wrap Go.IntKind.i64 (y1.2.2.1 + (Go.IntKind.wrap Go.IntKind.i64 ((8 : Int) * x.1))))) then (if ((Go.IntKind.wrap Go.IntKind.i64 (y1.2.2.1 + (Go.IntKind.wrap Go.IntKind.i64 ((8 : Int) * x.1)))) ≤ (((List.length y1.2.1) : Nat) : Int)) then (if ((0 : Int) ≤ (Go.IntKind.wrap Go.IntKind.i64 ((Go.IntKind.wrap Go.IntKind.i64 (y1.2.2.1 + (Go.IntKind.wrap Go.IntKind.i64 ((8 : Int) * x.1)))) - (Go.IntKind.wrap Go.IntKind.i64 ((8 : Int) * x.1))))) then (if ((Go.IntKind.wrap Go.IntKind.i64 ((Go.IntKind.wrap Go.IntKind.i64 (y1.2.2.1 + (Go.IntKind.wrap Go.IntKind.i64 ((8 : Int) * x.1)))) - (Go.IntKind.wrap Go.IntKind.i64 ((8 : Int) * x.1)))) ≤ (((Int.toNat (Go.IntKind.wrap Go.IntKind.i64 (y1.2.2.1 + (Go.IntKind.wrap Go.IntKind.i64 ((8 : Int) * x.1))))) : Nat) : Int)) then (Option.bind (Go.Ev.Bits.f17 ((List.drop (Int.toNat (Go.IntKind.wrap Go.IntKind.i64 ((Go.IntKind.wrap Go.IntKind.i64 (y1.2.2.1 + (Go.IntKind.wrap Go.IntKind.i64 ((8 : Int) * x.1)))) - (Go.IntKind.wrap Go.IntKind.i64 ((8 : Int) * x.1))))) (List.take (Int.toNat (Go.IntKind.wrap Go.IntKind.i64 (y1.2.2.1 + (Go.IntKind.wrap Go.IntKind.i64 ((8 : Int) * x.1))))) y1.2.1)), Unit.unit)) (fun y2 => (if ((List.length y2.1) = (List.length y2.1)) then (some ((0 : Int), (y1.2.1, ((Go.IntKind.wrap Go.IntKind.i64 (y1.2.2.1 + (Go.IntKind.wrap Go.IntKind.i64 ((8 : Int) * x.1)))), (y2.1, Unit.unit)))))
   else none)))
   else none)
   else none)
   else none)
   else none)))))
theorem f24_eq (x : gi24.D) : f24 x = evF P (T20.orc _) Go.Proofs.Try.f24.ntmps fx24 c24 (planAt 64 []) gi24 x (fnK fx24 go24) := by kernel_rfl
theorem f24_ok : EntOk P 24 ⟨gi24, go24, f24⟩ :=
  ent_ok (e := ⟨gi24, go24, f24⟩) (c := c24) (fx := fx24) ⟨Go.Proofs.Try.func24, by kernel_rfl, rfl, by decide +kernel, by kernel_rfl, rfl, rfl⟩ (Table.ok T20_ok _) hmix (planAt_ok (d := 64) (l := []) trivial) f24_eq
noncomputable def T24 : Table := T20.add 24 [⟨gi24, go24, f24⟩] []
theorem T24_ok : TableOk P T24 := Table.plus T20_ok (es := [⟨gi24, go24, f24⟩]) ⟨f24_ok, trivial⟩ []

/-! ## 15: ref Put -/
noncomputable def c15 : Code := Func.code Go.Proofs.Try.f15
abbrev gi15 : Sg := ⟨[0, 1, 2], [.lf (.gr .bool 0), .lf (.int .i64), .lf (.int .i64)], [some (.arr true .bool)]⟩
abbrev go15 : Sg := ⟨[6, 7], [.lf (.gr .bool 1), .lf (.int .i64)], [none, some (.arr true .bool)]⟩
def fx15 : List Bool := [false]
abbrev g15_1 : Sg := ⟨[0, 1, 2, 8, 9], [.lf (.gr .bool 0), .lf (.int .i64), .lf (.int .i64), .lf (.gr .bool 1), .lf (.int .i64)], [some (.arr true .bool), some (.arr true .bool)]⟩
abbrev o15_1 : Outs := [(.exit 0, g15_1)]
noncomputable def b15_1 (x : g15_1.D) : Option (outD ((.normal, g15_1) :: o15_1)) :=
  (if ((decide (x.2.2.1 < x.2.1)) = true) then (if (((List.length (List.take (List.length x.2.2.2.2.1) (List.drop (0 : Nat) x.2.2.2.2.1))) + (List.length (List.take (1 : Nat) (List.drop (0 : Nat) (List.set (List.replicate (1 : Nat) false) (0 : Nat) ((Int.tmod x.1 (2 : Int)) == (1 : Int))))))) ≤ (140737488355328 : Nat)) then (if ((List.length x.2.2.2.1) = (List.length x.2.2.2.1)) then (if ((List.length ((List.take (List.length x.2.2.2.2.1) (List.drop (0 : Nat) x.2.2.2.2.1)) ++ (List.take (1 : Nat) (List.drop (0 : Nat) (List.set (List.replicate (1 : Nat) false) (0 : Nat) ((Int.tmod x.1 (2 : Int)) == (1 : Int))))))) = (List.length ((List.take (List.length x.2.2.2.2.1) (List.drop (0 : Nat) x.2.2.2.2.1)) ++ (List.take (1 : Nat) (List.drop (0 : Nat) (List.set (List.replicate (1 : Nat) false) (0 : Nat) ((Int.tmod x.1 (2 : Int)) == (1 : Int)))))))) then (some (Sum.inl ((Go.IntKind.wrap Go.IntKind.i64 (Int.tdiv x.1 (2 : Int))), (x.2.1, ((Go.IntKind.wrap Go.IntKind.i64 (x.2.2.1 + (1 : Int))), (x.2.2.2.1, (((List.take (List.length x.2.2.2.2.1) (List.drop (0 : Nat) x.2.2.2.2.1)) ++ (List.take (1 : Nat) (List.drop (0 : Nat) (List.set (List.replicate (1 : Nat) false) (0 : Nat) ((Int.tmod x.1 (2 : Int)) == (1 : Int)))))), Unit.unit)))))))
   else none)
   else none)
   else none)
   else (if ((List.length x.2.2.2.1) = (List.length x.2.2.2.1)) then (if ((List.length x.2.2.2.2.1) = (List.length x.2.2.2.2.1)) then (some (Sum.inr (Sum.inl (x.1, (x.2.1, (x.2.2.1, (x.2.2.2.1, (x.2.2.2.2.1, Unit.unit))))))))
   else none)
   else none))
theorem b15_1_eq (x : g15_1.D) : b15_1 x = evF P (T24.orc _) Go.Proofs.Try.f15.ntmps fx15 (Code.at [true, true, true, false, true, false, false] c15) (planAt 64 []) g15_1 x (injK fx15 ((.normal, g15_1) :: o15_1) some) := by kernel_rfl
noncomputable def l15_1 : g15_1.D → Option (outD o15_1) := loopN g15_1 o15_1 b15_1 18446744073709551616
theorem at15_1 : Code.at [true, true, true, false, true, false] c15 = .loop (Code.at [true, true, true, false, true, false, false] c15) := by kernel_rfl
theorem s15_1_ok : SubOk P Go.Proofs.Try.f15.ntmps fx15 (Code.at [true, true, true, false, true, false] c15) ⟨g15_1, o15_1, l15_1⟩ := by
  rw [at15_1]
  exact loop_ok (sub_ok (ct := ⟨g15_1, ((.normal, g15_1) :: o15_1), b15_1⟩) (Table.ok T24_ok _) hmix (planAt_ok (d := 64) (l := []) trivial) b15_1_eq) rfl _
noncomputable def f15 (x : gi15.D) : Option go15.D :=
  (if ((decide (x.2.1 < (0 : Int))) = true) then (if ((List.length x.2.2.1) = (List.length x.2.2.1)) then (some ((1 : Int), (x.2.2.1, Unit.unit)))
   else none)
   else (if ((decide (x.2.1 > (24 : Int))) = true) then (if ((List.length x.2.2.1) = (List.length x.2.2.1)) then (some ((1 : Int), (x.2.2.1, Unit.unit)))
   else none)
   else (if ((decide (x.1 < (0 : Int))) = true) then (if ((List.length x.2.2.1) = (List.length x.2.2.1)) then (some ((1 : Int), (x.2.2.1, Unit.unit)))
   else none)
   else (if ((List.length x.2.2.1) = (List.length x.2.2.1)) then (Option.bind (Go.Ev.Bits.l15_1 (x.1, (x.2.1, ((0 : Int), (x.2.2.1, ([], Unit.unit)))))) (Sum.elim (fun y1 => (if ((decide (y1.1 > (0 : Int))) = true) then (if ((List.length y1.2.2.2.1) = (List.length y1.2.2.2.1)) then (some ((1 : Int), (y1.2.2.2.1, Unit.unit)))
   else none)
   else (if (((List.length (List.take (List.length y1.2.2.2.1) (List.drop (0 : Nat) y1.2.2.2.1))) + (List.length (List.take (List.length y1.2.2.2.2.1) (List.drop (0 : Nat) y1.2.2.2.2.1)))) ≤ (140737488355328 : Nat)) then (if ((List.length ((List.take (List.length y1.2.2.2.1) (List.drop (0 : Nat) y1.2.2.2.1)) ++ (List.take (List.length y1.2.2.2.2.1) (List.drop (0 : Nat) y1.2.2.2.2.1)))) = (List.length ((List.take (List.length y1.2.2.2.1) (List.drop (0 : Nat) y1.2.2.2.1)) ++ (List.take (List.length y1.2.2.2.2.1) (List.drop (0 : Nat) y1.2.2.2.2.1))))) then (some ((0 : Int), (((List.take (List.length y1.2.2.2.1) (List.drop (0 : Nat) y1.2.2.2.1)) ++ (List.take (List.length y1.2.2.2.2.1) (List.drop (0 : Nat) y1.2.2.2.2.1))), Unit.unit)))
   else none)
   else none))) Empty.elim))
   else none))))
theorem f15_eq (x : gi15.D) : f15 x = evF P (T24.orc _) Go.Proofs.Try.f15.ntmps fx15 c15 (planAt 64 [([true, true, true, false, true, false], ⟨g15_1, o15_1, l15_1⟩)]) gi15 x (fnK fx15 go15) := by kernel_rfl
theorem f15_ok : EntOk P 15 ⟨gi15, go15, f15⟩ :=
  ent_ok (e := ⟨gi15, go15, f15⟩) (c := c15) (fx := fx15) ⟨Go.Proofs.Try.func15, by kernel_rfl, rfl, by decide +kernel, by kernel_rfl, rfl, rfl⟩ (Table.ok T24_ok _) hmix (planAt_ok (d := 64) (l := [([true, true, true, false, true, false], ⟨g15_1, o15_1, l15_1⟩)]) ⟨s15_1_ok, trivial⟩) f15_eq
noncomputable def T15 : Table := T24.add 15 [⟨gi15, go15, f15⟩] [true]
theorem T15_ok : TableOk P T15 := Table.plus T24_ok (es := [⟨gi15, go15, f15⟩]) ⟨f15_ok, trivial⟩ [true]

/-! ## 4: BitsWrites -/
noncomputable def c4 : Code := Func.code Go.Proofs.Try.f4
abbrev gi4 : Sg := ⟨[0], [.lf (.sl (.pair (.int .i64) (.pair (.int .i64) (.int .i64))))], []⟩
abbrev go4 : Sg := ⟨[2], [.lf .bool], []⟩
def fx4 : List Bool := []
abbrev g4_2 : Sg := ⟨[0, 3, 4, 5], [.lf (.sl (.pair (.int .i64) (.pair (.int .i64) (.int .i64)))), .lf (.ptr 0 0), .lf (.gr .bool 2), .lf (.int .i64)], [some (.box true [.lf (.gr (.int .u8) 1), .lf (.int .i64), .lf (.int .i64)]), some (.arr true (.int .u8)), some (.arr true .bool)]⟩
abbrev o4_2 : Outs := [(.exit 2, g4_2)]
noncomputable def b4_2 (x : g4_2.D) : Option (outD ((.normal, g4_2) :: o4_2)) :=
  (if (((Int.tmod (((List.length x.2.2.2.2.2.1) : Nat) : Int) (8 : Int)) != (0 : Int)) = true) then (if (((List.length (List.take (List.length x.2.2.2.2.2.1) (List.drop (0 : Nat) x.2.2.2.2.2.1))) + (1 : Nat)) ≤ (140737488355328 : Nat)) then (if ((List.length ((List.take (List.length x.2.2.2.2.2.1) (List.drop (0 : Nat) x.2.2.2.2.2.1)) ++ (List.take (1 : Nat) (List.drop (0 : Nat) (List.set (List.replicate (1 : Nat) false) (0 : Nat) false))))) = (List.length ((List.take (List.length x.2.2.2.2.2.1) (List.drop (0 : Nat) x.2.2.2.2.2.1)) ++ (List.take (1 : Nat) (List.drop (0 : Nat) (List.set (List.replicate (1 : Nat) false) (0 : Nat) false)))))) then (if ((List.length x.2.2.2.2.1) = (List.length x.2.2.2.2.1)) then (some (Sum.inl (x.1, (x.2.1, (x.2.2.1, (x.2.2.2.1, (x.2.2.2.2.1, (((List.take (List.length x.2.2.2.2.2.1) (List.drop (0 : Nat) x.2.2.2.2.2.1)) ++ (List.take (1 : Nat) (List.drop (0 : Nat) (List.set (List.replicate (1 : Nat) false) (0 : Nat) false)))), Unit.unit))))))))
   else none)
   else none)
   else none)
   else (if ((List.length x.2.2.2.2.2.1) = (List.length x.2.2.2.2.2.1)) then (if ((List.length x.2.2.2.2.1) = (List.length x.2.2.2.2.1)) then (some (Sum.inr (Sum.inl (x.1, (x.2.1, (x.2.2.1, (x.2.2.2.1, (x.2.2.2.2.1, (x.2.2.2.2.2.1, Unit.unit)))))))))
   else none)
   else none))
theorem b4_2_eq (x : g4_2.D) : b4_2 x = evF P (T15.orc _) Go.Proofs.Try.f4.ntmps fx4 (Code.at [true, true, true, true, true, false, true, false, false, true, false, false, true, false, true, true, true, false, false] c4) (planAt 64 []) g4_2 x (injK fx4 ((.normal, g4_2) :: o4_2) some) := by kernel_rfl
noncomputable def l4_2 : g4_2.D → Option (outD o4_2) := loopN g4_2 o4_2 b4_2 18446744073709551616
theorem at4_2 : Code.at [true, true, true, true, true, false, true, false, false, true, false, false, true, false, true, true, true, false] c4 = .loop (Code.at [true, true, true, true, true, false, true, false, false, true, false, false, true, false, true, true, true, false, false] c4) := by kernel_rfl
theorem s4_2_ok : SubOk P Go.Proofs.Try.f4.ntmps fx4 (Code.at [true, true, true, true, true, false, true, false, false, true, false, false, true, false, true, true, true, false] c4) ⟨g4_2, o4_2, l4_2⟩ := by
  rw [at4_2]
  exact loop_ok (sub_ok (ct := ⟨g4_2, ((.normal, g4_2) :: o4_2), b4_2⟩) (Table.ok T15_ok _) hmix (planAt_ok (d := 64) (l := []) trivial) b4_2_eq) rfl _
abbrev g4_3 : Sg := ⟨[0, 3, 4, 5, 9, 10], [.lf (.sl (.pair (.int .i64) (.pair (.int .i64) (.int .i64)))), .lf (.ptr 0 0), .lf (.gr .bool 2), .lf (.int .i64), .lf (.gr (.int .u8) 3), .lf (.int .i64)], [some (.box true [.lf (.gr (.int .u8) 1), .lf (.int .i64), .lf (.int .i64)]), some (.arr true (.int .u8)), some (.arr true .bool), some (.arr true (.int .u8))]⟩
abbrev o4_3 : Outs := [(.exit 4, g4_3)]
noncomputable def b4_3 (x : g4_3.D) : Option (outD ((.normal, g4_3) :: o4_3)) :=
  (if ((decide (x.2.2.1 < (((List.length x.2.2.2.2.2.2.2.1) : Nat) : Int))) = true) then (if ((0 : Int) ≤ x.2.2.1) then (if (x.2.2.1 < (((List.length x.2.2.2.2.2.2.2.1) : Nat) : Int)) then (if ((List.length x.2.2.2.2.2.2.1) = (List.length x.2.2.2.2.2.2.1)) then (if ((List.length x.2.2.2.2.2.2.2.1) = (List.length (List.set x.2.2.2.2.2.2.2.1 ((0 : Nat) + (Int.toNat x.2.2.1)) (7 : Int)))) then (if ((List.length x.2.2.2.2.2.1) = (List.length x.2.2.2.2.2.1)) then (some (Sum.inl (x.1, (x.2.1, ((Go.IntKind.wrap Go.IntKind.i64 (x.2.2.1 + (1 : Int))), (x.2.2.2.1, (x.2.2.2.2.1, (x.2.2.2.2.2.1, (x.2.2.2.2.2.2.1, ((List.set x.2.2.2.2.2.2.2.1 ((0 : Nat) + (Int.toNat x.2.2.1)) (7 : Int)), Unit.unit))))))))))
   else none)
   else none)
   else none)
   else none)
   else none)
   else (if ((List.length x.2.2.2.2.2.2.1) = (List.length x.2.2.2.2.2.2.1)) then (if ((List.length x.2.2.2.2.2.2.2.1) = (List.length x.2.2.2.2.2.2.2.1)) then (if ((List.length x.2.2.2.2.2.1) = (List.length x.2.2.2.2.2.1)) then (some (Sum.inr (Sum.inl (x.1, (x.2.1, (x.2.2.1, (x.2.2.2.1, (x.2.2.2.2.1, (x.2.2.2.2.2.1, (x.2.2.2.2.2.2.1, (x.2.2.2.2.2.2.2.1, Unit.unit)))))))))))
   else none)
   else none)
   else none))
theorem b4_3_eq (x : g4_3.D) : b4_3 x = evF P (T15.orc _) Go.Proofs.Try.f4.ntmps fx4 (Code.at [true, true, true, true, true, false, true, false, false, true, false, false, true, true, true, true, true, false, false] c4) (planAt 64 []) g4_3 x (injK fx4 ((.normal, g4_3) :: o4_3) some) := by kernel_rfl
noncomputable def l4_3 : g4_3.D → Option (outD o4_3) := loopN g4_3 o4_3 b4_3 18446744073709551616
theorem at4_3 : Code.at [true, true, true, true, true, false, true, false, false, true, false, false, true, true, true, true, true, false] c4 = .loop (Code.at [true, true, true, true, true, false, true, false, false, true, false, false, true, true, true, true, true, false, false] c4) := by kernel_rfl
theorem s4_3_ok : SubOk P Go.Proofs.Try.f4.ntmps fx4 (Code.at [true, true, true, true, true, false, true, false, false, true, false, false, true, true, true, true, true, false] c4) ⟨g4_3, o4_3, l4_3⟩ := by
  rw [at4_3]
  exact loop_ok (sub_ok (ct := ⟨g4_3, ((.normal, g4_3) :: o4_3), b4_3⟩) (Table.ok T15_ok _) hmix (planAt_ok (d := 64) (l := []) trivial) b4_3_eq) rfl _
abbrev g4_4 : Sg := ⟨[0, 3, 4, 5, 6, 29], [.lf (.sl (.pair (.int .i64) (.pair (.int .i64) (.int .i64)))), .lf (.ptr 0 0), .lf (.gr .bool 2), .lf (.int .i64), .lf (.ptr 3 0), .lf .bool], [some (.box true [.lf (.gr (.int .u8) 1), .lf (.int .i64), .lf (.int .i64)]), some (.arr true (.int .u8)), some (.arr true .bool), some (.box true [.lf (.int .i64), .lf (.int .i64), .lf (.int .i64)])]⟩
abbrev o4_4 : Outs := [(.normal, ⟨[0, 3, 4, 5], [.lf (.sl (.pair (.int .i64) (.pair (.int .i64) (.int .i64)))), .lf (.ptr 0 0), .lf (.gr .bool 2), .lf (.int .i64)], [some (.box true [.lf (.gr (.int .u8) 1), .lf (.int .i64), .lf (.int .i64)]), some (.arr true (.int .u8)), some (.arr true .bool)]⟩), (.ret, ⟨[2], [.lf .bool], []⟩)]
noncomputable def b4_4 (x : g4_4.D) : Option (outD o4_4) :=
  (if (x.2.2.1 = true) then (if ((List.length x.2.2.2.2.2.2.1) = (List.length x.2.2.2.2.2.2.1)) then (Option.bind (Go.Ev.Bits.f15 (x.2.2.2.2.2.2.2.2.1, (x.2.2.2.2.2.2.2.2.2.1, (x.2.2.2.2.2.2.1, Unit.unit)))) (fun y1 => (if ((List.length x.2.2.2.2.2.1) = (List.length x.2.2.2.2.2.1)) then (Option.bind (Go.Ev.Bits.f10 (x.2.2.2.2.2.2.2.2.1, (x.2.2.2.2.2.2.2.2.2.1, (x.2.2.2.1, (x.2.2.2.2.1, (x.2.2.2.2.2.1, Unit.unit)))))) (fun y2 => (if ((y2.1 != y1.1) = true) then (some (Sum.inr (Sum.inl (false, Unit.unit))))
   else (if ((List.length y1.2.1) = (List.length y1.2.1)) then (if ((List.length y2.2.2.2.1) = (List.length y2.2.2.2.1)) then (some (Sum.inl (x.1, (x.2.1, (y2.2.1, (y2.2.2.1, (y2.2.2.2.1, (y1.2.1, Unit.unit))))))))
   else none)
   else none))))
   else none)))
   else none)
   else (if ((List.length x.2.2.2.2.2.1) = (List.length x.2.2.2.2.2.1)) then (Option.bind (Go.Ev.Bits.f16 (x.2.2.2.1, (x.2.2.2.2.1, (x.2.2.2.2.2.1, Unit.unit)))) (fun y1 => (if ((y1.1 != (0 : Int)) = true) then (some (Sum.inr (Sum.inl (false, Unit.unit))))
   else (if ((List.length x.2.2.2.2.2.2.1) = (List.length x.2.2.2.2.2.2.1)) then (if ((List.length y1.2.2.2.1) = (List.length y1.2.2.2.1)) then (Option.bind (Go.Ev.Bits.l4_2 (x.1, (x.2.1, (y1.2.1, (y1.2.2.1, (y1.2.2.2.1, (x.2.2.2.2.2.2.1, Unit.unit))))))) (Sum.elim (fun y2 => (if ((List.length y2.2.2.2.2.2.1) = (List.length y2.2.2.2.2.2.1)) then (if ((List.length y2.2.2.2.2.1) = (List.length y2.2.2.2.2.1)) then (some (Sum.inl (y2.1, (y2.2.1, (y2.2.2.1, (y2.2.2.2.1, (y2.2.2.2.2.1, (y2.2.2.2.2.2.1, Unit.unit))))))))
   else none)
   else none)) Empty.elim))
   else none)
   else none))))
   else none))
theorem b4_4_eq (x : g4_4.D) : b4_4 x = evF P (T15.orc _) Go.Proofs.Try.f4.ntmps fx4 (Code.at [true, true, true, true, true, false, true, false, false, true, false, false, true, false, true] c4) (planAt 64 [([true, true, false], ⟨g4_2, o4_2, l4_2⟩)]) g4_4 x (injK fx4 o4_4 some) := by kernel_rfl
theorem s4_4_ok : SubOk P Go.Proofs.Try.f4.ntmps fx4 (Code.at [true, true, true, true, true, false, true, false, false, true, false, false, true, false, true] c4) ⟨g4_4, o4_4, b4_4⟩ :=
  sub_ok (ct := ⟨g4_4, o4_4, b4_4⟩) (Table.ok T15_ok _) hmix (planAt_ok (d := 64) (l := [([true, true, false], ⟨g4_2, o4_2, l4_2⟩)]) ⟨s4_2_ok, trivial⟩) b4_4_eq
abbrev g4_5 : Sg := ⟨[0, 3, 4, 5], [.lf (.sl (.pair (.int .i64) (.pair (.int .i64) (.int .i64)))), .lf (.ptr 0 0), .lf (.gr .bool 2), .lf (.int .i64)], [some (.box true [.lf (.gr (.int .u8) 1), .lf (.int .i64), .lf (.int .i64)]), some (.arr true (.int .u8)), some (.arr true .bool)]⟩
abbrev o4_5 : Outs := [(.normal, g4_5), (.ret, ⟨[2], [.lf .bool], []⟩)]
noncomputable def b4_5 (x : g4_5.D) : Option (outD o4_5) :=
  (if ((List.length x.2.2.2.2.1) = (List.length x.2.2.2.2.1)) then (Option.bind (Go.Ev.Bits.f11 (x.2.2.1, (x.2.2.2.1, (x.2.2.2.2.1, Unit.unit)))) (fun y1 => (Option.bind (Go.Ev.Bits.f17 ((List.take (List.length x.2.2.2.2.2.1) (List.drop (0 : Nat) x.2.2.2.2.2.1)), Unit.unit)) (fun y2 => (if ((Bool.not ((ByteArray.toList (ByteArray.mk (List.toArray (List.map (fun y3 => (UInt8.ofNat (Int.toNat y3))) (List.take (List.length y1.2.2.2.1) (List.drop (0 : Nat) y1.2.2.2.1)))))) == (ByteArray.toList (ByteArray.mk (List.toArray (List.map (fun y3 => (UInt8.ofNat (Int.toNat y3))) (List.take (List.length y2.1) (List.drop (0 : Nat) y2.1)))))))) = true) then (some (Sum.inr (Sum.inl (false, Unit.unit))))
   else (if ((List.length x.2.2.2.2.2.1) = (List.length x.2.2.2.2.2.1)) then (if ((List.length y1.2.2.2.1) = (List.length y1.2.2.2.1)) then (if ((List.length y1.2.2.1) = (List.length y1.2.2.1)) then (Option.bind (Go.Ev.Bits.l4_3 (x.1, (x.2.1, ((0 : Int), (y1.1, (y1.2.1, (y1.2.2.1, (x.2.2.2.2.2.1, (y1.2.2.2.1, Unit.unit))))))))) (Sum.elim (fun y3 => (if ((List.length y3.2.2.2.2.2.2.1) = (List.length y3.2.2.2.2.2.2.1)) then (if ((List.length y3.2.2.2.2.2.1) = (List.length y3.2.2.2.2.2.1)) then (some (Sum.inl (y3.1, (y3.2.1, (y3.2.2.2.1, (y3.2.2.2.2.1, (y3.2.2.2.2.2.1, (y3.2.2.2.2.2.2.1, Unit.unit))))))))
   else none)
   else none)) Empty.elim))
   else none)
   else none)
   else none))))))
   else none)
theorem b4_5_eq (x : g4_5.D) : b4_5 x = evF P (T15.orc _) Go.Proofs.Try.f4.ntmps fx4 (Code.at [true, true, true, true, true, false, true, false, false, true, false, false, true, true] c4) (planAt 64 [([true, true, true, false], ⟨g4_3, o4_3, l4_3⟩)]) g4_5 x (injK fx4 o4_5 some) := by kernel_rfl
theorem s4_5_ok : SubOk P Go.Proofs.Try.f4.ntmps fx4 (Code.at [true, true, true, true, true, false, true, false, false, true, false, false, true, true] c4) ⟨g4_5, o4_5, b4_5⟩ :=
  sub_ok (ct := ⟨g4_5, o4_5, b4_5⟩) (Table.ok T15_ok _) hmix (planAt_ok (d := 64) (l := [([true, true, true, false], ⟨g4_3, o4_3, l4_3⟩)]) ⟨s4_3_ok, trivial⟩) b4_5_eq
abbrev g4_1 : Sg := ⟨[0, 3, 4, 5], [.lf (.sl (.pair (.int .i64) (.pair (.int .i64) (.int .i64)))), .lf (.ptr 0 0), .lf (.gr .bool 2), .lf (.int .i64)], [some (.box true [.lf (.gr (.int .u8) 1), .lf (.int .i64), .lf (.int .i64)]), some (.arr true (.int .u8)), some (.arr true .bool)]⟩
abbrev o4_1 : Outs := [(.exit 0, g4_1), (.ret, ⟨[2], [.lf .bool], []⟩)]
noncomputable def b4_1 (x : g4_1.D) : Option (outD ((.normal, g4_1) :: o4_1)) :=
  (if ((decide (x.2.1 < (((List.length x.1) : Nat) : Int))) = true) then (if ((0 : Int) ≤ x.2.1) then (if (x.2.1 < (((List.length x.1) : Nat) : Int)) then (if ((List.length x.2.2.2.2.2.1) = (List.length x.2.2.2.2.2.1)) then (if ((List.length x.2.2.2.2.1) = (List.length x.2.2.2.2.1)) then (Option.bind (Go.Ev.Bits.b4_4 (x.1, (x.2.1, (((List.getD x.1 (Int.toNat x.2.1) ((0 : Int), ((0 : Int), (0 : Int)))).1 == (0 : Int)), (x.2.2.1, (x.2.2.2.1, (x.2.2.2.2.1, (x.2.2.2.2.2.1, ((List.getD x.1 (Int.toNat x.2.1) ((0 : Int), ((0 : Int), (0 : Int)))).1, ((List.getD x.1 (Int.toNat x.2.1) ((0 : Int), ((0 : Int), (0 : Int)))).2.1, ((List.getD x.1 (Int.toNat x.2.1) ((0 : Int), ((0 : Int), (0 : Int)))).2.2, Unit.unit))))))))))) (Sum.elim (fun y1 => (if ((List.length y1.2.2.2.2.2.1) = (List.length y1.2.2.2.2.2.1)) then (if ((List.length y1.2.2.2.2.1) = (List.length y1.2.2.2.2.1)) then (Option.bind (Go.Ev.Bits.b4_5 (y1.1, (y1.2.1, (y1.2.2.1, (y1.2.2.2.1, (y1.2.2.2.2.1, (y1.2.2.2.2.2.1, Unit.unit))))))) (Sum.elim (fun y2 => (if ((List.length y2.2.2.2.2.2.1) = (List.length y2.2.2.2.2.2.1)) then (if ((List.length y2.2.2.2.2.1) = (List.length y2.2.2.2.2.1)) then (some (Sum.inl (y2.1, ((Go.IntKind.wrap Go.IntKind.i64 (y2.2.1 + (1 : Int))), (y2.2.2.1, (y2.2.2.2.1, (y2.2.2.2.2.1, (y2.2.2.2.2.2.1, Unit.unit))))))))
   else none)
   else none)) (Sum.elim (fun y2 => (some (Sum.inr (Sum.inr (Sum.inl (y2.1, Unit.unit)))))) Empty.elim)))
   else none)
   else none)) (Sum.elim (fun y1 => (some (Sum.inr (Sum.inr (Sum.inl (y1.1, Unit.unit)))))) Empty.elim)))
   else none)
   else none)
   else none)
   else none)
   else (if ((List.length x.2.2.2.2.2.1) = (List.length x.2.2.2.2.2.1)) then (if ((List.length x.2.2.2.2.1) = (List.length x.2.2.2.2.1)) then (some (Sum.inr (Sum.inl (x.1, (x.2.1, (x.2.2.1, (x.2.2.2.1, (x.2.2.2.2.1, (x.2.2.2.2.2.1, Unit.unit)))))))))
   else none)
   else none))
theorem b4_1_eq (x : g4_1.D) : b4_1 x = evF P (T15.orc _) Go.Proofs.Try.f4.ntmps fx4 (Code.at [true, true, true, true, true, false, true, false, false] c4) (planAt 64 [([true, false, false, true, false, true], ⟨g4_4, o4_4, b4_4⟩), ([true, false, false, true, true], ⟨g4_5, o4_5, b4_5⟩)]) g4_1 x (injK fx4 ((.normal, g4_1) :: o4_1) some) := by kernel_rfl
noncomputable def l4_1 : g4_1.D → Option (outD o4_1) := loopN g4_1 o4_1 b4_1 18446744073709551616
theorem at4_1 : Code.at [true, true, true, true, true, false, true, false] c4 = .loop (Code.at [true, true, true, true, true, false, true, false, false] c4) := by kernel_rfl
theorem s4_1_ok : SubOk P Go.Proofs.Try.f4.ntmps fx4 (Code.at [true, true, true, true, true, false, true, false] c4) ⟨g4_1, o4_1, l4_1⟩ := by
  rw [at4_1]
  exact loop_ok (sub_ok (ct := ⟨g4_1, ((.normal, g4_1) :: o4_1), b4_1⟩) (Table.ok T15_ok _) hmix (planAt_ok (d := 64) (l := [([true, false, false, true, false, true], ⟨g4_4, o4_4, b4_4⟩), ([true, false, false, true, true], ⟨g4_5, o4_5, b4_5⟩)]) ⟨s4_4_ok, s4_5_ok, trivial⟩) b4_1_eq) rfl _
noncomputable def f4 (x : gi4.D) : Option go4.D :=
  (if ((decide ((((List.length x.1) : Nat) : Int) > (100 : Int))) = true) then (some (true, Unit.unit))
   else (Option.bind (Go.Ev.Bits.f8 Unit.unit) (fun y1 => (if ((List.length y1.2.2.1) = (List.length y1.2.2.1)) then (Option.bind (Go.Ev.Bits.l4_1 (x.1, ((0 : Int), (y1.1, (y1.2.1, (y1.2.2.1, ([], Unit.unit))))))) (Sum.elim (fun _ => (Option.bind (Go.Ev.Bits.f9 Unit.unit) (fun y3 => (some (y3.1, Unit.unit))))) (Sum.elim (fun y2 => (some (y2.1, Unit.unit))) Empty.elim)))
   else none))))
theorem f4_eq (x : gi4.D) : f4 x = evF P (T15.orc _) Go.Proofs.Try.f4.ntmps fx4 c4 (planAt 64 [([true, true, true, true, true, false, true, false], ⟨g4_1, o4_1, l4_1⟩)]) gi4 x (fnK fx4 go4) := by kernel_rfl
theorem f4_ok : EntOk P 4 ⟨gi4, go4, f4⟩ :=
  ent_ok (e := ⟨gi4, go4, f4⟩) (c := c4) (fx := fx4) ⟨Go.Proofs.Try.func4, by kernel_rfl, rfl, by decide +kernel, by kernel_rfl, rfl, rfl⟩ (Table.ok T15_ok _) hmix (planAt_ok (d := 64) (l := [([true, true, true, true, true, false, true, false], ⟨g4_1, o4_1, l4_1⟩)]) ⟨s4_1_ok, trivial⟩) f4_eq
noncomputable def T4 : Table := T15.add 4 [⟨gi4, go4, f4⟩] []
theorem T4_ok : TableOk P T4 := Table.plus T15_ok (es := [⟨gi4, go4, f4⟩]) ⟨f4_ok, trivial⟩ []

/-! ## 5: BitsReads -/
noncomputable def c5 : Code := Func.code Go.Proofs.Try.f5
abbrev gi5 : Sg := ⟨[0, 1], [.lf (.sl (.int .u8)), .lf (.sl (.pair (.int .i64) (.pair (.int .i64) (.int .i64))))], []⟩
abbrev go5 : Sg := ⟨[4], [.lf .bool], []⟩
def fx5 : List Bool := []
abbrev g5_2 : Sg := ⟨[0, 1, 5, 6, 7, 8, 14, 18], [.lf (.sl (.int .u8)), .lf (.sl (.pair (.int .i64) (.pair (.int .i64) (.int .i64)))), .lf (.sl (.int .u8)), .lf (.ptr 0 0), .lf (.ptr 1 0), .lf (.int .i64), .lf (.gr (.int .u8) 2), .lf (.int .i64)], [some (.box true [.lf (.sl (.int .u8)), .lf (.int .i64), .lf (.int .i64), .lf (.int .i64)]), some (.box true [.lf (.sl .bool), .lf (.int .i64)]), some (.arr true (.int .u8))]⟩
abbrev o5_2 : Outs := [(.exit 3, g5_2)]
noncomputable def b5_2 (x : g5_2.D) : Option (outD ((.normal, g5_2) :: o5_2)) :=
  (if ((decide (x.2.2.2.2.1 < (((List.length x.2.2.2.2.2.2.2.2.2.2.2.1) : Nat) : Int))) = true) then (if ((0 : Int) ≤ x.2.2.2.2.1) then (if (x.2.2.2.2.1 < (((List.length x.2.2.2.2.2.2.2.2.2.2.2.1) : Nat) : Int)) then (if ((List.length x.2.2.2.2.2.2.2.2.2.2.2.1) = (List.length (List.set x.2.2.2.2.2.2.2.2.2.2.2.1 ((0 : Nat) + (Int.toNat x.2.2.2.2.1)) (7 : Int)))) then (some (Sum.inl (x.1, (x.2.1, (x.2.2.1, (x.2.2.2.1, ((Go.IntKind.wrap Go.IntKind.i64 (x.2.2.2.2.1 + (1 : Int))), (x.2.2.2.2.2.1, (x.2.2.2.2.2.2.1, (x.2.2.2.2.2.2.2.1, (x.2.2.2.2.2.2.2.2.1, (x.2.2.2.2.2.2.2.2.2.1, (x.2.2.2.2.2.2.2.2.2.2.1, ((List.set x.2.2.2.2.2.2.2.2.2.2.2.1 ((0 : Nat) + (Int.toNat x.2.2.2.2.1)) (7 : Int)), Unit.unit))))))))))))))
   else none)
   else none)
   else none)
   else (if ((List.length x.2.2.2.2.2.2.2.2.2.2.2.1) = (List.length x.2.2.2.2.2.2.2.2.2.2.2.1)) then (some (Sum.inr (Sum.inl (x.1, (x.2.1, (x.2.2.1, (x.2.2.2.1, (x.2.2.2.2.1, (x.2.2.2.2.2.1, (x.2.2.2.2.2.2.1, (x.2.2.2.2.2.2.2.1, (x.2.2.2.2.2.2.2.2.1, (x.2.2.2.2.2.2.2.2.2.1, (x.2.2.2.2.2.2.2.2.2.2.1, (x.2.2.2.2.2.2.2.2.2.2.2.1, Unit.unit)))))))))))))))
   else none))
theorem b5_2_eq (x : g5_2.D) : b5_2 x = evF P (T4.orc _) Go.Proofs.Try.f5.ntmps fx5 (Code.at [true, true, true, true, true, true, false, true, false, false, true, false, false, true, false, true, false, true, true, true, true, true, true, true, true, false, false] c5) (planAt 64 []) g5_2 x (injK fx5 ((.normal, g5_2) :: o5_2) some) := by kernel_rfl
noncomputable def l5_2 : g5_2.D → Option (outD o5_2) := loopN g5_2 o5_2 b5_2 18446744073709551616
theorem at5_2 : Code.at [true, true, true, true, true, true, false, true, false, false, true, false, false, true, false, true, false, true, true, true, true, true, true, true, true, false] c5 = .loop (Code.at [true, true, true, true, true, true, false, true, false, false, true, false, false, true, false, true, false, true, true, true, true, true, true, true, true, false, false] c5) := by kernel_rfl
theorem s5_2_ok : SubOk P Go.Proofs.Try.f5.ntmps fx5 (Code.at [true, true, true, true, true, true, false, true, false, false, true, false, false, true, false, true, false, true, true, true, true, true, true, true, true, false] c5) ⟨g5_2, o5_2, l5_2⟩ := by
  rw [at5_2]
  exact loop_ok (sub_ok (ct := ⟨g5_2, ((.normal, g5_2) :: o5_2), b5_2⟩) (Table.ok T4_ok _) hmix (planAt_ok (d := 64) (l := []) trivial) b5_2_eq) rfl _
abbrev g5_4 : Sg := ⟨[0, 1, 5, 6, 7, 8, 14, 15, 16, 17], [.lf (.sl (.int .u8)), .lf (.sl (.pair (.int .i64) (.pair (.int .i64) (.int .i64)))), .lf (.sl (.int .u8)), .lf (.ptr 0 0), .lf (.ptr 1 0), .lf (.int .i64), .lf (.gr (.int .u8) 2), .lf (.int .i64), .lf (.gr (.int .u8) 3), .lf (.int .i64)], [some (.box true [.lf (.sl (.int .u8)), .lf (.int .i64), .lf (.int .i64), .lf (.int .i64)]), some (.box true [.lf (.sl .bool), .lf (.int .i64)]), some (.arr true (.int .u8)), some (.arr true (.int .u8))]⟩
abbrev o5_4 : Outs := [(.normal, ⟨[0, 1, 5, 6, 7, 8], [.lf (.sl (.int .u8)), .lf (.sl (.pair (.int .i64) (.pair (.int .i64) (.int .i64)))), .lf (.sl (.int .u8)), .lf (.ptr 0 0), .lf (.ptr 1 0), .lf (.int .i64)], [some (.box true [.lf (.sl (.int .u8)), .lf (.int .i64), .lf (.int .i64), .lf (.int .i64)]), some (.box true [.lf (.sl .bool), .lf (.int .i64)])]⟩), (.ret, ⟨[4], [.lf .bool], []⟩)]
noncomputable def b5_4 (x : g5_4.D) : Option (outD o5_4) :=
  (if ((Bool.not ((ByteArray.toList (ByteArray.mk (List.toArray (List.map (fun y1 => (UInt8.ofNat (Int.toNat y1))) (List.take (List.length x.2.2.2.2.2.2.2.2.2.2.2.2.1) (List.drop (0 : Nat) x.2.2.2.2.2.2.2.2.2.2.2.2.1)))))) == (ByteArray.toList (ByteArray.mk (List.toArray (List.map (fun y1 => (UInt8.ofNat (Int.toNat y1))) (List.take (List.length x.2.2.2.2.2.2.2.2.2.2.2.2.2.1) (List.drop (0 : Nat) x.2.2.2.2.2.2.2.2.2.2.2.2.2.1)))))))) = true) then (some (Sum.inr (Sum.inl (false, Unit.unit))))
   else (if ((x.2.2.2.2.1 != x.2.2.2.2.2.1) = true) then (some (Sum.inr (Sum.inl (false, Unit.unit))))
   else (if ((List.length x.2.2.2.2.2.2.2.2.2.2.2.2.1) = (List.length x.2.2.2.2.2.2.2.2.2.2.2.2.1)) then (Option.bind (Go.Ev.Bits.l5_2 (x.1, (x.2.1, (x.2.2.1, (x.2.2.2.1, ((0 : Int), (x.2.2.2.2.2.2.1, (x.2.2.2.2.2.2.2.1, (x.2.2.2.2.2.2.2.2.1, (x.2.2.2.2.2.2.2.2.2.1, (x.2.2.2.2.2.2.2.2.2.2.1, (x.2.2.2.2.2.2.2.2.2.2.2.1, (x.2.2.2.2.2.2.2.2.2.2.2.2.1, Unit.unit))))))))))))) (Sum.elim (fun y1 => (some (Sum.inl (y1.1, (y1.2.1, (y1.2.2.1, (y1.2.2.2.1, (y1.2.2.2.2.2.1, (y1.2.2.2.2.2.2.1, (y1.2.2.2.2.2.2.2.1, (y1.2.2.2.2.2.2.2.2.1, (y1.2.2.2.2.2.2.2.2.2.1, (y1.2.2.2.2.2.2.2.2.2.2.1, Unit.unit))))))))))))) Empty.elim))
   else none)))
theorem b5_4_eq (x : g5_4.D) : b5_4 x = evF P (T4.orc _) Go.Proofs.Try.f5.ntmps fx5 (Code.at [true, true, true, true, true, true, false, true, false, false, true, false, false, true, false, true, false, true, true, true, true, true, true] c5) (planAt 64 [([true, true, false], ⟨g5_2, o5_2, l5_2⟩)]) g5_4 x (injK fx5 o5_4 some) := by kernel_rfl
theorem s5_4_ok : SubOk P Go.Proofs.Try.f5.ntmps fx5 (Code.at [true, true, true, true, true, true, false, true, false, false, true, false, false, true, false, true, false, true, true, true, true, true, true] c5) ⟨g5_4, o5_4, b5_4⟩ :=
  sub_ok (ct := ⟨g5_4, o5_4, b5_4⟩) (Table.ok T4_ok _) hmix (planAt_ok (d := 64) (l := [([true, true, false], ⟨g5_2, o5_2, l5_2⟩)]) ⟨s5_2_ok, trivial⟩) b5_4_eq
abbrev g5_3 : Sg := ⟨[0, 1, 5, 6, 7, 8, 9, 48], [.lf (.sl (.int .u8)), .lf (.sl (.pair (.int .i64) (.pair (.int .i64) (.int .i64)))), .lf (.sl (.int .u8)), .lf (.ptr 0 0), .lf (.ptr 1 0), .lf (.int .i64), .lf (.ptr 2 0), .lf (.int .i64)], [some (.box true [.lf (.sl (.int .u8)), .lf (.int .i64), .lf (.int .i64), .lf (.int .i64)]), some (.box true [.lf (.sl .bool), .lf (.int .i64)]), some (.box true [.lf (.int .i64), .lf (.int .i64), .lf (.int .i64)])]⟩
abbrev o5_3 : Outs := [(.normal, ⟨[0, 1, 5, 6, 7, 8], [.lf (.sl (.int .u8)), .lf (.sl (.pair (.int .i64) (.pair (.int .i64) (.int .i64)))), .lf (.sl (.int .u8)), .lf (.ptr 0 0), .lf (.ptr 1 0), .lf (.int .i64)], [some (.box true [.lf (.sl (.int .u8)), .lf (.int .i64), .lf (.int .i64), .lf (.int .i64)]), some (.box true [.lf (.sl .bool), .lf (.int .i64)])]⟩), (.ret, ⟨[4], [.lf .bool], []⟩)]
noncomputable def b5_3 (x : g5_3.D) : Option (outD o5_3) :=
  (if ((x.2.2.2.2.1 == (0 : Int)) = true) then (Option.bind (Go.Ev.Bits.f13 (x.2.2.2.2.2.2.2.2.2.2.2.2.2.1, (x.2.2.2.2.2.1, (x.2.2.2.2.2.2.1, (x.2.2.2.2.2.2.2.1, (x.2.2.2.2.2.2.2.2.1, Unit.unit)))))) (fun y1 => (Option.bind (Go.Ev.Bits.f20 (x.2.2.2.2.2.2.2.2.2.2.2.2.2.1, (x.2.2.2.2.2.2.2.2.2.1, (x.2.2.2.2.2.2.2.2.2.2.1, Unit.unit)))) (fun y2 => (if ((y1.1 != y2.1) = true) then (some (Sum.inr (Sum.inl (false, Unit.unit))))
   else (if ((y1.2.1 != y2.2.1) = true) then (some (Sum.inr (Sum.inl (false, Unit.unit))))
   else (some (Sum.inl (x.1, (x.2.1, (x.2.2.1, (x.2.2.2.1, (y1.2.2.1, (y1.2.2.2.1, (y1.2.2.2.2.1, (y1.2.2.2.2.2.1, (y2.2.2.1, (y2.2.2.2.1, Unit.unit))))))))))))))))))
   else (if ((x.2.2.2.2.1 == (1 : Int)) = true) then (Option.bind (Go.Ev.Bits.f21 (x.2.2.2.2.2.1, (x.2.2.2.2.2.2.1, (x.2.2.2.2.2.2.2.1, (x.2.2.2.2.2.2.2.2.1, Unit.unit))))) (fun y1 => (Option.bind (Go.Ev.Bits.f22 (x.2.2.2.2.2.2.2.2.2.1, (x.2.2.2.2.2.2.2.2.2.2.1, Unit.unit))) (fun y2 => (if ((y1.1 != y2.1) = true) then (some (Sum.inr (Sum.inl (false, Unit.unit))))
   else (some (Sum.inl (x.1, (x.2.1, (x.2.2.1, (x.2.2.2.1, (y1.2.1, (y1.2.2.1, (y1.2.2.2.1, (y1.2.2.2.2.1, (y2.2.1, (y2.2.2.1, Unit.unit)))))))))))))))))
   else (Option.bind (Go.Ev.Bits.f23 (x.2.2.2.2.2.2.2.2.2.2.2.2.2.1, (x.2.2.2.2.2.1, (x.2.2.2.2.2.2.1, (x.2.2.2.2.2.2.2.1, (x.2.2.2.2.2.2.2.2.1, Unit.unit)))))) (fun y1 => (Option.bind (Go.Ev.Bits.f24 (x.2.2.2.2.2.2.2.2.2.2.2.2.2.1, (x.2.2.2.2.2.2.2.2.2.1, (x.2.2.2.2.2.2.2.2.2.2.1, Unit.unit)))) (fun y2 => (if ((List.length y1.2.2.2.2.2.1) = (List.length y1.2.2.2.2.2.1)) then (if ((List.length y2.2.2.2.1) = (List.length y2.2.2.2.1)) then (Option.bind (Go.Ev.Bits.b5_4 (x.1, (x.2.1, (x.2.2.1, (x.2.2.2.1, (y1.1, (y2.1, (y1.2.1, (y1.2.2.1, (y1.2.2.2.1, (y1.2.2.2.2.1, (y2.2.1, (y2.2.2.1, (y1.2.2.2.2.2.1, (y2.2.2.2.1, Unit.unit))))))))))))))) (Sum.elim (fun y3 => (some (Sum.inl (y3.1, (y3.2.1, (y3.2.2.1, (y3.2.2.2.1, (y3.2.2.2.2.1, (y3.2.2.2.2.2.1, (y3.2.2.2.2.2.2.1, (y3.2.2.2.2.2.2.2.1, (y3.2.2.2.2.2.2.2.2.1, (y3.2.2.2.2.2.2.2.2.2.1, Unit.unit))))))))))))) (Sum.elim (fun y3 => (some (Sum.inr (Sum.inl (y3.1, Unit.unit))))) Empty.elim)))
   else none)
   else none)))))))
theorem b5_3_eq (x : g5_3.D) : b5_3 x = evF P (T4.orc _) Go.Proofs.Try.f5.ntmps fx5 (Code.at [true, true, true, true, true, true, false, true, false, false, true, false, false, true, false, true] c5) (planAt 64 [([false, true, true, true, true, true, true], ⟨g5_4, o5_4, b5_4⟩)]) g5_3 x (injK fx5 o5_3 some) := by kernel_rfl
theorem s5_3_ok : SubOk P Go.Proofs.Try.f5.ntmps fx5 (Code.at [true, true, true, true, true, true, false, true, false, false, true, false, false, true, false, true] c5) ⟨g5_3, o5_3, b5_3⟩ :=
  sub_ok (ct := ⟨g5_3, o5_3, b5_3⟩) (Table.ok T4_ok _) hmix (planAt_ok (d := 64) (l := [([false, true, true, true, true, true, true], ⟨g5_4, o5_4, b5_4⟩)]) ⟨s5_4_ok, trivial⟩) b5_3_eq
abbrev g5_1 : Sg := ⟨[0, 1, 5, 6, 7, 8], [.lf (.sl (.int .u8)), .lf (.sl (.pair (.int .i64) (.pair (.int .i64) (.int .i64)))), .lf (.sl (.int .u8)), .lf (.ptr 0 0), .lf (.ptr 1 0), .lf (.int .i64)], [some (.box true [.lf (.sl (.int .u8)), .lf (.int .i64), .lf (.int .i64), .lf (.int .i64)]), some (.box true [.lf (.sl .bool), .lf (.int .i64)])]⟩
abbrev o5_1 : Outs := [(.exit 0, g5_1), (.ret, ⟨[4], [.lf .bool], []⟩)]
noncomputable def b5_1 (x : g5_1.D) : Option (outD ((.normal, g5_1) :: o5_1)) :=
  (if ((decide (x.2.2.2.1 < (((List.length x.2.1) : Nat) : Int))) = true) then (if ((0 : Int) ≤ x.2.2.2.1) then (if (x.2.2.2.1 < (((List.length x.2.1) : Nat) : Int)) then (Option.bind (Go.Ev.Bits.b5_3 (x.1, (x.2.1, (x.2.2.1, (x.2.2.2.1, ((List.getD x.2.1 (Int.toNat x.2.2.2.1) ((0 : Int), ((0 : Int), (0 : Int)))).1, (x.2.2.2.2.1, (x.2.2.2.2.2.1, (x.2.2.2.2.2.2.1, (x.2.2.2.2.2.2.2.1, (x.2.2.2.2.2.2.2.2.1, (x.2.2.2.2.2.2.2.2.2.1, ((List.getD x.2.1 (Int.toNat x.2.2.2.1) ((0 : Int), ((0 : Int), (0 : Int)))).1, ((List.getD x.2.1 (Int.toNat x.2.2.2.1) ((0 : Int), ((0 : Int), (0 : Int)))).2.1, ((List.getD x.2.1 (Int.toNat x.2.2.2.1) ((0 : Int), ((0 : Int), (0 : Int)))).2.2, Unit.unit))))))))))))))) (Sum.elim (fun y1 => (Option.bind (Go.Ev.Bits.f14 (y1.2.2.2.2.1, (y1.2.2.2.2.2.1, (y1.2.2.2.2.2.2.1, (y1.2.2.2.2.2.2.2.1, Unit.unit))))) (fun y2 => (if ((y2.1 != (Go.IntKind.wrap Go.IntKind.i64 ((((List.length y1.2.2.2.2.2.2.2.2.1) : Nat) : Int) - y1.2.2.2.2.2.2.2.2.2.1))) = true) then (some (Sum.inr (Sum.inr (Sum.inl (false, Unit.unit)))))
   else (some (Sum.inl (y1.1, (y1.2.1, (y1.2.2.1, ((Go.IntKind.wrap Go.IntKind.i64 (y1.2.2.2.1 + (1 : Int))), (y2.2.1, (y2.2.2.1, (y2.2.2.2.1, (y2.2.2.2.2.1, (y1.2.2.2.2.2.2.2.2.1, (y1.2.2.2.2.2.2.2.2.2.1, Unit.unit)))))))))))))))) (Sum.elim (fun y1 => (some (Sum.inr (Sum.inr (Sum.inl (y1.1, Unit.unit)))))) Empty.elim)))
   else none)
   else none)
   else (some (Sum.inr (Sum.inl (x.1, (x.2.1, (x.2.2.1, (x.2.2.2.1, (x.2.2.2.2.1, (x.2.2.2.2.2.1, (x.2.2.2.2.2.2.1, (x.2.2.2.2.2.2.2.1, (x.2.2.2.2.2.2.2.2.1, (x.2.2.2.2.2.2.2.2.2.1, Unit.unit))))))))))))))
theorem b5_1_eq (x : g5_1.D) : b5_1 x = evF P (T4.orc _) Go.Proofs.Try.f5.ntmps fx5 (Code.at [true, true, true, true, true, true, false, true, false, false] c5) (planAt 64 [([true, false, false, true, false, true], ⟨g5_3, o5_3, b5_3⟩)]) g5_1 x (injK fx5 ((.normal, g5_1) :: o5_1) some) := by kernel_rfl
noncomputable def l5_1 : g5_1.D → Option (outD o5_1) := loopN g5_1 o5_1 b5_1 18446744073709551616
theorem at5_1 : Code.at [true, true, true, true, true, true, false, true, false] c5 = .loop (Code.at [true, true, true, true, true, true, false, true, false, false] c5) := by kernel_rfl
theorem s5_1_ok : SubOk P Go.Proofs.Try.f5.ntmps fx5 (Code.at [true, true, true, true, true, true, false, true, false] c5) ⟨g5_1, o5_1, l5_1⟩ := by
  rw [at5_1]
  exact loop_ok (sub_ok (ct := ⟨g5_1, ((.normal, g5_1) :: o5_1), b5_1⟩) (Table.ok T4_ok _) hmix (planAt_ok (d := 64) (l := [([true, false, false, true, false, true], ⟨g5_3, o5_3, b5_3⟩)]) ⟨s5_3_ok, trivial⟩) b5_1_eq) rfl _
noncomputable def f5 (x : gi5.D) : Option go5.D :=
  (if ((decide ((((List.length x.1) : Nat) : Int) > (500 : Int))) = true) then (some (true, Unit.unit))
   else (if ((decide ((((List.length x.2.1) : Nat) : Int) > (100 : Int))) = true) then (some (true, Unit.unit))
   else (Option.bind (Go.Ev.Bits.f18 (x.1, Unit.unit)) (fun y1 => (Option.bind (Go.Ev.Bits.f12 ((List.take (List.length y1.1) (List.drop (0 : Nat) y1.1)), Unit.unit)) (fun y2 => (Option.bind (Go.Ev.Bits.f19 (x.1, Unit.unit)) (fun y3 => (Option.bind (Go.Ev.Bits.l5_1 (x.1, (x.2.1, ((List.take (List.length y1.1) (List.drop (0 : Nat) y1.1)), ((0 : Int), (y2.1, (y2.2.1, (y2.2.2.1, (y2.2.2.2.1, (y3.1, ((0 : Int), Unit.unit))))))))))) (Sum.elim (fun y4 => (Option.bind (Go.Ev.Bits.f9 Unit.unit) (fun y5 => (if (y5.1 = true) then (some (((ByteArray.toList (ByteArray.mk (List.toArray (List.map (fun y6 => (UInt8.ofNat (Int.toNat y6))) y4.2.2.1)))) == (ByteArray.toList (ByteArray.mk (List.toArray (List.map (fun y6 => (UInt8.ofNat (Int.toNat y6))) y4.1))))), Unit.unit))
   else (some (false, Unit.unit)))))) (Sum.elim (fun y4 => (some (y4.1, Unit.unit))) Empty.elim)))))))))))
theorem f5_eq (x : gi5.D) : f5 x = evF P (T4.orc _) Go.Proofs.Try.f5.ntmps fx5 c5 (planAt 64 [([true, true, true, true, true, true, false, true, false], ⟨g5_1, o5_1, l5_1⟩)]) gi5 x (fnK fx5 go5) := by kernel_rfl
theorem f5_ok : EntOk P 5 ⟨gi5, go5, f5⟩ :=
  ent_ok (e := ⟨gi5, go5, f5⟩) (c := c5) (fx := fx5) ⟨Go.Proofs.Try.func5, by kernel_rfl, rfl, by decide +kernel, by kernel_rfl, rfl, rfl⟩ (Table.ok T4_ok _) hmix (planAt_ok (d := 64) (l := [([true, true, true, true, true, true, false, true, false], ⟨g5_1, o5_1, l5_1⟩)]) ⟨s5_1_ok, trivial⟩) f5_eq
noncomputable def T5 : Table := T4.add 5 [⟨gi5, go5, f5⟩] []
theorem T5_ok : TableOk P T5 := Table.plus T4_ok (es := [⟨gi5, go5, f5⟩]) ⟨f5_ok, trivial⟩ []

end Go.Ev.Bits
