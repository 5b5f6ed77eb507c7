/- Part of a proof about the given program: F. -/
import Derived.Test.YtbgbplacpjcmfaaEvEE
import Derived.Test.YtbgbplacpjcmfaaAscEnt
import Derived.Test.YtbgbplacpjcmfaaChecked
namespace Go.Ev.Asc
open Go.Ev

noncomputable abbrev P := Go.Proofs.Try.prog
set_option maxRecDepth 1000000
theorem hmix : P.follows .mixedOrders = true := by kernel_rfl

/-! ## 8: erasure/erasureref04.Own -/
noncomputable def c8 : Code := Func.code Go.Proofs.Try.f8
abbrev gi8 : Sg := ⟨[0], [.lf (.sl (.int .u8))], []⟩
abbrev go8 : Sg := ⟨[2], [.lf (.gr (.int .u8) 0)], [some (.arr true (.int .u8))]⟩
def fx8 : List Bool := []
noncomputable def f8 (x : gi8.D) : Option go8.D :=
  (if (((0 : Nat) + (List.length x.1)) ≤ (140737488355328 : Nat)) then (if (((0 : Nat) < ((0 : Nat) + (List.length x.1))) ∨ (((0 : Nat) = (0 : Nat)) ∧ ((0 : Nat) = (0 : Nat)))) then (if ((List.length ([] ++ x.1)) = (List.length ([] ++ x.1))) then (some (([] ++ x.1), Unit.unit))
   else none)
   else none)
   else none)
theorem f8_eq (x : gi8.D) : f8 x = evF P (Table.empty.orc _) Go.Proofs.Try.f8.ntmps fx8 c8 (planAt 64 []) gi8 x (fnK fx8 [go8]) := by kernel_rfl
theorem f8_ok : EntOk P 8 ⟨gi8, [go8], f8⟩ :=
  ent_ok (fn := Go.Proofs.Try.f8) (gi := gi8) (gos := [go8]) (f := f8) (c := c8) (fx := fx8) ⟨Go.Proofs.Try.func8, by kernel_rfl, rfl, by decide +kernel, rfl, rfl⟩ (by kernel_rfl) (Table.ok (Table.empty_ok P) _) hmix (planAt_ok (P := P) (n := Go.Proofs.Try.f8.ntmps) (fx := fx8) (any := true) (c := c8) (d := 64) (l := []) trivial) f8_eq
noncomputable def T8 : Table := Table.empty.add 8 [⟨gi8, [go8], f8⟩] []
theorem T8_ok : TableOk P T8 := Table.plus (Table.empty_ok P) (es := [⟨gi8, [go8], f8⟩]) ⟨f8_ok, trivial⟩ []

/-! ## 22: strings.Cut -/
noncomputable def T22 : Table := T8.add 22 [⟨gi22, [go22], f22⟩] []
theorem T22_ok : TableOk P T22 := Table.plus T8_ok (es := [⟨gi22, [go22], f22⟩]) ⟨f22_ok, trivial⟩ []

/-! ## 23: erasure/ascii.digit -/
noncomputable def c23 : Code := Func.code Go.Proofs.Try.f23
abbrev gi23 : Sg := ⟨[0], [.lf (.int .u8)], []⟩
abbrev go23 : Sg := ⟨[2], [.lf (.int .i64)], []⟩
def fx23 : List Bool := []
abbrev g23_1 : Sg := ⟨[0, 3, 6], [.lf (.int .u8), .lf (.int .i64), .lf (.ptr 0 0)], [some .iter]⟩
abbrev o23_1 : Outs := [(.exit 0, ⟨[3], [.lf (.int .i64)], []⟩)]
noncomputable def b23_1 (x : g23_1.D) : Option (outD ((.normal, g23_1) :: o23_1)) :=
  (if (x.2.2.2.1 < (ByteArray.size x.2.2.1)) then (if ((x.1 == (Go.IntKind.wrap Go.IntKind.u8 (((Go.Utf8.decode x.2.2.1 x.2.2.2.1).1 : Nat) : Int))) = true) then (some (Sum.inl (x.1, (((x.2.2.2.1 : Nat) : Int), (x.2.2.1, ((x.2.2.2.1 + (Go.Utf8.decode x.2.2.1 x.2.2.2.1).2), Unit.unit))))))
   else (if ((decide (x.1 ≥ (97 : Int))) = true) then (if (((Go.IntKind.wrap Go.IntKind.u8 (x.1 - (32 : Int))) == (Go.IntKind.wrap Go.IntKind.u8 (((Go.Utf8.decode x.2.2.1 x.2.2.2.1).1 : Nat) : Int))) = true) then (some (Sum.inl (x.1, (((x.2.2.2.1 : Nat) : Int), (x.2.2.1, ((x.2.2.2.1 + (Go.Utf8.decode x.2.2.1 x.2.2.2.1).2), Unit.unit))))))
   else (some (Sum.inl (x.1, (x.2.1, (x.2.2.1, ((x.2.2.2.1 + (Go.Utf8.decode x.2.2.1 x.2.2.2.1).2), Unit.unit)))))))
   else (some (Sum.inl (x.1, (x.2.1, (x.2.2.1, ((x.2.2.2.1 + (Go.Utf8.decode x.2.2.1 x.2.2.2.1).2), Unit.unit))))))))
   else (some (Sum.inr (Sum.inl (x.2.1, Unit.unit)))))
theorem b23_1_eq (x : g23_1.D) : b23_1 x = evF P (T22.orc _) Go.Proofs.Try.f23.ntmps fx23 (Code.at [true, true, false, true, false, false] c23) (planAt 64 []) g23_1 x (injK fx23 ((.normal, g23_1) :: o23_1) some) := by kernel_rfl
noncomputable def l23_1 : g23_1.D → Option (outD o23_1) := loopN g23_1 o23_1 b23_1 18446744073709551616
theorem at23_1 : Code.at [true, true, false, true, false] c23 = .loop (Code.at [true, true, false, true, false, false] c23) := by kernel_rfl
theorem s23_1_ok : SubOk P Go.Proofs.Try.f23.ntmps fx23 (Code.at [true, true, false, true, false] c23) ⟨g23_1, o23_1, l23_1⟩ := by
  rw [at23_1]
  exact loop_ok (sub_ok (g := g23_1) (outs := ((.normal, g23_1) :: o23_1)) (f := b23_1) (Table.ok T22_ok _) hmix (planAt_ok (P := P) (n := Go.Proofs.Try.f23.ntmps) (fx := fx23) (any := true) (c := (Code.at [true, true, false, true, false, false] c23)) (d := 64) (l := []) trivial) b23_1_eq) rfl _
noncomputable def f23 (x : gi23.D) : Option go23.D :=
  (Option.bind (Go.Ev.Asc.l23_1 (x.1, ((-1 : Int), ((ByteArray.mk #[48, 49, 50, 51, 52, 53, 54, 55, 56, 57, 65, 66, 67, 68, 69, 70]), ((0 : Nat), Unit.unit))))) (Sum.elim (fun y1 => (some (y1.1, Unit.unit))) Empty.elim))
theorem f23_eq (x : gi23.D) : f23 x = evF P (T22.orc _) Go.Proofs.Try.f23.ntmps fx23 c23 (planAt 64 [([true, true, false, true, false], ⟨g23_1, o23_1, l23_1⟩)]) gi23 x (fnK fx23 [go23]) := by kernel_rfl
theorem pf23 : AllSub P Go.Proofs.Try.f23.ntmps fx23 true c23 [([true, true, false, true, false], ⟨g23_1, o23_1, l23_1⟩)] := And.intro s23_1_ok (trivial)
theorem qf23 : PlanOk P Go.Proofs.Try.f23.ntmps fx23 true (planAt 64 [([true, true, false, true, false], ⟨g23_1, o23_1, l23_1⟩)]) c23 := planAt_ok pf23
theorem f23_ok : EntOk P 23 ⟨gi23, [go23], f23⟩ :=
  ent_ok (fn := Go.Proofs.Try.f23) (gi := gi23) (gos := [go23]) (f := f23) (c := c23) (fx := fx23) ⟨Go.Proofs.Try.func23, by kernel_rfl, rfl, by decide +kernel, rfl, rfl⟩ (by kernel_rfl) (Table.ok T22_ok _) hmix (qf23) f23_eq
noncomputable def T23 : Table := T22.add 23 [⟨gi23, [go23], f23⟩] []
theorem T23_ok : TableOk P T23 := Table.plus T22_ok (es := [⟨gi23, [go23], f23⟩]) ⟨f23_ok, trivial⟩ []

/-! ## 24: erasure/ascii.white -/
noncomputable def c24 : Code := Func.code Go.Proofs.Try.f24
abbrev gi24 : Sg := ⟨[0], [.lf (.int .u8)], []⟩
abbrev go24 : Sg := ⟨[2], [.lf .bool], []⟩
def fx24 : List Bool := []
noncomputable def f24 (x : gi24.D) : Option go24.D :=
  (if ((x.1 == (0 : Int)) = true) then (some (true, Unit.unit))
   else (if ((x.1 == (9 : Int)) = true) then (some (true, Unit.unit))
   else (if ((x.1 == (10 : Int)) = true) then (some (true, Unit.unit))
   else (if ((x.1 == (12 : Int)) = true) then (some (true, Unit.unit))
   else (if ((x.1 == (13 : Int)) = true) then (some (true, Unit.unit))
   else (if ((x.1 == (32 : Int)) = true) then (some (true, Unit.unit))
   else (some (false, Unit.unit))))))))
theorem f24_eq (x : gi24.D) : f24 x = evF P (T23.orc _) Go.Proofs.Try.f24.ntmps fx24 c24 (planAt 64 []) gi24 x (fnK fx24 [go24]) := by kernel_rfl
theorem f24_ok : EntOk P 24 ⟨gi24, [go24], f24⟩ :=
  ent_ok (fn := Go.Proofs.Try.f24) (gi := gi24) (gos := [go24]) (f := f24) (c := c24) (fx := fx24) ⟨Go.Proofs.Try.func24, by kernel_rfl, rfl, by decide +kernel, rfl, rfl⟩ (by kernel_rfl) (Table.ok T23_ok _) hmix (planAt_ok (P := P) (n := Go.Proofs.Try.f24.ntmps) (fx := fx24) (any := true) (c := c24) (d := 64) (l := []) trivial) f24_eq
noncomputable def T24 : Table := T23.add 24 [⟨gi24, [go24], f24⟩] []
theorem T24_ok : TableOk P T24 := Table.plus T23_ok (es := [⟨gi24, [go24], f24⟩]) ⟨f24_ok, trivial⟩ []

/-! ## 14: erasure/ascii.Unhex -/
noncomputable def c14 : Code := Func.code Go.Proofs.Try.f14
abbrev gi14 : Sg := ⟨[0, 1], [.lf .str, .lf (.int .i64)], []⟩
abbrev go14 : Sg := ⟨[4, 5], [.lf (.sl (.int .u8)), .lf (.int .i64)], []⟩
def fx14 : List Bool := []
abbrev g14_2 : Sg := ⟨[1, 9, 10, 12, 13, 29, 30, 31], [.lf (.int .i64), .lf (.gr (.int .u8) 0), .lf (.int .i64), .lf (.int .u8), .lf (.int .i64), .lf (.sl (.int .u8)), .lf (.int .i64), .lf (.int .i64)], [some (.arr true (.int .u8))]⟩
abbrev o14_2 : Outs := [(.normal, ⟨[1, 9, 10, 13, 29, 30, 31, 46], [.lf (.int .i64), .lf (.gr (.int .u8) 0), .lf (.int .i64), .lf (.int .i64), .lf (.sl (.int .u8)), .lf (.int .i64), .lf (.int .i64), .lf .bool], [some (.arr true (.int .u8))]⟩)]
noncomputable def b14_2 (x : g14_2.D) : Option (outD o14_2) :=
  (if ((decide (x.2.2.2.1 < (0 : Int))) = true) then (Option.bind (Go.Ev.Asc.f24 (x.2.2.1, Unit.unit)) (fun y1 => (if ((List.length x.2.2.2.2.2.2.2.1) = (List.length x.2.2.2.2.2.2.2.1)) then (some (Sum.inl (x.1, (x.2.1, (x.2.2.2.1, (x.2.2.2.2.1, (x.2.2.2.2.2.1, (x.2.2.2.2.2.2.1, ((Bool.not y1.1), (x.2.2.2.2.2.2.2.1, Unit.unit))))))))))
   else none)))
   else (if ((List.length x.2.2.2.2.2.2.2.1) = (List.length x.2.2.2.2.2.2.2.1)) then (some (Sum.inl (x.1, (x.2.1, (x.2.2.2.1, (x.2.2.2.2.1, (x.2.2.2.2.2.1, (x.2.2.2.2.2.2.1, (false, (x.2.2.2.2.2.2.2.1, Unit.unit))))))))))
   else none))
theorem b14_2_eq (x : g14_2.D) : b14_2 x = evF P (T24.orc _) Go.Proofs.Try.f14.ntmps fx14 (Code.at [true, true, true, true, true, true, false, true, false, false, true, true, false, false, true, true, false, false, false] c14) (planAt 64 []) g14_2 x (injK fx14 o14_2 some) := by kernel_rfl
theorem s14_2_ok : SubOk P Go.Proofs.Try.f14.ntmps fx14 (Code.at [true, true, true, true, true, true, false, true, false, false, true, true, false, false, true, true, false, false, false] c14) ⟨g14_2, o14_2, b14_2⟩ :=
  sub_ok (g := g14_2) (outs := o14_2) (f := b14_2) (Table.ok T24_ok _) hmix (planAt_ok (P := P) (n := Go.Proofs.Try.f14.ntmps) (fx := fx14) (any := true) (c := (Code.at [true, true, true, true, true, true, false, true, false, false, true, true, false, false, true, true, false, false, false] c14)) (d := 64) (l := []) trivial) b14_2_eq
abbrev g14_1 : Sg := ⟨[1, 9, 10, 29, 30, 31], [.lf (.int .i64), .lf (.gr (.int .u8) 0), .lf (.int .i64), .lf (.sl (.int .u8)), .lf (.int .i64), .lf (.int .i64)], [some (.arr true (.int .u8))]⟩
abbrev o14_1 : Outs := [(.exit 0, ⟨[1, 9], [.lf (.int .i64), .lf (.gr (.int .u8) 0)], [some (.arr true (.int .u8))]⟩), (.ret, ⟨[4, 5], [.lf (.sl (.int .u8)), .lf (.int .i64)], []⟩)]
noncomputable def b14_1 (x : g14_1.D) : Option (outD ((.normal, g14_1) :: o14_1)) :=
  (if ((decide (x.2.2.2.2.1 < x.2.2.2.1)) = true) then (if ((0 : Int) ≤ x.2.2.2.2.1) then (if (x.2.2.2.2.1 < (((List.length x.2.2.1) : Nat) : Int)) then (Option.bind (Go.Ev.Asc.f23 ((List.getD x.2.2.1 (Int.toNat x.2.2.2.2.1) (0 : Int)), Unit.unit)) (fun y1 => (if ((List.length x.2.2.2.2.2.1) = (List.length x.2.2.2.2.2.1)) then (Option.bind (Go.Ev.Asc.b14_2 (x.1, (x.2.1, ((List.getD x.2.2.1 (Int.toNat x.2.2.2.2.1) (0 : Int)), (y1.1, (x.2.2.1, (x.2.2.2.1, (x.2.2.2.2.1, (x.2.2.2.2.2.1, Unit.unit))))))))) (Sum.elim (fun y2 => (if (y2.2.2.2.2.2.2.1 = true) then (some (Sum.inr (Sum.inr (Sum.inl ([], ((4 : Int), Unit.unit))))))
   else (if ((decide (y2.2.2.1 < (0 : Int))) = true) then (if ((List.length y2.2.2.2.2.2.2.2.1) = (List.length y2.2.2.2.2.2.2.2.1)) then (some (Sum.inl (y2.1, (y2.2.1, (y2.2.2.2.1, (y2.2.2.2.2.1, ((Go.IntKind.wrap Go.IntKind.i64 (y2.2.2.2.2.2.1 + (1 : Int))), (y2.2.2.2.2.2.2.2.1, Unit.unit))))))))
   else none)
   else (if (((Go.IntKind.wrap Go.IntKind.i64 (((BitVec.toNat ((BitVec.ofInt (64 : Nat) y2.2.1) &&& (BitVec.ofInt (64 : Nat) (1 : Int)))) : Nat) : Int)) == (0 : Int)) = true) then (if (((List.length (List.take (List.length y2.2.2.2.2.2.2.2.1) (List.drop (0 : Nat) y2.2.2.2.2.2.2.2.1))) + (List.length (List.take (1 : Nat) (List.drop (0 : Nat) (List.set (List.replicate (1 : Nat) (0 : Int)) (0 : Nat) (Go.IntKind.wrap Go.IntKind.u8 (Go.IntKind.wrap Go.IntKind.i64 (y2.2.2.1 * (16 : Int))))))))) ≤ (140737488355328 : Nat)) then (if ((List.length ((List.take (List.length y2.2.2.2.2.2.2.2.1) (List.drop (0 : Nat) y2.2.2.2.2.2.2.2.1)) ++ (List.take (1 : Nat) (List.drop (0 : Nat) (List.set (List.replicate (1 : Nat) (0 : Int)) (0 : Nat) (Go.IntKind.wrap Go.IntKind.u8 (Go.IntKind.wrap Go.IntKind.i64 (y2.2.2.1 * (16 : Int))))))))) = (List.length ((List.take (List.length y2.2.2.2.2.2.2.2.1) (List.drop (0 : Nat) y2.2.2.2.2.2.2.2.1)) ++ (List.take (1 : Nat) (List.drop (0 : Nat) (List.set (List.replicate (1 : Nat) (0 : Int)) (0 : Nat) (Go.IntKind.wrap Go.IntKind.u8 (Go.IntKind.wrap Go.IntKind.i64 (y2.2.2.1 * (16 : Int)))))))))) then (some (Sum.inl (y2.1, ((Go.IntKind.wrap Go.IntKind.i64 (y2.2.1 + (1 : Int))), (y2.2.2.2.1, (y2.2.2.2.2.1, ((Go.IntKind.wrap Go.IntKind.i64 (y2.2.2.2.2.2.1 + (1 : Int))), (((List.take (List.length y2.2.2.2.2.2.2.2.1) (List.drop (0 : Nat) y2.2.2.2.2.2.2.2.1)) ++ (List.take (1 : Nat) (List.drop (0 : Nat) (List.set (List.replicate (1 : Nat) (0 : Int)) (0 : Nat) (Go.IntKind.wrap Go.IntKind.u8 (Go.IntKind.wrap Go.IntKind.i64 (y2.2.2.1 * (16 : Int)))))))), Unit.unit))))))))
   else none)
   else none)
   else (if ((0 : Int) ≤ (Int.fdiv y2.2.1 (2 : Int))) then (if ((Int.fdiv y2.2.1 (2 : Int)) < (((List.length y2.2.2.2.2.2.2.2.1) : Nat) : Int)) then (if ((0 : Int) ≤ (Int.fdiv y2.2.1 (2 : Int))) then (if ((Int.fdiv y2.2.1 (2 : Int)) < (((List.length y2.2.2.2.2.2.2.2.1) : Nat) : Int)) then (if ((List.length y2.2.2.2.2.2.2.2.1) = (List.length (List.set y2.2.2.2.2.2.2.2.1 ((0 : Nat) + (Int.toNat (Int.fdiv y2.2.1 (2 : Int)))) (Go.IntKind.wrap Go.IntKind.u8 (((BitVec.toNat ((BitVec.ofInt (8 : Nat) (List.getD y2.2.2.2.2.2.2.2.1 ((0 : Nat) + (Int.toNat (Int.fdiv y2.2.1 (2 : Int)))) (0 : Int))) ||| (BitVec.ofInt (8 : Nat) (Go.IntKind.wrap Go.IntKind.u8 y2.2.2.1)))) : Nat) : Int))))) then (some (Sum.inl (y2.1, ((Go.IntKind.wrap Go.IntKind.i64 (y2.2.1 + (1 : Int))), (y2.2.2.2.1, (y2.2.2.2.2.1, ((Go.IntKind.wrap Go.IntKind.i64 (y2.2.2.2.2.2.1 + (1 : Int))), ((List.set y2.2.2.2.2.2.2.2.1 ((0 : Nat) + (Int.toNat (Int.fdiv y2.2.1 (2 : Int)))) (Go.IntKind.wrap Go.IntKind.u8 (((BitVec.toNat ((BitVec.ofInt (8 : Nat) (List.getD y2.2.2.2.2.2.2.2.1 ((0 : Nat) + (Int.toNat (Int.fdiv y2.2.1 (2 : Int)))) (0 : Int))) ||| (BitVec.ofInt (8 : Nat) (Go.IntKind.wrap Go.IntKind.u8 y2.2.2.1)))) : Nat) : Int))), Unit.unit))))))))
   else none)
   else none)
   else none)
   else none)
   else none))))) Empty.elim))
   else none)))
   else none)
   else none)
   else (if ((List.length x.2.2.2.2.2.1) = (List.length x.2.2.2.2.2.1)) then (some (Sum.inr (Sum.inl (x.1, (x.2.2.2.2.2.1, Unit.unit)))))
   else none))
theorem b14_1_eq (x : g14_1.D) : b14_1 x = evF P (T24.orc _) Go.Proofs.Try.f14.ntmps fx14 (Code.at [true, true, true, true, true, true, false, true, false, false] c14) (planAt 64 [([true, true, false, false, true, true, false, false, false], ⟨g14_2, o14_2, b14_2⟩)]) g14_1 x (injK fx14 ((.normal, g14_1) :: o14_1) some) := by kernel_rfl
noncomputable def l14_1 : g14_1.D → Option (outD o14_1) := loopN g14_1 o14_1 b14_1 18446744073709551616
theorem p14_1 : AllSub P Go.Proofs.Try.f14.ntmps fx14 true (Code.at [true, true, true, true, true, true, false, true, false, false] c14) [([true, true, false, false, true, true, false, false, false], ⟨g14_2, o14_2, b14_2⟩)] := And.intro s14_2_ok (trivial)
theorem q14_1 : PlanOk P Go.Proofs.Try.f14.ntmps fx14 true (planAt 64 [([true, true, false, false, true, true, false, false, false], ⟨g14_2, o14_2, b14_2⟩)]) (Code.at [true, true, true, true, true, true, false, true, false, false] c14) := planAt_ok p14_1
theorem at14_1 : Code.at [true, true, true, true, true, true, false, true, false] c14 = .loop (Code.at [true, true, true, true, true, true, false, true, false, false] c14) := by kernel_rfl
theorem s14_1_ok : SubOk P Go.Proofs.Try.f14.ntmps fx14 (Code.at [true, true, true, true, true, true, false, true, false] c14) ⟨g14_1, o14_1, l14_1⟩ := by
  rw [at14_1]
  exact loop_ok (sub_ok (g := g14_1) (outs := ((.normal, g14_1) :: o14_1)) (f := b14_1) (Table.ok T24_ok _) hmix (q14_1) b14_1_eq) rfl _
noncomputable def f14 (x : gi14.D) : Option go14.D :=
  (if ((decide (x.2.1 < (0 : Int))) = true) then (some ([], ((1 : Int), Unit.unit)))
   else (if ((decide (x.2.1 > (1048576 : Int))) = true) then (some ([], ((1 : Int), Unit.unit)))
   else (Option.bind (Go.Ev.Asc.f22 (x.1, ((ByteArray.mk #[62]), Unit.unit))) (fun y1 => (if ((Bool.not y1.2.2.1) = true) then (some ([], ((4 : Int), Unit.unit)))
   else (Option.bind (Go.Ev.Asc.l14_1 (x.2.1, ((0 : Int), ((List.take (ByteArray.size y1.1) (List.drop (0 : Nat) (List.map (fun y2 => (((UInt8.toNat y2) : Nat) : Int)) (Array.toList (ByteArray.data y1.1))))), ((((ByteArray.size y1.1) : Nat) : Int), ((0 : Int), ([], Unit.unit))))))) (Sum.elim (fun y2 => (if ((decide ((((List.length y2.2.1) : Nat) : Int) > y2.1)) = true) then (some ([], ((2 : Int), Unit.unit)))
   else (some ((List.take (List.length y2.2.1) (List.drop (0 : Nat) y2.2.1)), ((0 : Int), Unit.unit))))) (Sum.elim (fun y2 => (some (y2.1, (y2.2.1, Unit.unit)))) Empty.elim))))))))
theorem f14_eq (x : gi14.D) : f14 x = evF P (T24.orc _) Go.Proofs.Try.f14.ntmps fx14 c14 (planAt 64 [([true, true, true, true, true, true, false, true, false], ⟨g14_1, o14_1, l14_1⟩)]) gi14 x (fnK fx14 [go14]) := by kernel_rfl
theorem pf14 : AllSub P Go.Proofs.Try.f14.ntmps fx14 true c14 [([true, true, true, true, true, true, false, true, false], ⟨g14_1, o14_1, l14_1⟩)] := And.intro s14_1_ok (trivial)
theorem qf14 : PlanOk P Go.Proofs.Try.f14.ntmps fx14 true (planAt 64 [([true, true, true, true, true, true, false, true, false], ⟨g14_1, o14_1, l14_1⟩)]) c14 := planAt_ok pf14
theorem f14_ok : EntOk P 14 ⟨gi14, [go14], f14⟩ :=
  ent_ok (fn := Go.Proofs.Try.f14) (gi := gi14) (gos := [go14]) (f := f14) (c := c14) (fx := fx14) ⟨Go.Proofs.Try.func14, by kernel_rfl, rfl, by decide +kernel, rfl, rfl⟩ (by kernel_rfl) (Table.ok T24_ok _) hmix (qf14) f14_eq
noncomputable def T14 : Table := T24.add 14 [⟨gi14, [go14], f14⟩] []
theorem T14_ok : TableOk P T14 := Table.plus T24_ok (es := [⟨gi14, [go14], f14⟩]) ⟨f14_ok, trivial⟩ []

/-! ## 28: erasure/ascii.bytes -/
noncomputable def c28 : Code := Func.code Go.Proofs.Try.f28
abbrev gi28 : Sg := ⟨[0], [.lf (.sl (.int .u8))], []⟩
abbrev go28 : Sg := ⟨[2, 3], [.lf (.vw (.int .u8) 0), .lf .bool], [some (.arr true (.int .u8))]⟩
def fx28 : List Bool := []
abbrev g28_1 : Sg := ⟨[0, 4, 8], [.lf (.sl (.int .u8)), .lf (.int .i64), .lf (.int .i64)], []⟩
abbrev o28_1 : Outs := [(.exit 0, ⟨[0, 4], [.lf (.sl (.int .u8)), .lf (.int .i64)], []⟩)]
noncomputable def b28_1 (x : g28_1.D) : Option (outD ((.normal, g28_1) :: o28_1)) :=
  (if ((decide (x.2.2.1 < (5 : Int))) = true) then (if ((decide (x.2.2.1 < (((List.length x.1) : Nat) : Int))) = true) then (if ((0 : Int) ≤ x.2.2.1) then (if (x.2.2.1 < (((List.length x.1) : Nat) : Int)) then (some (Sum.inl (x.1, ((Go.IntKind.wrap Go.IntKind.i64 ((Go.IntKind.wrap Go.IntKind.i64 ((85 : Int) * x.2.1)) + (Go.IntKind.wrap Go.IntKind.i64 (Go.IntKind.wrap Go.IntKind.u8 ((List.getD x.1 (Int.toNat x.2.2.1) (0 : Int)) - (33 : Int)))))), ((Go.IntKind.wrap Go.IntKind.i64 (x.2.2.1 + (1 : Int))), Unit.unit)))))
   else none)
   else none)
   else (some (Sum.inl (x.1, ((Go.IntKind.wrap Go.IntKind.i64 ((Go.IntKind.wrap Go.IntKind.i64 ((85 : Int) * x.2.1)) + (84 : Int))), ((Go.IntKind.wrap Go.IntKind.i64 (x.2.2.1 + (1 : Int))), Unit.unit))))))
   else (some (Sum.inr (Sum.inl (x.1, (x.2.1, Unit.unit))))))
theorem b28_1_eq (x : g28_1.D) : b28_1 x = evF P (T14.orc _) Go.Proofs.Try.f28.ntmps fx28 (Code.at [true, true, false, true, false, false] c28) (planAt 64 []) g28_1 x (injK fx28 ((.normal, g28_1) :: o28_1) some) := by kernel_rfl
noncomputable def l28_1 : g28_1.D → Option (outD o28_1) := loopN g28_1 o28_1 b28_1 18446744073709551616
theorem at28_1 : Code.at [true, true, false, true, false] c28 = .loop (Code.at [true, true, false, true, false, false] c28) := by kernel_rfl
theorem s28_1_ok : SubOk P Go.Proofs.Try.f28.ntmps fx28 (Code.at [true, true, false, true, false] c28) ⟨g28_1, o28_1, l28_1⟩ := by
  rw [at28_1]
  exact loop_ok (sub_ok (g := g28_1) (outs := ((.normal, g28_1) :: o28_1)) (f := b28_1) (Table.ok T14_ok _) hmix (planAt_ok (P := P) (n := Go.Proofs.Try.f28.ntmps) (fx := fx28) (any := true) (c := (Code.at [true, true, false, true, false, false] c28)) (d := 64) (l := []) trivial) b28_1_eq) rfl _
noncomputable def f28 (x : gi28.D) : Option go28.D :=
  (Option.bind (Go.Ev.Asc.l28_1 (x.1, ((0 : Int), ((0 : Int), Unit.unit)))) (Sum.elim (fun y1 => (if ((0 : Int) ≤ (Go.IntKind.wrap Go.IntKind.i64 ((((List.length y1.1) : Nat) : Int) - (1 : Int)))) then (if ((Go.IntKind.wrap Go.IntKind.i64 ((((List.length y1.1) : Nat) : Int) - (1 : Int))) ≤ (4 : Int)) then (some ((0 : Nat), (((Int.toNat (Go.IntKind.wrap Go.IntKind.i64 ((((List.length y1.1) : Nat) : Int) - (1 : Int)))) - (0 : Nat)), ((decide (y1.2.1 ≤ (4294967295 : Int))), ((List.set (List.set (List.set (List.set (List.replicate (4 : Nat) (0 : Int)) (0 : Nat) (Go.IntKind.wrap Go.IntKind.u8 (Int.fdiv y1.2.1 (16777216 : Int)))) (1 : Nat) (Go.IntKind.wrap Go.IntKind.u8 (Int.fdiv y1.2.1 (65536 : Int)))) (2 : Nat) (Go.IntKind.wrap Go.IntKind.u8 (Int.fdiv y1.2.1 (256 : Int)))) (3 : Nat) (Go.IntKind.wrap Go.IntKind.u8 y1.2.1)), Unit.unit)))))
   else none)
   else none)) Empty.elim))
theorem f28_eq (x : gi28.D) : f28 x = evF P (T14.orc _) Go.Proofs.Try.f28.ntmps fx28 c28 (planAt 64 [([true, true, false, true, false], ⟨g28_1, o28_1, l28_1⟩)]) gi28 x (fnK fx28 [go28]) := by kernel_rfl
theorem pf28 : AllSub P Go.Proofs.Try.f28.ntmps fx28 true c28 [([true, true, false, true, false], ⟨g28_1, o28_1, l28_1⟩)] := And.intro s28_1_ok (trivial)
theorem qf28 : PlanOk P Go.Proofs.Try.f28.ntmps fx28 true (planAt 64 [([true, true, false, true, false], ⟨g28_1, o28_1, l28_1⟩)]) c28 := planAt_ok pf28
theorem f28_ok : EntOk P 28 ⟨gi28, [go28], f28⟩ :=
  ent_ok (fn := Go.Proofs.Try.f28) (gi := gi28) (gos := [go28]) (f := f28) (c := c28) (fx := fx28) ⟨Go.Proofs.Try.func28, by kernel_rfl, rfl, by decide +kernel, rfl, rfl⟩ (by kernel_rfl) (Table.ok T14_ok _) hmix (qf28) f28_eq
noncomputable def T28 : Table := T14.add 28 [⟨gi28, [go28], f28⟩] []
theorem T28_ok : TableOk P T28 := Table.plus T14_ok (es := [⟨gi28, [go28], f28⟩]) ⟨f28_ok, trivial⟩ []

/-! ## 27: erasure/ascii.Get$1 -/
noncomputable def c27 : Code := Func.code Go.Proofs.Try.f27
abbrev gi27 : Sg := ⟨[0, 1], [.lf (.ptr 0 0), .lf (.ptr 2 0)], [some (.box true [.lf (.gr (.int .u8) 1)]), some (.arr true (.int .u8)), some (.box true [.lf (.gr (.int .u8) 3)]), some (.arr true (.int .u8))]⟩
abbrev go27 : Sg := ⟨[2], [.lf .bool], [some (.box true [.lf (.gr (.int .u8) 4)]), some (.arr true (.int .u8)), some (.box true [.lf (.gr (.int .u8) 5)]), none, some (.arr true (.int .u8)), some (.arr true (.int .u8))]⟩
def fx27 : List Bool := [true, true, true, false]
noncomputable def f27 (x : gi27.D) : Option go27.D :=
  (Option.bind (Go.Ev.Asc.f28 ((List.take (List.length x.1) (List.drop (0 : Nat) x.1)), Unit.unit)) (fun y1 => (if (((List.length (List.take (List.length x.2.1) (List.drop (0 : Nat) x.2.1))) + (List.length (List.take y1.2.1 (List.drop y1.1 y1.2.2.2.1)))) ≤ (140737488355328 : Nat)) then (if ((List.length ((List.take (List.length x.2.1) (List.drop (0 : Nat) x.2.1)) ++ (List.take y1.2.1 (List.drop y1.1 y1.2.2.2.1)))) = (List.length ((List.take (List.length x.2.1) (List.drop (0 : Nat) x.2.1)) ++ (List.take y1.2.1 (List.drop y1.1 y1.2.2.2.1))))) then (some (y1.2.2.1, (x.1, ([], (((List.take (List.length x.2.1) (List.drop (0 : Nat) x.2.1)) ++ (List.take y1.2.1 (List.drop y1.1 y1.2.2.2.1))), Unit.unit)))))
   else none)
   else none)))
theorem f27_eq (x : gi27.D) : f27 x = evF P (T28.orc _) Go.Proofs.Try.f27.ntmps fx27 c27 (planAt 64 []) gi27 x (fnK fx27 [go27]) := by kernel_rfl
theorem f27_ok : EntOk P 27 ⟨gi27, [go27], f27⟩ :=
  ent_ok (fn := Go.Proofs.Try.f27) (gi := gi27) (gos := [go27]) (f := f27) (c := c27) (fx := fx27) ⟨Go.Proofs.Try.func27, by kernel_rfl, rfl, by decide +kernel, rfl, rfl⟩ (by kernel_rfl) (Table.ok T28_ok _) hmix (planAt_ok (P := P) (n := Go.Proofs.Try.f27.ntmps) (fx := fx27) (any := true) (c := c27) (d := 64) (l := []) trivial) f27_eq
noncomputable def T27 : Table := T28.add 27 [⟨gi27, [go27], f27⟩] []
theorem T27_ok : TableOk P T27 := Table.plus T28_ok (es := [⟨gi27, [go27], f27⟩]) ⟨f27_ok, trivial⟩ []

/-! ## 16: erasure/ascii.Get -/
noncomputable def c16 : Code := Func.code Go.Proofs.Try.f16
abbrev gi16 : Sg := ⟨[0, 1], [.lf .str, .lf (.int .i64)], []⟩
abbrev go16 : Sg := ⟨[4, 5], [.lf (.sl (.int .u8)), .lf (.int .i64)], []⟩
def fx16 : List Bool := []
abbrev g16_3 : Sg := ⟨[1, 9, 10, 11, 13, 30, 31, 32], [.lf (.int .i64), .lf (.ptr 0 0), .lf (.ptr 1 0), .lf (.fnc 27 [(.ptr 1 0), (.ptr 0 0)]), .lf (.int .u8), .lf (.sl (.int .u8)), .lf (.int .i64), .lf (.int .i64)], [some (.box true [.lf (.gr (.int .u8) 2)]), some (.box true [.lf (.gr (.int .u8) 3)]), some (.arr true (.int .u8)), some (.arr true (.int .u8))]⟩
abbrev o16_3 : Outs := [(.normal, ⟨[1, 9, 10, 11, 13, 30, 31, 32, 39], [.lf (.int .i64), .lf (.ptr 0 0), .lf (.ptr 1 0), .lf (.fnc 27 [(.ptr 1 0), (.ptr 0 0)]), .lf (.int .u8), .lf (.sl (.int .u8)), .lf (.int .i64), .lf (.int .i64), .lf .bool], [some (.box true [.lf (.gr (.int .u8) 2)]), some (.box true [.lf (.gr (.int .u8) 3)]), some (.arr true (.int .u8)), some (.arr true (.int .u8))]⟩)]
noncomputable def b16_3 (x : g16_3.D) : Option (outD o16_3) :=
  (if ((x.2.1 == (122 : Int)) = true) then (if ((List.length x.2.2.2.2.2.1) = (List.length x.2.2.2.2.2.1)) then (if ((List.length x.2.2.2.2.2.2.1) = (List.length x.2.2.2.2.2.2.1)) then (some (Sum.inl (x.1, (x.2.1, (x.2.2.1, (x.2.2.2.1, (x.2.2.2.2.1, (((((List.length x.2.2.2.2.2.2.1) : Nat) : Int) == (0 : Int)), (x.2.2.2.2.2.1, (x.2.2.2.2.2.2.1, Unit.unit))))))))))
   else none)
   else none)
   else (if ((List.length x.2.2.2.2.2.1) = (List.length x.2.2.2.2.2.1)) then (if ((List.length x.2.2.2.2.2.2.1) = (List.length x.2.2.2.2.2.2.1)) then (some (Sum.inl (x.1, (x.2.1, (x.2.2.1, (x.2.2.2.1, (x.2.2.2.2.1, (false, (x.2.2.2.2.2.1, (x.2.2.2.2.2.2.1, Unit.unit))))))))))
   else none)
   else none))
theorem b16_3_eq (x : g16_3.D) : b16_3 x = evF P (T27.orc _) Go.Proofs.Try.f16.ntmps fx16 (Code.at [true, true, true, true, true, true, false, true, false, false, true, true, false, false, true, false, false, true, true, false] c16) (planAt 64 []) g16_3 x (injK fx16 o16_3 some) := by kernel_rfl
theorem s16_3_ok : SubOk P Go.Proofs.Try.f16.ntmps fx16 (Code.at [true, true, true, true, true, true, false, true, false, false, true, true, false, false, true, false, false, true, true, false] c16) ⟨g16_3, o16_3, b16_3⟩ :=
  sub_ok (g := g16_3) (outs := o16_3) (f := b16_3) (Table.ok T27_ok _) hmix (planAt_ok (P := P) (n := Go.Proofs.Try.f16.ntmps) (fx := fx16) (any := true) (c := (Code.at [true, true, true, true, true, true, false, true, false, false, true, true, false, false, true, false, false, true, true, false] c16)) (d := 64) (l := []) trivial) b16_3_eq
abbrev g16_1 : Sg := ⟨[1, 9, 10, 11, 30, 31, 32], [.lf (.int .i64), .lf (.ptr 0 0), .lf (.ptr 1 0), .lf (.fnc 27 [(.ptr 1 0), (.ptr 0 0)]), .lf (.sl (.int .u8)), .lf (.int .i64), .lf (.int .i64)], [some (.box true [.lf (.gr (.int .u8) 2)]), some (.box true [.lf (.gr (.int .u8) 3)]), some (.arr true (.int .u8)), some (.arr true (.int .u8))]⟩
abbrev o16_1 : Outs := [(.exit 0, ⟨[1, 9, 10, 11], [.lf (.int .i64), .lf (.ptr 0 0), .lf (.ptr 1 0), .lf (.fnc 27 [(.ptr 1 0), (.ptr 0 0)])], [some (.box true [.lf (.gr (.int .u8) 2)]), some (.box true [.lf (.gr (.int .u8) 3)]), some (.arr true (.int .u8)), some (.arr true (.int .u8))]⟩), (.ret, ⟨[4, 5], [.lf (.sl (.int .u8)), .lf (.int .i64)], []⟩)]
noncomputable def b16_1 (x : g16_1.D) : Option (outD ((.normal, g16_1) :: o16_1)) :=
  (if ((decide (x.2.2.2.1 < x.2.2.1)) = true) then (if ((0 : Int) ≤ x.2.2.2.1) then (if (x.2.2.2.1 < (((List.length x.2.1) : Nat) : Int)) then (Option.bind (Go.Ev.Asc.f24 ((List.getD x.2.1 (Int.toNat x.2.2.2.1) (0 : Int)), Unit.unit)) (fun y1 => (if (y1.1 = true) then (if ((List.length x.2.2.2.2.1) = (List.length x.2.2.2.2.1)) then (if ((List.length x.2.2.2.2.2.1) = (List.length x.2.2.2.2.2.1)) then (some (Sum.inl (x.1, (x.2.1, (x.2.2.1, ((Go.IntKind.wrap Go.IntKind.i64 (x.2.2.2.1 + (1 : Int))), (x.2.2.2.2.1, (x.2.2.2.2.2.1, Unit.unit))))))))
   else none)
   else none)
   else (if ((List.length x.2.2.2.2.1) = (List.length x.2.2.2.2.1)) then (if ((List.length x.2.2.2.2.2.1) = (List.length x.2.2.2.2.2.1)) then (Option.bind (Go.Ev.Asc.b16_3 (x.1, ((List.getD x.2.1 (Int.toNat x.2.2.2.1) (0 : Int)), (x.2.1, (x.2.2.1, (x.2.2.2.1, (x.2.2.2.2.1, (x.2.2.2.2.2.1, Unit.unit)))))))) (Sum.elim (fun y2 => (if (y2.2.2.2.2.2.1 = true) then (if (((List.length (List.take (List.length y2.2.2.2.2.2.2.1) (List.drop (0 : Nat) y2.2.2.2.2.2.2.1))) + (4 : Nat)) ≤ (140737488355328 : Nat)) then (if ((List.length ((List.take (List.length y2.2.2.2.2.2.2.1) (List.drop (0 : Nat) y2.2.2.2.2.2.2.1)) ++ (List.take (4 : Nat) (List.drop (0 : Nat) (List.set (List.set (List.set (List.set (List.replicate (4 : Nat) (0 : Int)) (0 : Nat) (0 : Int)) (1 : Nat) (0 : Int)) (2 : Nat) (0 : Int)) (3 : Nat) (0 : Int)))))) = (List.length ((List.take (List.length y2.2.2.2.2.2.2.1) (List.drop (0 : Nat) y2.2.2.2.2.2.2.1)) ++ (List.take (4 : Nat) (List.drop (0 : Nat) (List.set (List.set (List.set (List.set (List.replicate (4 : Nat) (0 : Int)) (0 : Nat) (0 : Int)) (1 : Nat) (0 : Int)) (2 : Nat) (0 : Int)) (3 : Nat) (0 : Int))))))) then (if ((List.length y2.2.2.2.2.2.2.2.1) = (List.length y2.2.2.2.2.2.2.2.1)) then (some (Sum.inl (y2.1, (y2.2.2.1, (y2.2.2.2.1, ((Go.IntKind.wrap Go.IntKind.i64 (y2.2.2.2.2.1 + (1 : Int))), (((List.take (List.length y2.2.2.2.2.2.2.1) (List.drop (0 : Nat) y2.2.2.2.2.2.2.1)) ++ (List.take (4 : Nat) (List.drop (0 : Nat) (List.set (List.set (List.set (List.set (List.replicate (4 : Nat) (0 : Int)) (0 : Nat) (0 : Int)) (1 : Nat) (0 : Int)) (2 : Nat) (0 : Int)) (3 : Nat) (0 : Int))))), (y2.2.2.2.2.2.2.2.1, Unit.unit))))))))
   else none)
   else none)
   else none)
   else (if ((decide (y2.2.1 < (33 : Int))) = true) then (some (Sum.inr (Sum.inr (Sum.inl ([], ((4 : Int), Unit.unit))))))
   else (if ((decide (y2.2.1 > (117 : Int))) = true) then (some (Sum.inr (Sum.inr (Sum.inl ([], ((4 : Int), Unit.unit))))))
   else (if (((List.length (List.take (List.length y2.2.2.2.2.2.2.2.1) (List.drop (0 : Nat) y2.2.2.2.2.2.2.2.1))) + (List.length (List.take (1 : Nat) (List.drop (0 : Nat) (List.set (List.replicate (1 : Nat) (0 : Int)) (0 : Nat) y2.2.1))))) ≤ (140737488355328 : Nat)) then (if (((((List.length ((List.take (List.length y2.2.2.2.2.2.2.2.1) (List.drop (0 : Nat) y2.2.2.2.2.2.2.2.1)) ++ (List.take (1 : Nat) (List.drop (0 : Nat) (List.set (List.replicate (1 : Nat) (0 : Int)) (0 : Nat) y2.2.1))))) : Nat) : Int) == (5 : Int)) = true) then (if ((List.length ((List.take (List.length y2.2.2.2.2.2.2.2.1) (List.drop (0 : Nat) y2.2.2.2.2.2.2.2.1)) ++ (List.take (1 : Nat) (List.drop (0 : Nat) (List.set (List.replicate (1 : Nat) (0 : Int)) (0 : Nat) y2.2.1))))) = (List.length ((List.take (List.length y2.2.2.2.2.2.2.2.1) (List.drop (0 : Nat) y2.2.2.2.2.2.2.2.1)) ++ (List.take (1 : Nat) (List.drop (0 : Nat) (List.set (List.replicate (1 : Nat) (0 : Int)) (0 : Nat) y2.2.1)))))) then (if ((List.length y2.2.2.2.2.2.2.1) = (List.length y2.2.2.2.2.2.2.1)) then (Option.bind (Go.Ev.Asc.f27 (((List.take (List.length y2.2.2.2.2.2.2.2.1) (List.drop (0 : Nat) y2.2.2.2.2.2.2.2.1)) ++ (List.take (1 : Nat) (List.drop (0 : Nat) (List.set (List.replicate (1 : Nat) (0 : Int)) (0 : Nat) y2.2.1)))), (y2.2.2.2.2.2.2.1, Unit.unit))) (fun y3 => (if ((Bool.not y3.1) = true) then (some (Sum.inr (Sum.inr (Sum.inl ([], ((4 : Int), Unit.unit))))))
   else (if ((List.length y3.2.2.2.1) = (List.length y3.2.2.2.1)) then (if ((List.length y3.2.2.1) = (List.length y3.2.2.1)) then (some (Sum.inl (y2.1, (y2.2.2.1, (y2.2.2.2.1, ((Go.IntKind.wrap Go.IntKind.i64 (y2.2.2.2.2.1 + (1 : Int))), (y3.2.2.2.1, (y3.2.2.1, Unit.unit))))))))
   else none)
   else none))))
   else none)
   else none)
   else (if ((List.length y2.2.2.2.2.2.2.1) = (List.length y2.2.2.2.2.2.2.1)) then (if ((List.length ((List.take (List.length y2.2.2.2.2.2.2.2.1) (List.drop (0 : Nat) y2.2.2.2.2.2.2.2.1)) ++ (List.take (1 : Nat) (List.drop (0 : Nat) (List.set (List.replicate (1 : Nat) (0 : Int)) (0 : Nat) y2.2.1))))) = (List.length ((List.take (List.length y2.2.2.2.2.2.2.2.1) (List.drop (0 : Nat) y2.2.2.2.2.2.2.2.1)) ++ (List.take (1 : Nat) (List.drop (0 : Nat) (List.set (List.replicate (1 : Nat) (0 : Int)) (0 : Nat) y2.2.1)))))) then (some (Sum.inl (y2.1, (y2.2.2.1, (y2.2.2.2.1, ((Go.IntKind.wrap Go.IntKind.i64 (y2.2.2.2.2.1 + (1 : Int))), (y2.2.2.2.2.2.2.1, (((List.take (List.length y2.2.2.2.2.2.2.2.1) (List.drop (0 : Nat) y2.2.2.2.2.2.2.2.1)) ++ (List.take (1 : Nat) (List.drop (0 : Nat) (List.set (List.replicate (1 : Nat) (0 : Int)) (0 : Nat) y2.2.1)))), Unit.unit))))))))
   else none)
   else none))
   else none))))) Empty.elim))
   else none)
   else none))))
   else none)
   else none)
   else (if ((List.length x.2.2.2.2.1) = (List.length x.2.2.2.2.1)) then (if ((List.length x.2.2.2.2.2.1) = (List.length x.2.2.2.2.2.1)) then (some (Sum.inr (Sum.inl (x.1, (x.2.2.2.2.1, (x.2.2.2.2.2.1, Unit.unit))))))
   else none)
   else none))
theorem b16_1_eq (x : g16_1.D) : b16_1 x = evF P (T27.orc _) Go.Proofs.Try.f16.ntmps fx16 (Code.at [true, true, true, true, true, true, false, true, false, false] c16) (planAt 64 [([true, true, false, false, true, false, false, true, true, false], ⟨g16_3, o16_3, b16_3⟩)]) g16_1 x (injK fx16 ((.normal, g16_1) :: o16_1) some) := by kernel_rfl
noncomputable def l16_1 : g16_1.D → Option (outD o16_1) := loopN g16_1 o16_1 b16_1 18446744073709551616
theorem p16_1 : AllSub P Go.Proofs.Try.f16.ntmps fx16 true (Code.at [true, true, true, true, true, true, false, true, false, false] c16) [([true, true, false, false, true, false, false, true, true, false], ⟨g16_3, o16_3, b16_3⟩)] := And.intro s16_3_ok (trivial)
theorem q16_1 : PlanOk P Go.Proofs.Try.f16.ntmps fx16 true (planAt 64 [([true, true, false, false, true, false, false, true, true, false], ⟨g16_3, o16_3, b16_3⟩)]) (Code.at [true, true, true, true, true, true, false, true, false, false] c16) := planAt_ok p16_1
theorem at16_1 : Code.at [true, true, true, true, true, true, false, true, false] c16 = .loop (Code.at [true, true, true, true, true, true, false, true, false, false] c16) := by kernel_rfl
theorem s16_1_ok : SubOk P Go.Proofs.Try.f16.ntmps fx16 (Code.at [true, true, true, true, true, true, false, true, false] c16) ⟨g16_1, o16_1, l16_1⟩ := by
  rw [at16_1]
  exact loop_ok (sub_ok (g := g16_1) (outs := ((.normal, g16_1) :: o16_1)) (f := b16_1) (Table.ok T27_ok _) hmix (q16_1) b16_1_eq) rfl _
abbrev g16_2 : Sg := ⟨[1, 9, 10, 11], [.lf (.int .i64), .lf (.ptr 0 0), .lf (.ptr 1 0), .lf (.fnc 27 [(.ptr 1 0), (.ptr 0 0)])], [some (.box true [.lf (.gr (.int .u8) 2)]), some (.box true [.lf (.gr (.int .u8) 3)]), some (.arr true (.int .u8)), some (.arr true (.int .u8))]⟩
abbrev o16_2 : Outs := [(.normal, ⟨[1, 9, 82], [.lf (.int .i64), .lf (.ptr 0 0), .lf .bool], [some (.box true [.lf (.gr (.int .u8) 1)]), some (.arr true (.int .u8))]⟩)]
noncomputable def b16_2 (x : g16_2.D) : Option (outD o16_2) :=
  (if (((((List.length x.2.2.1) : Nat) : Int) == (1 : Int)) = true) then (if ((List.length x.2.1) = (List.length x.2.1)) then (some (Sum.inl (x.1, (true, (x.2.1, Unit.unit)))))
   else none)
   else (if ((decide ((((List.length x.2.2.1) : Nat) : Int) > (1 : Int))) = true) then (if ((List.length x.2.2.1) = (List.length x.2.2.1)) then (if ((List.length x.2.1) = (List.length x.2.1)) then (Option.bind (Go.Ev.Asc.f27 (x.2.2.1, (x.2.1, Unit.unit))) (fun y1 => (if ((List.length y1.2.2.2.1) = (List.length y1.2.2.2.1)) then (some (Sum.inl (x.1, ((Bool.not y1.1), (y1.2.2.2.1, Unit.unit)))))
   else none)))
   else none)
   else none)
   else (if ((List.length x.2.1) = (List.length x.2.1)) then (some (Sum.inl (x.1, (false, (x.2.1, Unit.unit)))))
   else none)))
theorem b16_2_eq (x : g16_2.D) : b16_2 x = evF P (T27.orc _) Go.Proofs.Try.f16.ntmps fx16 (Code.at [true, true, true, true, true, true, true, false, false] c16) (planAt 64 []) g16_2 x (injK fx16 o16_2 some) := by kernel_rfl
theorem s16_2_ok : SubOk P Go.Proofs.Try.f16.ntmps fx16 (Code.at [true, true, true, true, true, true, true, false, false] c16) ⟨g16_2, o16_2, b16_2⟩ :=
  sub_ok (g := g16_2) (outs := o16_2) (f := b16_2) (Table.ok T27_ok _) hmix (planAt_ok (P := P) (n := Go.Proofs.Try.f16.ntmps) (fx := fx16) (any := true) (c := (Code.at [true, true, true, true, true, true, true, false, false] c16)) (d := 64) (l := []) trivial) b16_2_eq
noncomputable def f16 (x : gi16.D) : Option go16.D :=
  (if ((decide (x.2.1 < (0 : Int))) = true) then (some ([], ((1 : Int), Unit.unit)))
   else (if ((decide (x.2.1 > (1048576 : Int))) = true) then (some ([], ((1 : Int), Unit.unit)))
   else (Option.bind (Go.Ev.Asc.f22 (x.1, ((ByteArray.mk #[126, 62]), Unit.unit))) (fun y1 => (if ((Bool.not y1.2.2.1) = true) then (some ([], ((4 : Int), Unit.unit)))
   else (Option.bind (Go.Ev.Asc.l16_1 (x.2.1, ((List.take (ByteArray.size y1.1) (List.drop (0 : Nat) (List.map (fun y2 => (((UInt8.toNat y2) : Nat) : Int)) (Array.toList (ByteArray.data y1.1))))), ((((ByteArray.size y1.1) : Nat) : Int), ((0 : Int), ([], ([], Unit.unit))))))) (Sum.elim (fun y2 => (if ((List.length y2.2.1) = (List.length y2.2.1)) then (if ((List.length y2.2.2.1) = (List.length y2.2.2.1)) then (Option.bind (Go.Ev.Asc.b16_2 (y2.1, (y2.2.1, (y2.2.2.1, Unit.unit)))) (Sum.elim (fun y3 => (if (y3.2.1 = true) then (some ([], ((4 : Int), Unit.unit)))
   else (if ((decide ((((List.length y3.2.2.1) : Nat) : Int) > y3.1)) = true) then (some ([], ((2 : Int), Unit.unit)))
   else (some ((List.take (List.length y3.2.2.1) (List.drop (0 : Nat) y3.2.2.1)), ((0 : Int), Unit.unit)))))) Empty.elim))
   else none)
   else none)) (Sum.elim (fun y2 => (some (y2.1, (y2.2.1, Unit.unit)))) Empty.elim))))))))
theorem f16_eq (x : gi16.D) : f16 x = evF P (T27.orc _) Go.Proofs.Try.f16.ntmps fx16 c16 (planAt 64 [([true, true, true, true, true, true, false, true, false], ⟨g16_1, o16_1, l16_1⟩), ([true, true, true, true, true, true, true, false, false], ⟨g16_2, o16_2, b16_2⟩)]) gi16 x (fnK fx16 [go16]) := by kernel_rfl
theorem pf16 : AllSub P Go.Proofs.Try.f16.ntmps fx16 true c16 [([true, true, true, true, true, true, false, true, false], ⟨g16_1, o16_1, l16_1⟩), ([true, true, true, true, true, true, true, false, false], ⟨g16_2, o16_2, b16_2⟩)] := And.intro s16_1_ok (And.intro s16_2_ok (trivial))
theorem qf16 : PlanOk P Go.Proofs.Try.f16.ntmps fx16 true (planAt 64 [([true, true, true, true, true, true, false, true, false], ⟨g16_1, o16_1, l16_1⟩), ([true, true, true, true, true, true, true, false, false], ⟨g16_2, o16_2, b16_2⟩)]) c16 := planAt_ok pf16
theorem f16_ok : EntOk P 16 ⟨gi16, [go16], f16⟩ :=
  ent_ok (fn := Go.Proofs.Try.f16) (gi := gi16) (gos := [go16]) (f := f16) (c := c16) (fx := fx16) ⟨Go.Proofs.Try.func16, by kernel_rfl, rfl, by decide +kernel, rfl, rfl⟩ (by kernel_rfl) (Table.ok T27_ok _) hmix (qf16) f16_eq
noncomputable def T16 : Table := T27.add 16 [⟨gi16, [go16], f16⟩] []
theorem T16_ok : TableOk P T16 := Table.plus T27_ok (es := [⟨gi16, [go16], f16⟩]) ⟨f16_ok, trivial⟩ []

/-! ## 10: erasure/ascii.Hex -/
noncomputable def T10 : Table := T16.add 10 [⟨gi10, [go10], f10⟩] []
theorem T10_ok : TableOk P T10 := Table.plus T16_ok (es := [⟨gi10, [go10], f10⟩]) ⟨f10_ok, trivial⟩ []

/-! ## 12: erasure/ascii.Put -/
noncomputable def T12 : Table := T10.add 12 [⟨gi12, [go12], f12⟩] []
theorem T12_ok : TableOk P T12 := Table.plus T10_ok (es := [⟨gi12, [go12], f12⟩]) ⟨f12_ok, trivial⟩ []

/-! ## 9: erasure/erasurelaw10.awake -/
noncomputable def c9 : Code := Func.code Go.Proofs.Try.f9
abbrev gi9 : Sg := ⟨[], [], []⟩
abbrev go9 : Sg := ⟨[0], [.lf .bool], []⟩
def fx9 : List Bool := []
noncomputable def f9 (_ : gi9.D) : Option go9.D :=
  (Option.bind (Go.Ev.Asc.f14 ((ByteArray.mk #[52, 32, 49, 70, 62]), ((9 : Int), Unit.unit))) (fun y1 => (Option.bind (Go.Ev.Asc.f16 ((ByteArray.mk #[122, 64, 47, 126, 62]), ((9 : Int), Unit.unit))) (fun y2 => (Option.bind (Go.Ev.Asc.f10 ((List.take (2 : Nat) (List.drop (0 : Nat) (List.set (List.set (List.replicate (2 : Nat) (0 : Int)) (0 : Nat) (171 : Int)) (1 : Nat) (12 : Int)))), Unit.unit)) (fun y3 => (if (((ByteArray.toList y3.1) == (ByteArray.toList (ByteArray.mk #[65, 66, 48, 67, 62]))) = true) then (if (((ByteArray.toList (ByteArray.mk (List.toArray (List.map (fun y4 => (UInt8.ofNat (Int.toNat y4))) y1.1)))) == (ByteArray.toList (ByteArray.mk #[65, 240]))) = true) then (if ((y1.2.1 == (0 : Int)) = true) then (Option.bind (Go.Ev.Asc.f12 ((List.take (5 : Nat) (List.drop (0 : Nat) (List.set (List.set (List.set (List.set (List.set (List.replicate (5 : Nat) (0 : Int)) (0 : Nat) (0 : Int)) (1 : Nat) (0 : Int)) (2 : Nat) (0 : Int)) (3 : Nat) (0 : Int)) (4 : Nat) (97 : Int)))), Unit.unit)) (fun y4 => (if (((ByteArray.toList y4.1) == (ByteArray.toList (ByteArray.mk #[122, 64, 47, 126, 62]))) = true) then (if (((ByteArray.toList (ByteArray.mk (List.toArray (List.map (fun y5 => (UInt8.ofNat (Int.toNat y5))) y2.1)))) == (ByteArray.toList (ByteArray.mk #[0, 0, 0, 0, 97]))) = true) then (some ((y2.2.1 == y1.2.1), Unit.unit))
   else (some (false, Unit.unit)))
   else (some (false, Unit.unit)))))
   else (some (false, Unit.unit)))
   else (some (false, Unit.unit)))
   else (some (false, Unit.unit)))))))))
theorem f9_eq (x : gi9.D) : f9 x = evF P (T12.orc _) Go.Proofs.Try.f9.ntmps fx9 c9 (planAt 64 []) gi9 x (fnK fx9 [go9]) := by kernel_rfl
theorem f9_ok : EntOk P 9 ⟨gi9, [go9], f9⟩ :=
  ent_ok (fn := Go.Proofs.Try.f9) (gi := gi9) (gos := [go9]) (f := f9) (c := c9) (fx := fx9) ⟨Go.Proofs.Try.func9, by kernel_rfl, rfl, by decide +kernel, rfl, rfl⟩ (by kernel_rfl) (Table.ok T12_ok _) hmix (planAt_ok (P := P) (n := Go.Proofs.Try.f9.ntmps) (fx := fx9) (any := true) (c := c9) (d := 64) (l := []) trivial) f9_eq
noncomputable def T9 : Table := T12.add 9 [⟨gi9, [go9], f9⟩] []
theorem T9_ok : TableOk P T9 := Table.plus T12_ok (es := [⟨gi9, [go9], f9⟩]) ⟨f9_ok, trivial⟩ []

/-! ## 11: erasure/erasureref10.Hex -/
noncomputable def c11 : Code := Func.code Go.Proofs.Try.f11
abbrev gi11 : Sg := ⟨[0], [.lf (.sl (.int .u8))], []⟩
abbrev go11 : Sg := ⟨[2], [.lf .str], []⟩
def fx11 : List Bool := []
abbrev g11_1 : Sg := ⟨[0, 3, 4, 5], [.lf (.sl (.int .u8)), .lf .str, .lf .str, .lf (.int .i64)], []⟩
abbrev o11_1 : Outs := [(.exit 0, ⟨[4], [.lf .str], []⟩)]
noncomputable def b11_1 (x : g11_1.D) : Option (outD ((.normal, g11_1) :: o11_1)) :=
  (if ((decide (x.2.2.2.1 < (((List.length x.1) : Nat) : Int))) = true) then (if ((0 : Int) ≤ x.2.2.2.1) then (if (x.2.2.2.1 < (((List.length x.1) : Nat) : Int)) then (if ((0 : Int) ≤ x.2.2.2.1) then (if (x.2.2.2.1 < (((List.length x.1) : Nat) : Int)) then (if ((0 : Int) ≤ (Go.IntKind.wrap Go.IntKind.u8 ((Go.IntKind.wrap Go.IntKind.u8 (Int.tdiv (List.getD x.1 (Int.toNat x.2.2.2.1) (0 : Int)) (16 : Int))) + (1 : Int)))) then (if ((Go.IntKind.wrap Go.IntKind.u8 ((Go.IntKind.wrap Go.IntKind.u8 (Int.tdiv (List.getD x.1 (Int.toNat x.2.2.2.1) (0 : Int)) (16 : Int))) + (1 : Int))) ≤ (((ByteArray.size x.2.1) : Nat) : Int)) then (if ((0 : Int) ≤ (Go.IntKind.wrap Go.IntKind.u8 (Int.tdiv (List.getD x.1 (Int.toNat x.2.2.2.1) (0 : Int)) (16 : Int)))) then (if ((Go.IntKind.wrap Go.IntKind.u8 (Int.tdiv (List.getD x.1 (Int.toNat x.2.2.2.1) (0 : Int)) (16 : Int))) ≤ (((Int.toNat (Go.IntKind.wrap Go.IntKind.u8 ((Go.IntKind.wrap Go.IntKind.u8 (Int.tdiv (List.getD x.1 (Int.toNat x.2.2.2.1) (0 : Int)) (16 : Int))) + (1 : Int)))) : Nat) : Int)) then (if (((ByteArray.size x.2.2.1) + (ByteArray.size (ByteArray.extract x.2.1 (Int.toNat (Go.IntKind.wrap Go.IntKind.u8 (Int.tdiv (List.getD x.1 (Int.toNat x.2.2.2.1) (0 : Int)) (16 : Int)))) (Int.toNat (Go.IntKind.wrap Go.IntKind.u8 ((Go.IntKind.wrap Go.IntKind.u8 (Int.tdiv (List.getD x.1 (Int.toNat x.2.2.2.1) (0 : Int)) (16 : Int))) + (1 : Int))))))) ≤ (9223372036854775807 : Nat)) then (if ((0 : Int) ≤ x.2.2.2.1) then (if (x.2.2.2.1 < (((List.length x.1) : Nat) : Int)) then (if ((0 : Int) ≤ x.2.2.2.1) then (if (x.2.2.2.1 < (((List.length x.1) : Nat) : Int)) then (if ((0 : Int) ≤ (Go.IntKind.wrap Go.IntKind.u8 ((Int.tmod (List.getD x.1 (Int.toNat x.2.2.2.1) (0 : Int)) (16 : Int)) + (1 : Int)))) then (if ((Go.IntKind.wrap Go.IntKind.u8 ((Int.tmod (List.getD x.1 (Int.toNat x.2.2.2.1) (0 : Int)) (16 : Int)) + (1 : Int))) ≤ (((ByteArray.size x.2.1) : Nat) : Int)) then (if ((0 : Int) ≤ (Int.tmod (List.getD x.1 (Int.toNat x.2.2.2.1) (0 : Int)) (16 : Int))) then (if ((Int.tmod (List.getD x.1 (Int.toNat x.2.2.2.1) (0 : Int)) (16 : Int)) ≤ (((Int.toNat (Go.IntKind.wrap Go.IntKind.u8 ((Int.tmod (List.getD x.1 (Int.toNat x.2.2.2.1) (0 : Int)) (16 : Int)) + (1 : Int)))) : Nat) : Int)) then (if (((ByteArray.size (x.2.2.1 ++ (ByteArray.extract x.2.1 (Int.toNat (Go.IntKind.wrap Go.IntKind.u8 (Int.tdiv (List.getD x.1 (Int.toNat x.2.2.2.1) (0 : Int)) (16 : Int)))) (Int.toNat (Go.IntKind.wrap Go.IntKind.u8 ((Go.IntKind.wrap Go.IntKind.u8 (Int.tdiv (List.getD x.1 (Int.toNat x.2.2.2.1) (0 : Int)) (16 : Int))) + (1 : Int))))))) + (ByteArray.size (ByteArray.extract x.2.1 (Int.toNat (Int.tmod (List.getD x.1 (Int.toNat x.2.2.2.1) (0 : Int)) (16 : Int))) (Int.toNat (Go.IntKind.wrap Go.IntKind.u8 ((Int.tmod (List.getD x.1 (Int.toNat x.2.2.2.1) (0 : Int)) (16 : Int)) + (1 : Int))))))) ≤ (9223372036854775807 : Nat)) then (some (Sum.inl (x.1, (x.2.1, (((x.2.2.1 ++ (ByteArray.extract x.2.1 (Int.toNat (Go.IntKind.wrap Go.IntKind.u8 (Int.tdiv (List.getD x.1 (Int.toNat x.2.2.2.1) (0 : Int)) (16 : Int)))) (Int.toNat (Go.IntKind.wrap Go.IntKind.u8 ((Go.IntKind.wrap Go.IntKind.u8 (Int.tdiv (List.getD x.1 (Int.toNat x.2.2.2.1) (0 : Int)) (16 : Int))) + (1 : Int)))))) ++ (ByteArray.extract x.2.1 (Int.toNat (Int.tmod (List.getD x.1 (Int.toNat x.2.2.2.1) (0 : Int)) (16 : Int))) (Int.toNat (Go.IntKind.wrap Go.IntKind.u8 ((Int.tmod (List.getD x.1 (Int.toNat x.2.2.2.1) (0 : Int)) (16 : Int)) + (1 : Int)))))), ((Go.IntKind.wrap Go.IntKind.i64 (x.2.2.2.1 + (1 : Int))), Unit.unit))))))
   else none)
   else none)
   else none)
   else none)
   else none)
   else none)
   else none)
   else none)
   else none)
   else none)
   else none)
   else none)
   else none)
   else none)
   else none)
   else none)
   else none)
   else none)
   else (some (Sum.inr (Sum.inl (x.2.2.1, Unit.unit)))))
theorem b11_1_eq (x : g11_1.D) : b11_1 x = evF P (T9.orc _) Go.Proofs.Try.f11.ntmps fx11 (Code.at [true, true, true, false, true, false, false] c11) (planAt 64 []) g11_1 x (injK fx11 ((.normal, g11_1) :: o11_1) some) := by kernel_rfl
noncomputable def l11_1 : g11_1.D → Option (outD o11_1) := loopN g11_1 o11_1 b11_1 18446744073709551616
theorem at11_1 : Code.at [true, true, true, false, true, false] c11 = .loop (Code.at [true, true, true, false, true, false, false] c11) := by kernel_rfl
theorem s11_1_ok : SubOk P Go.Proofs.Try.f11.ntmps fx11 (Code.at [true, true, true, false, true, false] c11) ⟨g11_1, o11_1, l11_1⟩ := by
  rw [at11_1]
  exact loop_ok (sub_ok (g := g11_1) (outs := ((.normal, g11_1) :: o11_1)) (f := b11_1) (Table.ok T9_ok _) hmix (planAt_ok (P := P) (n := Go.Proofs.Try.f11.ntmps) (fx := fx11) (any := true) (c := (Code.at [true, true, true, false, true, false, false] c11)) (d := 64) (l := []) trivial) b11_1_eq) rfl _
noncomputable def f11 (x : gi11.D) : Option go11.D :=
  (Option.bind (Go.Ev.Asc.l11_1 (x.1, ((ByteArray.mk #[48, 49, 50, 51, 52, 53, 54, 55, 56, 57, 65, 66, 67, 68, 69, 70]), ((ByteArray.mk #[]), ((0 : Int), Unit.unit))))) (Sum.elim (fun y1 => (if (((ByteArray.size y1.1) + (1 : Nat)) ≤ (9223372036854775807 : Nat)) then (some ((y1.1 ++ (ByteArray.mk #[62])), Unit.unit))
   else none)) Empty.elim))
theorem f11_eq (x : gi11.D) : f11 x = evF P (T9.orc _) Go.Proofs.Try.f11.ntmps fx11 c11 (planAt 64 [([true, true, true, false, true, false], ⟨g11_1, o11_1, l11_1⟩)]) gi11 x (fnK fx11 [go11]) := by kernel_rfl
theorem pf11 : AllSub P Go.Proofs.Try.f11.ntmps fx11 true c11 [([true, true, true, false, true, false], ⟨g11_1, o11_1, l11_1⟩)] := And.intro s11_1_ok (trivial)
theorem qf11 : PlanOk P Go.Proofs.Try.f11.ntmps fx11 true (planAt 64 [([true, true, true, false, true, false], ⟨g11_1, o11_1, l11_1⟩)]) c11 := planAt_ok pf11
theorem f11_ok : EntOk P 11 ⟨gi11, [go11], f11⟩ :=
  ent_ok (fn := Go.Proofs.Try.f11) (gi := gi11) (gos := [go11]) (f := f11) (c := c11) (fx := fx11) ⟨Go.Proofs.Try.func11, by kernel_rfl, rfl, by decide +kernel, rfl, rfl⟩ (by kernel_rfl) (Table.ok T9_ok _) hmix (qf11) f11_eq
noncomputable def T11 : Table := T9.add 11 [⟨gi11, [go11], f11⟩] []
theorem T11_ok : TableOk P T11 := Table.plus T9_ok (es := [⟨gi11, [go11], f11⟩]) ⟨f11_ok, trivial⟩ []

/-! ## 21: erasure/erasureref10.five -/
noncomputable def c21 : Code := Func.code Go.Proofs.Try.f21
abbrev gi21 : Sg := ⟨[0], [.lf (.int .i64)], []⟩
abbrev go21 : Sg := ⟨[2], [.lf .str], []⟩
def fx21 : List Bool := []
abbrev g21_1 : Sg := ⟨[0, 3, 4], [.lf (.int .i64), .lf .str, .lf (.int .i64)], []⟩
abbrev o21_1 : Outs := [(.exit 0, ⟨[3], [.lf .str], []⟩)]
noncomputable def b21_1 (x : g21_1.D) : Option (outD ((.normal, g21_1) :: o21_1)) :=
  (if ((decide (x.2.2.1 < (5 : Int))) = true) then (if (((ByteArray.size (ByteArray.mk (List.toArray (List.map (fun y1 => (UInt8.ofNat (Int.toNat y1))) (List.take (1 : Nat) (List.drop (0 : Nat) (List.set (List.replicate (1 : Nat) (0 : Int)) (0 : Nat) (Go.IntKind.wrap Go.IntKind.u8 (Go.IntKind.wrap Go.IntKind.i64 ((33 : Int) + (Int.tmod x.1 (85 : Int)))))))))))) + (ByteArray.size x.2.1)) ≤ (9223372036854775807 : Nat)) then (some (Sum.inl ((Go.IntKind.wrap Go.IntKind.i64 (Int.tdiv x.1 (85 : Int))), (((ByteArray.mk (List.toArray (List.map (fun y1 => (UInt8.ofNat (Int.toNat y1))) (List.take (1 : Nat) (List.drop (0 : Nat) (List.set (List.replicate (1 : Nat) (0 : Int)) (0 : Nat) (Go.IntKind.wrap Go.IntKind.u8 (Go.IntKind.wrap Go.IntKind.i64 ((33 : Int) + (Int.tmod x.1 (85 : Int))))))))))) ++ x.2.1), ((Go.IntKind.wrap Go.IntKind.i64 (x.2.2.1 + (1 : Int))), Unit.unit)))))
   else none)
   else (some (Sum.inr (Sum.inl (x.2.1, Unit.unit)))))
theorem b21_1_eq (x : g21_1.D) : b21_1 x = evF P (T11.orc _) Go.Proofs.Try.f21.ntmps fx21 (Code.at [true, true, false, true, false, false] c21) (planAt 64 []) g21_1 x (injK fx21 ((.normal, g21_1) :: o21_1) some) := by kernel_rfl
noncomputable def l21_1 : g21_1.D → Option (outD o21_1) := loopN g21_1 o21_1 b21_1 18446744073709551616
theorem at21_1 : Code.at [true, true, false, true, false] c21 = .loop (Code.at [true, true, false, true, false, false] c21) := by kernel_rfl
theorem s21_1_ok : SubOk P Go.Proofs.Try.f21.ntmps fx21 (Code.at [true, true, false, true, false] c21) ⟨g21_1, o21_1, l21_1⟩ := by
  rw [at21_1]
  exact loop_ok (sub_ok (g := g21_1) (outs := ((.normal, g21_1) :: o21_1)) (f := b21_1) (Table.ok T11_ok _) hmix (planAt_ok (P := P) (n := Go.Proofs.Try.f21.ntmps) (fx := fx21) (any := true) (c := (Code.at [true, true, false, true, false, false] c21)) (d := 64) (l := []) trivial) b21_1_eq) rfl _
noncomputable def f21 (x : gi21.D) : Option go21.D :=
  (Option.bind (Go.Ev.Asc.l21_1 (x.1, ((ByteArray.mk #[]), ((0 : Int), Unit.unit)))) (Sum.elim (fun y1 => (some (y1.1, Unit.unit))) Empty.elim))
theorem f21_eq (x : gi21.D) : f21 x = evF P (T11.orc _) Go.Proofs.Try.f21.ntmps fx21 c21 (planAt 64 [([true, true, false, true, false], ⟨g21_1, o21_1, l21_1⟩)]) gi21 x (fnK fx21 [go21]) := by kernel_rfl
theorem pf21 : AllSub P Go.Proofs.Try.f21.ntmps fx21 true c21 [([true, true, false, true, false], ⟨g21_1, o21_1, l21_1⟩)] := And.intro s21_1_ok (trivial)
theorem qf21 : PlanOk P Go.Proofs.Try.f21.ntmps fx21 true (planAt 64 [([true, true, false, true, false], ⟨g21_1, o21_1, l21_1⟩)]) c21 := planAt_ok pf21
theorem f21_ok : EntOk P 21 ⟨gi21, [go21], f21⟩ :=
  ent_ok (fn := Go.Proofs.Try.f21) (gi := gi21) (gos := [go21]) (f := f21) (c := c21) (fx := fx21) ⟨Go.Proofs.Try.func21, by kernel_rfl, rfl, by decide +kernel, rfl, rfl⟩ (by kernel_rfl) (Table.ok T11_ok _) hmix (qf21) f21_eq
noncomputable def T21 : Table := T11.add 21 [⟨gi21, [go21], f21⟩] []
theorem T21_ok : TableOk P T21 := Table.plus T11_ok (es := [⟨gi21, [go21], f21⟩]) ⟨f21_ok, trivial⟩ []

/-! ## 13: erasure/erasureref10.Put -/
noncomputable def c13 : Code := Func.code Go.Proofs.Try.f13
abbrev gi13 : Sg := ⟨[0], [.lf (.sl (.int .u8))], []⟩
abbrev go13 : Sg := ⟨[2], [.lf .str], []⟩
def fx13 : List Bool := []
abbrev g13_2 : Sg := ⟨[0, 3, 4, 5, 6], [.lf (.sl (.int .u8)), .lf .str, .lf (.int .i64), .lf (.int .i64), .lf (.int .i64)], []⟩
abbrev o13_2 : Outs := [(.exit 2, ⟨[0, 3, 4, 5], [.lf (.sl (.int .u8)), .lf .str, .lf (.int .i64), .lf (.int .i64)], []⟩)]
noncomputable def b13_2 (x : g13_2.D) : Option (outD ((.normal, g13_2) :: o13_2)) :=
  (if ((decide (x.2.2.2.2.1 < (4 : Int))) = true) then (if ((decide ((Go.IntKind.wrap Go.IntKind.i64 (x.2.2.1 + x.2.2.2.2.1)) < (((List.length x.1) : Nat) : Int))) = true) then (if ((0 : Int) ≤ (Go.IntKind.wrap Go.IntKind.i64 (x.2.2.1 + x.2.2.2.2.1))) then (if ((Go.IntKind.wrap Go.IntKind.i64 (x.2.2.1 + x.2.2.2.2.1)) < (((List.length x.1) : Nat) : Int)) then (some (Sum.inl (x.1, (x.2.1, (x.2.2.1, ((Go.IntKind.wrap Go.IntKind.i64 ((Go.IntKind.wrap Go.IntKind.i64 ((256 : Int) * x.2.2.2.1)) + (Go.IntKind.wrap Go.IntKind.i64 (List.getD x.1 (Int.toNat (Go.IntKind.wrap Go.IntKind.i64 (x.2.2.1 + x.2.2.2.2.1))) (0 : Int))))), ((Go.IntKind.wrap Go.IntKind.i64 (x.2.2.2.2.1 + (1 : Int))), Unit.unit)))))))
   else none)
   else none)
   else (some (Sum.inl (x.1, (x.2.1, (x.2.2.1, ((Go.IntKind.wrap Go.IntKind.i64 ((256 : Int) * x.2.2.2.1)), ((Go.IntKind.wrap Go.IntKind.i64 (x.2.2.2.2.1 + (1 : Int))), Unit.unit))))))))
   else (some (Sum.inr (Sum.inl (x.1, (x.2.1, (x.2.2.1, (x.2.2.2.1, Unit.unit))))))))
theorem b13_2_eq (x : g13_2.D) : b13_2 x = evF P (T21.orc _) Go.Proofs.Try.f13.ntmps fx13 (Code.at [true, true, false, true, false, false, true, false, false, true, false, true, false, false] c13) (planAt 64 []) g13_2 x (injK fx13 ((.normal, g13_2) :: o13_2) some) := by kernel_rfl
noncomputable def l13_2 : g13_2.D → Option (outD o13_2) := loopN g13_2 o13_2 b13_2 18446744073709551616
theorem at13_2 : Code.at [true, true, false, true, false, false, true, false, false, true, false, true, false] c13 = .loop (Code.at [true, true, false, true, false, false, true, false, false, true, false, true, false, false] c13) := by kernel_rfl
theorem s13_2_ok : SubOk P Go.Proofs.Try.f13.ntmps fx13 (Code.at [true, true, false, true, false, false, true, false, false, true, false, true, false] c13) ⟨g13_2, o13_2, l13_2⟩ := by
  rw [at13_2]
  exact loop_ok (sub_ok (g := g13_2) (outs := ((.normal, g13_2) :: o13_2)) (f := b13_2) (Table.ok T21_ok _) hmix (planAt_ok (P := P) (n := Go.Proofs.Try.f13.ntmps) (fx := fx13) (any := true) (c := (Code.at [true, true, false, true, false, false, true, false, false, true, false, true, false, false] c13)) (d := 64) (l := []) trivial) b13_2_eq) rfl _
abbrev g13_1 : Sg := ⟨[0, 3, 4], [.lf (.sl (.int .u8)), .lf .str, .lf (.int .i64)], []⟩
abbrev o13_1 : Outs := [(.exit 0, ⟨[3], [.lf .str], []⟩)]
noncomputable def b13_1 (x : g13_1.D) : Option (outD ((.normal, g13_1) :: o13_1)) :=
  (if ((decide (x.2.2.1 < (((List.length x.1) : Nat) : Int))) = true) then (Option.bind (Go.Ev.Asc.l13_2 (x.1, (x.2.1, (x.2.2.1, ((0 : Int), ((0 : Int), Unit.unit)))))) (Sum.elim (fun y1 => (if ((y1.2.2.2.1 == (0 : Int)) = true) then (if (((Min.min (Go.IntKind.wrap Go.IntKind.i64 ((((List.length y1.1) : Nat) : Int) - y1.2.2.1)) (4 : Int)) == (4 : Int)) = true) then (if (((ByteArray.size y1.2.1) + (1 : Nat)) ≤ (9223372036854775807 : Nat)) then (some (Sum.inl (y1.1, ((y1.2.1 ++ (ByteArray.mk #[122])), ((Go.IntKind.wrap Go.IntKind.i64 (y1.2.2.1 + (4 : Int))), Unit.unit)))))
   else none)
   else (Option.bind (Go.Ev.Asc.f21 (y1.2.2.2.1, Unit.unit)) (fun y2 => (if ((0 : Int) ≤ (Go.IntKind.wrap Go.IntKind.i64 ((Min.min (Go.IntKind.wrap Go.IntKind.i64 ((((List.length y1.1) : Nat) : Int) - y1.2.2.1)) (4 : Int)) + (1 : Int)))) then (if ((Go.IntKind.wrap Go.IntKind.i64 ((Min.min (Go.IntKind.wrap Go.IntKind.i64 ((((List.length y1.1) : Nat) : Int) - y1.2.2.1)) (4 : Int)) + (1 : Int))) ≤ (((ByteArray.size y2.1) : Nat) : Int)) then (if (((ByteArray.size y1.2.1) + (ByteArray.size (ByteArray.extract y2.1 (0 : Nat) (Int.toNat (Go.IntKind.wrap Go.IntKind.i64 ((Min.min (Go.IntKind.wrap Go.IntKind.i64 ((((List.length y1.1) : Nat) : Int) - y1.2.2.1)) (4 : Int)) + (1 : Int))))))) ≤ (9223372036854775807 : Nat)) then (some (Sum.inl (y1.1, ((y1.2.1 ++ (ByteArray.extract y2.1 (0 : Nat) (Int.toNat (Go.IntKind.wrap Go.IntKind.i64 ((Min.min (Go.IntKind.wrap Go.IntKind.i64 ((((List.length y1.1) : Nat) : Int) - y1.2.2.1)) (4 : Int)) + (1 : Int)))))), ((Go.IntKind.wrap Go.IntKind.i64 (y1.2.2.1 + (4 : Int))), Unit.unit)))))
   else none)
   else none)
   else none))))
   else (Option.bind (Go.Ev.Asc.f21 (y1.2.2.2.1, Unit.unit)) (fun y2 => (if ((0 : Int) ≤ (Go.IntKind.wrap Go.IntKind.i64 ((Min.min (Go.IntKind.wrap Go.IntKind.i64 ((((List.length y1.1) : Nat) : Int) - y1.2.2.1)) (4 : Int)) + (1 : Int)))) then (if ((Go.IntKind.wrap Go.IntKind.i64 ((Min.min (Go.IntKind.wrap Go.IntKind.i64 ((((List.length y1.1) : Nat) : Int) - y1.2.2.1)) (4 : Int)) + (1 : Int))) ≤ (((ByteArray.size y2.1) : Nat) : Int)) then (if (((ByteArray.size y1.2.1) + (ByteArray.size (ByteArray.extract y2.1 (0 : Nat) (Int.toNat (Go.IntKind.wrap Go.IntKind.i64 ((Min.min (Go.IntKind.wrap Go.IntKind.i64 ((((List.length y1.1) : Nat) : Int) - y1.2.2.1)) (4 : Int)) + (1 : Int))))))) ≤ (9223372036854775807 : Nat)) then (some (Sum.inl (y1.1, ((y1.2.1 ++ (ByteArray.extract y2.1 (0 : Nat) (Int.toNat (Go.IntKind.wrap Go.IntKind.i64 ((Min.min (Go.IntKind.wrap Go.IntKind.i64 ((((List.length y1.1) : Nat) : Int) - y1.2.2.1)) (4 : Int)) + (1 : Int)))))), ((Go.IntKind.wrap Go.IntKind.i64 (y1.2.2.1 + (4 : Int))), Unit.unit)))))
   else none)
   else none)
   else none))))) Empty.elim))
   else (some (Sum.inr (Sum.inl (x.2.1, Unit.unit)))))
theorem b13_1_eq (x : g13_1.D) : b13_1 x = evF P (T21.orc _) Go.Proofs.Try.f13.ntmps fx13 (Code.at [true, true, false, true, false, false] c13) (planAt 64 [([true, false, false, true, false, true, false], ⟨g13_2, o13_2, l13_2⟩)]) g13_1 x (injK fx13 ((.normal, g13_1) :: o13_1) some) := by kernel_rfl
noncomputable def l13_1 : g13_1.D → Option (outD o13_1) := loopN g13_1 o13_1 b13_1 18446744073709551616
theorem p13_1 : AllSub P Go.Proofs.Try.f13.ntmps fx13 true (Code.at [true, true, false, true, false, false] c13) [([true, false, false, true, false, true, false], ⟨g13_2, o13_2, l13_2⟩)] := And.intro s13_2_ok (trivial)
theorem q13_1 : PlanOk P Go.Proofs.Try.f13.ntmps fx13 true (planAt 64 [([true, false, false, true, false, true, false], ⟨g13_2, o13_2, l13_2⟩)]) (Code.at [true, true, false, true, false, false] c13) := planAt_ok p13_1
theorem at13_1 : Code.at [true, true, false, true, false] c13 = .loop (Code.at [true, true, false, true, false, false] c13) := by kernel_rfl
theorem s13_1_ok : SubOk P Go.Proofs.Try.f13.ntmps fx13 (Code.at [true, true, false, true, false] c13) ⟨g13_1, o13_1, l13_1⟩ := by
  rw [at13_1]
  exact loop_ok (sub_ok (g := g13_1) (outs := ((.normal, g13_1) :: o13_1)) (f := b13_1) (Table.ok T21_ok _) hmix (q13_1) b13_1_eq) rfl _
noncomputable def f13 (x : gi13.D) : Option go13.D :=
  (Option.bind (Go.Ev.Asc.l13_1 (x.1, ((ByteArray.mk #[]), ((0 : Int), Unit.unit)))) (Sum.elim (fun y1 => (if (((ByteArray.size y1.1) + (2 : Nat)) ≤ (9223372036854775807 : Nat)) then (some ((y1.1 ++ (ByteArray.mk #[126, 62])), Unit.unit))
   else none)) Empty.elim))
theorem f13_eq (x : gi13.D) : f13 x = evF P (T21.orc _) Go.Proofs.Try.f13.ntmps fx13 c13 (planAt 64 [([true, true, false, true, false], ⟨g13_1, o13_1, l13_1⟩)]) gi13 x (fnK fx13 [go13]) := by kernel_rfl
theorem pf13 : AllSub P Go.Proofs.Try.f13.ntmps fx13 true c13 [([true, true, false, true, false], ⟨g13_1, o13_1, l13_1⟩)] := And.intro s13_1_ok (trivial)
theorem qf13 : PlanOk P Go.Proofs.Try.f13.ntmps fx13 true (planAt 64 [([true, true, false, true, false], ⟨g13_1, o13_1, l13_1⟩)]) c13 := planAt_ok pf13
theorem f13_ok : EntOk P 13 ⟨gi13, [go13], f13⟩ :=
  ent_ok (fn := Go.Proofs.Try.f13) (gi := gi13) (gos := [go13]) (f := f13) (c := c13) (fx := fx13) ⟨Go.Proofs.Try.func13, by kernel_rfl, rfl, by decide +kernel, rfl, rfl⟩ (by kernel_rfl) (Table.ok T21_ok _) hmix (qf13) f13_eq
noncomputable def T13 : Table := T21.add 13 [⟨gi13, [go13], f13⟩] []
theorem T13_ok : TableOk P T13 := Table.plus T21_ok (es := [⟨gi13, [go13], f13⟩]) ⟨f13_ok, trivial⟩ []

/-! ## 3: erasure/erasurelaw10.AsciiPuts -/
noncomputable def c3 : Code := Func.code Go.Proofs.Try.f3
abbrev gi3 : Sg := ⟨[0], [.lf (.sl (.int .u8))], []⟩
abbrev go3 : Sg := ⟨[2], [.lf .bool], []⟩
def fx3 : List Bool := []
noncomputable def f3 (x : gi3.D) : Option go3.D :=
  (if ((decide ((((List.length x.1) : Nat) : Int) > (500 : Int))) = true) then (some (true, Unit.unit))
   else (Option.bind (Go.Ev.Asc.f8 (x.1, Unit.unit)) (fun y1 => (Option.bind (Go.Ev.Asc.f9 Unit.unit) (fun y2 => (if (y2.1 = true) then (Option.bind (Go.Ev.Asc.f10 ((List.take (List.length y1.1) (List.drop (0 : Nat) y1.1)), Unit.unit)) (fun y3 => (Option.bind (Go.Ev.Asc.f11 (x.1, Unit.unit)) (fun y4 => (if (((ByteArray.toList y3.1) == (ByteArray.toList y4.1)) = true) then (Option.bind (Go.Ev.Asc.f12 ((List.take (List.length y1.1) (List.drop (0 : Nat) y1.1)), Unit.unit)) (fun y5 => (Option.bind (Go.Ev.Asc.f13 (x.1, Unit.unit)) (fun y6 => (if (((ByteArray.toList y5.1) == (ByteArray.toList y6.1)) = true) then (some (((ByteArray.toList (ByteArray.mk (List.toArray (List.map (fun y7 => (UInt8.ofNat (Int.toNat y7))) (List.take (List.length y1.1) (List.drop (0 : Nat) y1.1)))))) == (ByteArray.toList (ByteArray.mk (List.toArray (List.map (fun y7 => (UInt8.ofNat (Int.toNat y7))) x.1))))), Unit.unit))
   else (some (false, Unit.unit)))))))
   else (some (false, Unit.unit)))))))
   else (some (false, Unit.unit))))))))
theorem f3_eq (x : gi3.D) : f3 x = evF P (T13.orc _) Go.Proofs.Try.f3.ntmps fx3 c3 (planAt 64 []) gi3 x (fnK fx3 [go3]) := by kernel_rfl
theorem f3_ok : EntOk P 3 ⟨gi3, [go3], f3⟩ :=
  ent_ok (fn := Go.Proofs.Try.f3) (gi := gi3) (gos := [go3]) (f := f3) (c := c3) (fx := fx3) ⟨Go.Proofs.Try.func3, by kernel_rfl, rfl, by decide +kernel, rfl, rfl⟩ (by kernel_rfl) (Table.ok T13_ok _) hmix (planAt_ok (P := P) (n := Go.Proofs.Try.f3.ntmps) (fx := fx3) (any := true) (c := c3) (d := 64) (l := []) trivial) f3_eq
noncomputable def T3 : Table := T13.add 3 [⟨gi3, [go3], f3⟩] []
theorem T3_ok : TableOk P T3 := Table.plus T13_ok (es := [⟨gi3, [go3], f3⟩]) ⟨f3_ok, trivial⟩ []

/-! ## 25: erasure/erasureref10.Digit -/
noncomputable def c25 : Code := Func.code Go.Proofs.Try.f25
abbrev gi25 : Sg := ⟨[0], [.lf (.int .u8)], []⟩
abbrev go25 : Sg := ⟨[2], [.lf (.int .i64)], []⟩
def fx25 : List Bool := []
abbrev g25_1 : Sg := ⟨[0], [.lf (.int .u8)], []⟩
abbrev o25_1 : Outs := [(.normal, ⟨[0, 8], [.lf (.int .u8), .lf .bool], []⟩)]
noncomputable def b25_1 (x : g25_1.D) : Option (outD o25_1) :=
  (if ((decide (x.1 ≥ (48 : Int))) = true) then (some (Sum.inl (x.1, ((decide (x.1 ≤ (57 : Int))), Unit.unit))))
   else (some (Sum.inl (x.1, (false, Unit.unit)))))
theorem b25_1_eq (x : g25_1.D) : b25_1 x = evF P (T3.orc _) Go.Proofs.Try.f25.ntmps fx25 (Code.at [true, false, false] c25) (planAt 64 []) g25_1 x (injK fx25 o25_1 some) := by kernel_rfl
theorem s25_1_ok : SubOk P Go.Proofs.Try.f25.ntmps fx25 (Code.at [true, false, false] c25) ⟨g25_1, o25_1, b25_1⟩ :=
  sub_ok (g := g25_1) (outs := o25_1) (f := b25_1) (Table.ok T3_ok _) hmix (planAt_ok (P := P) (n := Go.Proofs.Try.f25.ntmps) (fx := fx25) (any := true) (c := (Code.at [true, false, false] c25)) (d := 64) (l := []) trivial) b25_1_eq
noncomputable def f25 (x : gi25.D) : Option go25.D :=
  (Option.bind (Go.Ev.Asc.b25_1 (x.1, Unit.unit)) (Sum.elim (fun y1 => (if (y1.2.1 = true) then (some ((Go.IntKind.wrap Go.IntKind.i64 (Go.IntKind.wrap Go.IntKind.u8 (y1.1 - (48 : Int)))), Unit.unit))
   else (if ((decide (y1.1 ≥ (65 : Int))) = true) then (if ((decide (y1.1 ≤ (70 : Int))) = true) then (some ((Go.IntKind.wrap Go.IntKind.i64 ((Go.IntKind.wrap Go.IntKind.i64 (Go.IntKind.wrap Go.IntKind.u8 (y1.1 - (65 : Int)))) + (10 : Int))), Unit.unit))
   else (if ((decide (y1.1 ≥ (97 : Int))) = true) then (if ((decide (y1.1 ≤ (102 : Int))) = true) then (some ((Go.IntKind.wrap Go.IntKind.i64 ((Go.IntKind.wrap Go.IntKind.i64 (Go.IntKind.wrap Go.IntKind.u8 (y1.1 - (97 : Int)))) + (10 : Int))), Unit.unit))
   else (some ((-1 : Int), Unit.unit)))
   else (some ((-1 : Int), Unit.unit))))
   else (if ((decide (y1.1 ≥ (97 : Int))) = true) then (if ((decide (y1.1 ≤ (102 : Int))) = true) then (some ((Go.IntKind.wrap Go.IntKind.i64 ((Go.IntKind.wrap Go.IntKind.i64 (Go.IntKind.wrap Go.IntKind.u8 (y1.1 - (97 : Int)))) + (10 : Int))), Unit.unit))
   else (some ((-1 : Int), Unit.unit)))
   else (some ((-1 : Int), Unit.unit)))))) Empty.elim))
theorem f25_eq (x : gi25.D) : f25 x = evF P (T3.orc _) Go.Proofs.Try.f25.ntmps fx25 c25 (planAt 64 [([true, false, false], ⟨g25_1, o25_1, b25_1⟩)]) gi25 x (fnK fx25 [go25]) := by kernel_rfl
theorem pf25 : AllSub P Go.Proofs.Try.f25.ntmps fx25 true c25 [([true, false, false], ⟨g25_1, o25_1, b25_1⟩)] := And.intro s25_1_ok (trivial)
theorem qf25 : PlanOk P Go.Proofs.Try.f25.ntmps fx25 true (planAt 64 [([true, false, false], ⟨g25_1, o25_1, b25_1⟩)]) c25 := planAt_ok pf25
theorem f25_ok : EntOk P 25 ⟨gi25, [go25], f25⟩ :=
  ent_ok (fn := Go.Proofs.Try.f25) (gi := gi25) (gos := [go25]) (f := f25) (c := c25) (fx := fx25) ⟨Go.Proofs.Try.func25, by kernel_rfl, rfl, by decide +kernel, rfl, rfl⟩ (by kernel_rfl) (Table.ok T3_ok _) hmix (qf25) f25_eq
noncomputable def T25 : Table := T3.add 25 [⟨gi25, [go25], f25⟩] []
theorem T25_ok : TableOk P T25 := Table.plus T3_ok (es := [⟨gi25, [go25], f25⟩]) ⟨f25_ok, trivial⟩ []

/-! ## 26: erasure/erasureref10.White -/
noncomputable def c26 : Code := Func.code Go.Proofs.Try.f26
abbrev gi26 : Sg := ⟨[0], [.lf (.int .u8)], []⟩
abbrev go26 : Sg := ⟨[2], [.lf .bool], []⟩
def fx26 : List Bool := []
noncomputable def f26 (x : gi26.D) : Option go26.D :=
  (if ((x.1 == (0 : Int)) = true) then (some (true, Unit.unit))
   else (if ((x.1 == (9 : Int)) = true) then (some (true, Unit.unit))
   else (if ((x.1 == (10 : Int)) = true) then (some (true, Unit.unit))
   else (if ((x.1 == (12 : Int)) = true) then (some (true, Unit.unit))
   else (if ((x.1 == (13 : Int)) = true) then (some (true, Unit.unit))
   else (some ((x.1 == (32 : Int)), Unit.unit)))))))
theorem f26_eq (x : gi26.D) : f26 x = evF P (T25.orc _) Go.Proofs.Try.f26.ntmps fx26 c26 (planAt 64 []) gi26 x (fnK fx26 [go26]) := by kernel_rfl
theorem f26_ok : EntOk P 26 ⟨gi26, [go26], f26⟩ :=
  ent_ok (fn := Go.Proofs.Try.f26) (gi := gi26) (gos := [go26]) (f := f26) (c := c26) (fx := fx26) ⟨Go.Proofs.Try.func26, by kernel_rfl, rfl, by decide +kernel, rfl, rfl⟩ (by kernel_rfl) (Table.ok T25_ok _) hmix (planAt_ok (P := P) (n := Go.Proofs.Try.f26.ntmps) (fx := fx26) (any := true) (c := c26) (d := 64) (l := []) trivial) f26_eq
noncomputable def T26 : Table := T25.add 26 [⟨gi26, [go26], f26⟩] []
theorem T26_ok : TableOk P T26 := Table.plus T25_ok (es := [⟨gi26, [go26], f26⟩]) ⟨f26_ok, trivial⟩ []

/-! ## 15: erasure/erasureref10.Unhex -/
noncomputable def c15 : Code := Func.code Go.Proofs.Try.f15
abbrev gi15 : Sg := ⟨[0, 1], [.lf .str, .lf (.int .i64)], []⟩
abbrev go15 : Sg := ⟨[4, 5], [.lf (.sl (.int .u8)), .lf (.int .i64)], []⟩
def fx15 : List Bool := []
abbrev g15_3 : Sg := ⟨[6, 8, 9], [.lf (.gr (.int .i64) 0), .lf (.gr (.int .u8) 1), .lf (.int .i64)], [some (.arr true (.int .i64)), some (.arr true (.int .u8))]⟩
abbrev o15_3 : Outs := [(.exit 2, ⟨[8], [.lf (.gr (.int .u8) 0)], [some (.arr true (.int .u8))]⟩)]
noncomputable def b15_3 (x : g15_3.D) : Option (outD ((.normal, g15_3) :: o15_3)) :=
  (if ((decide (x.1 < (((List.length x.2.1) : Nat) : Int))) = true) then (if ((0 : Int) ≤ x.1) then (if (x.1 < (((List.length x.2.1) : Nat) : Int)) then (if ((0 : Int) ≤ (Go.IntKind.wrap Go.IntKind.i64 (x.1 + (1 : Int)))) then (if ((Go.IntKind.wrap Go.IntKind.i64 (x.1 + (1 : Int))) < (((List.length x.2.1) : Nat) : Int)) then (if (((List.length (List.take (List.length x.2.2.1) (List.drop (0 : Nat) x.2.2.1))) + (List.length (List.take (1 : Nat) (List.drop (0 : Nat) (List.set (List.replicate (1 : Nat) (0 : Int)) (0 : Nat) (Go.IntKind.wrap Go.IntKind.u8 (Go.IntKind.wrap Go.IntKind.i64 ((Go.IntKind.wrap Go.IntKind.i64 ((16 : Int) * (List.getD x.2.1 ((0 : Nat) + (Int.toNat x.1)) (0 : Int)))) + (List.getD x.2.1 ((0 : Nat) + (Int.toNat (Go.IntKind.wrap Go.IntKind.i64 (x.1 + (1 : Int))))) (0 : Int)))))))))) ≤ (140737488355328 : Nat)) then (if ((List.length x.2.1) = (List.length x.2.1)) then (if ((List.length ((List.take (List.length x.2.2.1) (List.drop (0 : Nat) x.2.2.1)) ++ (List.take (1 : Nat) (List.drop (0 : Nat) (List.set (List.replicate (1 : Nat) (0 : Int)) (0 : Nat) (Go.IntKind.wrap Go.IntKind.u8 (Go.IntKind.wrap Go.IntKind.i64 ((Go.IntKind.wrap Go.IntKind.i64 ((16 : Int) * (List.getD x.2.1 ((0 : Nat) + (Int.toNat x.1)) (0 : Int)))) + (List.getD x.2.1 ((0 : Nat) + (Int.toNat (Go.IntKind.wrap Go.IntKind.i64 (x.1 + (1 : Int))))) (0 : Int)))))))))) = (List.length ((List.take (List.length x.2.2.1) (List.drop (0 : Nat) x.2.2.1)) ++ (List.take (1 : Nat) (List.drop (0 : Nat) (List.set (List.replicate (1 : Nat) (0 : Int)) (0 : Nat) (Go.IntKind.wrap Go.IntKind.u8 (Go.IntKind.wrap Go.IntKind.i64 ((Go.IntKind.wrap Go.IntKind.i64 ((16 : Int) * (List.getD x.2.1 ((0 : Nat) + (Int.toNat x.1)) (0 : Int)))) + (List.getD x.2.1 ((0 : Nat) + (Int.toNat (Go.IntKind.wrap Go.IntKind.i64 (x.1 + (1 : Int))))) (0 : Int))))))))))) then (some (Sum.inl ((Go.IntKind.wrap Go.IntKind.i64 (x.1 + (2 : Int))), (x.2.1, (((List.take (List.length x.2.2.1) (List.drop (0 : Nat) x.2.2.1)) ++ (List.take (1 : Nat) (List.drop (0 : Nat) (List.set (List.replicate (1 : Nat) (0 : Int)) (0 : Nat) (Go.IntKind.wrap Go.IntKind.u8 (Go.IntKind.wrap Go.IntKind.i64 ((Go.IntKind.wrap Go.IntKind.i64 ((16 : Int) * (List.getD x.2.1 ((0 : Nat) + (Int.toNat x.1)) (0 : Int)))) + (List.getD x.2.1 ((0 : Nat) + (Int.toNat (Go.IntKind.wrap Go.IntKind.i64 (x.1 + (1 : Int))))) (0 : Int))))))))), Unit.unit)))))
   else none)
   else none)
   else none)
   else none)
   else none)
   else none)
   else none)
   else (if ((List.length x.2.2.1) = (List.length x.2.2.1)) then (some (Sum.inr (Sum.inl (x.2.2.1, Unit.unit))))
   else none))
theorem b15_3_eq (x : g15_3.D) : b15_3 x = evF P (T26.orc _) Go.Proofs.Try.f15.ntmps fx15 (Code.at [true, true, true, true, true, true, true, true, true, false, true, false, false] c15) (planAt 64 []) g15_3 x (injK fx15 ((.normal, g15_3) :: o15_3) some) := by kernel_rfl
noncomputable def l15_3 : g15_3.D → Option (outD o15_3) := loopN g15_3 o15_3 b15_3 18446744073709551616
theorem at15_3 : Code.at [true, true, true, true, true, true, true, true, true, false, true, false] c15 = .loop (Code.at [true, true, true, true, true, true, true, true, true, false, true, false, false] c15) := by kernel_rfl
theorem s15_3_ok : SubOk P Go.Proofs.Try.f15.ntmps fx15 (Code.at [true, true, true, true, true, true, true, true, true, false, true, false] c15) ⟨g15_3, o15_3, l15_3⟩ := by
  rw [at15_3]
  exact loop_ok (sub_ok (g := g15_3) (outs := ((.normal, g15_3) :: o15_3)) (f := b15_3) (Table.ok T26_ok _) hmix (planAt_ok (P := P) (n := Go.Proofs.Try.f15.ntmps) (fx := fx15) (any := true) (c := (Code.at [true, true, true, true, true, true, true, true, true, false, true, false, false] c15)) (d := 64) (l := []) trivial) b15_3_eq) rfl _
abbrev g15_2 : Sg := ⟨[1, 6], [.lf (.int .i64), .lf (.gr (.int .i64) 0)], [some (.arr true (.int .i64))]⟩
abbrev o15_2 : Outs := [(.normal, ⟨[1, 6], [.lf (.int .i64), .lf (.gr (.int .i64) 0)], [some (.arr true (.int .i64))]⟩)]
noncomputable def b15_2 (x : g15_2.D) : Option (outD o15_2) :=
  (if (((Int.tmod (((List.length x.2.1) : Nat) : Int) (2 : Int)) == (1 : Int)) = true) then (if (((List.length (List.take (List.length x.2.1) (List.drop (0 : Nat) x.2.1))) + (1 : Nat)) ≤ (17592186044416 : Nat)) then (if ((List.length ((List.take (List.length x.2.1) (List.drop (0 : Nat) x.2.1)) ++ (List.take (1 : Nat) (List.drop (0 : Nat) (List.set (List.replicate (1 : Nat) (0 : Int)) (0 : Nat) (0 : Int)))))) = (List.length ((List.take (List.length x.2.1) (List.drop (0 : Nat) x.2.1)) ++ (List.take (1 : Nat) (List.drop (0 : Nat) (List.set (List.replicate (1 : Nat) (0 : Int)) (0 : Nat) (0 : Int))))))) then (some (Sum.inl (x.1, (((List.take (List.length x.2.1) (List.drop (0 : Nat) x.2.1)) ++ (List.take (1 : Nat) (List.drop (0 : Nat) (List.set (List.replicate (1 : Nat) (0 : Int)) (0 : Nat) (0 : Int))))), Unit.unit))))
   else none)
   else none)
   else (if ((List.length x.2.1) = (List.length x.2.1)) then (some (Sum.inl (x.1, (x.2.1, Unit.unit))))
   else none))
theorem b15_2_eq (x : g15_2.D) : b15_2 x = evF P (T26.orc _) Go.Proofs.Try.f15.ntmps fx15 (Code.at [true, true, true, true, true, true, false] c15) (planAt 64 []) g15_2 x (injK fx15 o15_2 some) := by kernel_rfl
theorem s15_2_ok : SubOk P Go.Proofs.Try.f15.ntmps fx15 (Code.at [true, true, true, true, true, true, false] c15) ⟨g15_2, o15_2, b15_2⟩ :=
  sub_ok (g := g15_2) (outs := o15_2) (f := b15_2) (Table.ok T26_ok _) hmix (planAt_ok (P := P) (n := Go.Proofs.Try.f15.ntmps) (fx := fx15) (any := true) (c := (Code.at [true, true, true, true, true, true, false] c15)) (d := 64) (l := []) trivial) b15_2_eq
abbrev g15_1 : Sg := ⟨[0, 1, 6, 7], [.lf .str, .lf (.int .i64), .lf (.gr (.int .i64) 0), .lf (.int .i64)], [some (.arr true (.int .i64))]⟩
abbrev o15_1 : Outs := [(.exit 0, ⟨[0, 1, 6, 7], [.lf .str, .lf (.int .i64), .lf (.gr (.int .i64) 0), .lf (.int .i64)], [some (.arr true (.int .i64))]⟩), (.ret, ⟨[4, 5], [.lf (.sl (.int .u8)), .lf (.int .i64)], []⟩)]
noncomputable def b15_1 (x : g15_1.D) : Option (outD ((.normal, g15_1) :: o15_1)) :=
  (if ((decide (x.2.2.1 < (((ByteArray.size x.1) : Nat) : Int))) = true) then (if ((0 : Int) ≤ x.2.2.1) then (if (x.2.2.1 < (((ByteArray.size x.1) : Nat) : Int)) then (if (((((UInt8.toNat (Array.getD (ByteArray.data x.1) (Int.toNat x.2.2.1) (0 : UInt8))) : Nat) : Int) != (62 : Int)) = true) then (if ((0 : Int) ≤ x.2.2.1) then (if (x.2.2.1 < (((ByteArray.size x.1) : Nat) : Int)) then (Option.bind (Go.Ev.Asc.f25 ((((UInt8.toNat (Array.getD (ByteArray.data x.1) (Int.toNat x.2.2.1) (0 : UInt8))) : Nat) : Int), Unit.unit)) (fun y1 => (if ((decide (y1.1 ≥ (0 : Int))) = true) then (if ((0 : Int) ≤ x.2.2.1) then (if (x.2.2.1 < (((ByteArray.size x.1) : Nat) : Int)) then (Option.bind (Go.Ev.Asc.f25 ((((UInt8.toNat (Array.getD (ByteArray.data x.1) (Int.toNat x.2.2.1) (0 : UInt8))) : Nat) : Int), Unit.unit)) (fun y2 => (if (((List.length (List.take (List.length x.2.2.2.1) (List.drop (0 : Nat) x.2.2.2.1))) + (List.length (List.take (1 : Nat) (List.drop (0 : Nat) (List.set (List.replicate (1 : Nat) (0 : Int)) (0 : Nat) y2.1))))) ≤ (17592186044416 : Nat)) then (if ((List.length ((List.take (List.length x.2.2.2.1) (List.drop (0 : Nat) x.2.2.2.1)) ++ (List.take (1 : Nat) (List.drop (0 : Nat) (List.set (List.replicate (1 : Nat) (0 : Int)) (0 : Nat) y2.1))))) = (List.length ((List.take (List.length x.2.2.2.1) (List.drop (0 : Nat) x.2.2.2.1)) ++ (List.take (1 : Nat) (List.drop (0 : Nat) (List.set (List.replicate (1 : Nat) (0 : Int)) (0 : Nat) y2.1)))))) then (some (Sum.inl (x.1, (x.2.1, ((Go.IntKind.wrap Go.IntKind.i64 (x.2.2.1 + (1 : Int))), (((List.take (List.length x.2.2.2.1) (List.drop (0 : Nat) x.2.2.2.1)) ++ (List.take (1 : Nat) (List.drop (0 : Nat) (List.set (List.replicate (1 : Nat) (0 : Int)) (0 : Nat) y2.1)))), Unit.unit))))))
   else none)
   else none)))
   else none)
   else none)
   else (if ((0 : Int) ≤ x.2.2.1) then (if (x.2.2.1 < (((ByteArray.size x.1) : Nat) : Int)) then (Option.bind (Go.Ev.Asc.f26 ((((UInt8.toNat (Array.getD (ByteArray.data x.1) (Int.toNat x.2.2.1) (0 : UInt8))) : Nat) : Int), Unit.unit)) (fun y2 => (if ((Bool.not y2.1) = true) then (some (Sum.inr (Sum.inr (Sum.inl ([], ((4 : Int), Unit.unit))))))
   else (if ((List.length x.2.2.2.1) = (List.length x.2.2.2.1)) then (some (Sum.inl (x.1, (x.2.1, ((Go.IntKind.wrap Go.IntKind.i64 (x.2.2.1 + (1 : Int))), (x.2.2.2.1, Unit.unit))))))
   else none))))
   else none)
   else none))))
   else none)
   else none)
   else (if ((List.length x.2.2.2.1) = (List.length x.2.2.2.1)) then (some (Sum.inr (Sum.inl (x.1, (x.2.1, (x.2.2.1, (x.2.2.2.1, Unit.unit)))))))
   else none))
   else none)
   else none)
   else (if ((List.length x.2.2.2.1) = (List.length x.2.2.2.1)) then (some (Sum.inr (Sum.inl (x.1, (x.2.1, (x.2.2.1, (x.2.2.2.1, Unit.unit)))))))
   else none))
theorem b15_1_eq (x : g15_1.D) : b15_1 x = evF P (T26.orc _) Go.Proofs.Try.f15.ntmps fx15 (Code.at [true, true, true, true, false, false, false] c15) (planAt 64 []) g15_1 x (injK fx15 ((.normal, g15_1) :: o15_1) some) := by kernel_rfl
noncomputable def l15_1 : g15_1.D → Option (outD o15_1) := loopN g15_1 o15_1 b15_1 18446744073709551616
theorem at15_1 : Code.at [true, true, true, true, false, false] c15 = .loop (Code.at [true, true, true, true, false, false, false] c15) := by kernel_rfl
theorem s15_1_ok : SubOk P Go.Proofs.Try.f15.ntmps fx15 (Code.at [true, true, true, true, false, false] c15) ⟨g15_1, o15_1, l15_1⟩ := by
  rw [at15_1]
  exact loop_ok (sub_ok (g := g15_1) (outs := ((.normal, g15_1) :: o15_1)) (f := b15_1) (Table.ok T26_ok _) hmix (planAt_ok (P := P) (n := Go.Proofs.Try.f15.ntmps) (fx := fx15) (any := true) (c := (Code.at [true, true, true, true, false, false, false] c15)) (d := 64) (l := []) trivial) b15_1_eq) rfl _
noncomputable def f15 (x : gi15.D) : Option go15.D :=
  (if ((decide (x.2.1 < (0 : Int))) = true) then (some ([], ((1 : Int), Unit.unit)))
   else (if ((decide (x.2.1 > (1048576 : Int))) = true) then (some ([], ((1 : Int), Unit.unit)))
   else (Option.bind (Go.Ev.Asc.l15_1 (x.1, (x.2.1, ((0 : Int), ([], Unit.unit))))) (Sum.elim (fun y1 => (if ((y1.2.2.1 == (((ByteArray.size y1.1) : Nat) : Int)) = true) then (some ([], ((4 : Int), Unit.unit)))
   else (if ((List.length y1.2.2.2.1) = (List.length y1.2.2.2.1)) then (Option.bind (Go.Ev.Asc.b15_2 (y1.2.1, (y1.2.2.2.1, Unit.unit))) (Sum.elim (fun y2 => (if ((decide ((Go.IntKind.wrap Go.IntKind.i64 (Int.tdiv (((List.length y2.2.1) : Nat) : Int) (2 : Int))) > y2.1)) = true) then (some ([], ((2 : Int), Unit.unit)))
   else (if ((List.length y2.2.1) = (List.length y2.2.1)) then (Option.bind (Go.Ev.Asc.l15_3 ((0 : Int), (y2.2.1, ([], Unit.unit)))) (Sum.elim (fun y3 => (some ((List.take (List.length y3.1) (List.drop (0 : Nat) y3.1)), ((0 : Int), Unit.unit)))) Empty.elim))
   else none))) Empty.elim))
   else none))) (Sum.elim (fun y1 => (some (y1.1, (y1.2.1, Unit.unit)))) Empty.elim)))))
theorem f15_eq (x : gi15.D) : f15 x = evF P (T26.orc _) Go.Proofs.Try.f15.ntmps fx15 c15 (planAt 64 [([true, true, true, true, false, false], ⟨g15_1, o15_1, l15_1⟩), ([true, true, true, true, true, true, false], ⟨g15_2, o15_2, b15_2⟩), ([true, true, true, true, true, true, true, true, true, false, true, false], ⟨g15_3, o15_3, l15_3⟩)]) gi15 x (fnK fx15 [go15]) := by kernel_rfl
theorem pf15 : AllSub P Go.Proofs.Try.f15.ntmps fx15 true c15 [([true, true, true, true, false, false], ⟨g15_1, o15_1, l15_1⟩), ([true, true, true, true, true, true, false], ⟨g15_2, o15_2, b15_2⟩), ([true, true, true, true, true, true, true, true, true, false, true, false], ⟨g15_3, o15_3, l15_3⟩)] := And.intro s15_1_ok (And.intro s15_2_ok (And.intro s15_3_ok (trivial)))
theorem qf15 : PlanOk P Go.Proofs.Try.f15.ntmps fx15 true (planAt 64 [([true, true, true, true, false, false], ⟨g15_1, o15_1, l15_1⟩), ([true, true, true, true, true, true, false], ⟨g15_2, o15_2, b15_2⟩), ([true, true, true, true, true, true, true, true, true, false, true, false], ⟨g15_3, o15_3, l15_3⟩)]) c15 := planAt_ok pf15
theorem f15_ok : EntOk P 15 ⟨gi15, [go15], f15⟩ :=
  ent_ok (fn := Go.Proofs.Try.f15) (gi := gi15) (gos := [go15]) (f := f15) (c := c15) (fx := fx15) ⟨Go.Proofs.Try.func15, by kernel_rfl, rfl, by decide +kernel, rfl, rfl⟩ (by kernel_rfl) (Table.ok T26_ok _) hmix (qf15) f15_eq
noncomputable def T15 : Table := T26.add 15 [⟨gi15, [go15], f15⟩] []
theorem T15_ok : TableOk P T15 := Table.plus T26_ok (es := [⟨gi15, [go15], f15⟩]) ⟨f15_ok, trivial⟩ []

/-! ## 29: erasure/erasureref10.number -/
noncomputable def c29 : Code := Func.code Go.Proofs.Try.f29
abbrev gi29 : Sg := ⟨[0], [.lf (.sl (.int .i64))], []⟩
abbrev go29 : Sg := ⟨[2], [.lf (.int .i64)], []⟩
def fx29 : List Bool := []
abbrev g29_1 : Sg := ⟨[0, 3, 4], [.lf (.sl (.int .i64)), .lf (.int .i64), .lf (.int .i64)], []⟩
abbrev o29_1 : Outs := [(.exit 0, ⟨[3], [.lf (.int .i64)], []⟩)]
noncomputable def b29_1 (x : g29_1.D) : Option (outD ((.normal, g29_1) :: o29_1)) :=
  (if ((decide (x.2.2.1 < (5 : Int))) = true) then (if ((0 : Int) ≤ x.2.2.1) then (if (x.2.2.1 < (((List.length x.1) : Nat) : Int)) then (some (Sum.inl (x.1, ((Go.IntKind.wrap Go.IntKind.i64 ((Go.IntKind.wrap Go.IntKind.i64 ((85 : Int) * x.2.1)) + (List.getD x.1 (Int.toNat x.2.2.1) (0 : Int)))), ((Go.IntKind.wrap Go.IntKind.i64 (x.2.2.1 + (1 : Int))), Unit.unit)))))
   else none)
   else none)
   else (some (Sum.inr (Sum.inl (x.2.1, Unit.unit)))))
theorem b29_1_eq (x : g29_1.D) : b29_1 x = evF P (T15.orc _) Go.Proofs.Try.f29.ntmps fx29 (Code.at [true, true, false, true, false, false] c29) (planAt 64 []) g29_1 x (injK fx29 ((.normal, g29_1) :: o29_1) some) := by kernel_rfl
noncomputable def l29_1 : g29_1.D → Option (outD o29_1) := loopN g29_1 o29_1 b29_1 18446744073709551616
theorem at29_1 : Code.at [true, true, false, true, false] c29 = .loop (Code.at [true, true, false, true, false, false] c29) := by kernel_rfl
theorem s29_1_ok : SubOk P Go.Proofs.Try.f29.ntmps fx29 (Code.at [true, true, false, true, false] c29) ⟨g29_1, o29_1, l29_1⟩ := by
  rw [at29_1]
  exact loop_ok (sub_ok (g := g29_1) (outs := ((.normal, g29_1) :: o29_1)) (f := b29_1) (Table.ok T15_ok _) hmix (planAt_ok (P := P) (n := Go.Proofs.Try.f29.ntmps) (fx := fx29) (any := true) (c := (Code.at [true, true, false, true, false, false] c29)) (d := 64) (l := []) trivial) b29_1_eq) rfl _
noncomputable def f29 (x : gi29.D) : Option go29.D :=
  (Option.bind (Go.Ev.Asc.l29_1 (x.1, ((0 : Int), ((0 : Int), Unit.unit)))) (Sum.elim (fun y1 => (some (y1.1, Unit.unit))) Empty.elim))
theorem f29_eq (x : gi29.D) : f29 x = evF P (T15.orc _) Go.Proofs.Try.f29.ntmps fx29 c29 (planAt 64 [([true, true, false, true, false], ⟨g29_1, o29_1, l29_1⟩)]) gi29 x (fnK fx29 [go29]) := by kernel_rfl
theorem pf29 : AllSub P Go.Proofs.Try.f29.ntmps fx29 true c29 [([true, true, false, true, false], ⟨g29_1, o29_1, l29_1⟩)] := And.intro s29_1_ok (trivial)
theorem qf29 : PlanOk P Go.Proofs.Try.f29.ntmps fx29 true (planAt 64 [([true, true, false, true, false], ⟨g29_1, o29_1, l29_1⟩)]) c29 := planAt_ok pf29
theorem f29_ok : EntOk P 29 ⟨gi29, [go29], f29⟩ :=
  ent_ok (fn := Go.Proofs.Try.f29) (gi := gi29) (gos := [go29]) (f := f29) (c := c29) (fx := fx29) ⟨Go.Proofs.Try.func29, by kernel_rfl, rfl, by decide +kernel, rfl, rfl⟩ (by kernel_rfl) (Table.ok T15_ok _) hmix (qf29) f29_eq
noncomputable def T29 : Table := T15.add 29 [⟨gi29, [go29], f29⟩] []
theorem T29_ok : TableOk P T29 := Table.plus T15_ok (es := [⟨gi29, [go29], f29⟩]) ⟨f29_ok, trivial⟩ []

/-! ## 30: erasure/erasureref10.four -/
noncomputable def c30 : Code := Func.code Go.Proofs.Try.f30
abbrev gi30 : Sg := ⟨[0, 1], [.lf (.int .i64), .lf (.int .i64)], []⟩
abbrev go30 : Sg := ⟨[4], [.lf (.vw (.int .u8) 0)], [some (.arr true (.int .u8))]⟩
def fx30 : List Bool := []
noncomputable def f30 (x : gi30.D) : Option go30.D :=
  (if ((0 : Int) ≤ x.2.1) then (if (x.2.1 ≤ (4 : Int)) then (some ((0 : Nat), (((Int.toNat x.2.1) - (0 : Nat)), ((List.set (List.set (List.set (List.set (List.replicate (4 : Nat) (0 : Int)) (0 : Nat) (Go.IntKind.wrap Go.IntKind.u8 (Int.tmod (Go.IntKind.wrap Go.IntKind.i64 (Int.tdiv x.1 (16777216 : Int))) (256 : Int)))) (1 : Nat) (Go.IntKind.wrap Go.IntKind.u8 (Int.tmod (Go.IntKind.wrap Go.IntKind.i64 (Int.tdiv x.1 (65536 : Int))) (256 : Int)))) (2 : Nat) (Go.IntKind.wrap Go.IntKind.u8 (Int.tmod (Go.IntKind.wrap Go.IntKind.i64 (Int.tdiv x.1 (256 : Int))) (256 : Int)))) (3 : Nat) (Go.IntKind.wrap Go.IntKind.u8 (Int.tmod x.1 (256 : Int)))), Unit.unit))))
   else none)
   else none)
theorem f30_eq (x : gi30.D) : f30 x = evF P (T29.orc _) Go.Proofs.Try.f30.ntmps fx30 c30 (planAt 64 []) gi30 x (fnK fx30 [go30]) := by kernel_rfl
theorem f30_ok : EntOk P 30 ⟨gi30, [go30], f30⟩ :=
  ent_ok (fn := Go.Proofs.Try.f30) (gi := gi30) (gos := [go30]) (f := f30) (c := c30) (fx := fx30) ⟨Go.Proofs.Try.func30, by kernel_rfl, rfl, by decide +kernel, rfl, rfl⟩ (by kernel_rfl) (Table.ok T29_ok _) hmix (planAt_ok (P := P) (n := Go.Proofs.Try.f30.ntmps) (fx := fx30) (any := true) (c := c30) (d := 64) (l := []) trivial) f30_eq
noncomputable def T30 : Table := T29.add 30 [⟨gi30, [go30], f30⟩] []
theorem T30_ok : TableOk P T30 := Table.plus T29_ok (es := [⟨gi30, [go30], f30⟩]) ⟨f30_ok, trivial⟩ []

/-! ## 17: erasure/erasureref10.Get -/
noncomputable def c17 : Code := Func.code Go.Proofs.Try.f17
abbrev gi17 : Sg := ⟨[0, 1], [.lf .str, .lf (.int .i64)], []⟩
abbrev go17 : Sg := ⟨[4, 5], [.lf (.sl (.int .u8)), .lf (.int .i64)], []⟩
def fx17 : List Bool := []
abbrev g17_4 : Sg := ⟨[0, 1, 6, 7, 8, 9, 10], [.lf .str, .lf (.int .i64), .lf (.int .i64), .lf (.gr (.int .u8) 0), .lf (.gr (.int .i64) 1), .lf (.int .i64), .lf (.int .u8)], [some (.arr true (.int .u8)), some (.arr true (.int .i64))]⟩
abbrev o17_4 : Outs := [(.normal, ⟨[0, 1, 6, 7, 8, 9, 10, 61], [.lf .str, .lf (.int .i64), .lf (.int .i64), .lf (.gr (.int .u8) 0), .lf (.gr (.int .i64) 1), .lf (.int .i64), .lf (.int .u8), .lf .bool], [some (.arr true (.int .u8)), some (.arr true (.int .i64))]⟩)]
noncomputable def b17_4 (x : g17_4.D) : Option (outD o17_4) :=
  (if ((x.2.2.2.2.1 == (122 : Int)) = true) then (if ((List.length x.2.2.2.2.2.1) = (List.length x.2.2.2.2.2.1)) then (if ((List.length x.2.2.2.2.2.2.1) = (List.length x.2.2.2.2.2.2.1)) then (some (Sum.inl (x.1, (x.2.1, (x.2.2.1, (x.2.2.2.1, (x.2.2.2.2.1, (((((List.length x.2.2.2.2.2.2.1) : Nat) : Int) == (0 : Int)), (x.2.2.2.2.2.1, (x.2.2.2.2.2.2.1, Unit.unit))))))))))
   else none)
   else none)
   else (if ((List.length x.2.2.2.2.2.1) = (List.length x.2.2.2.2.2.1)) then (if ((List.length x.2.2.2.2.2.2.1) = (List.length x.2.2.2.2.2.2.1)) then (some (Sum.inl (x.1, (x.2.1, (x.2.2.1, (x.2.2.2.1, (x.2.2.2.2.1, (false, (x.2.2.2.2.2.1, (x.2.2.2.2.2.2.1, Unit.unit))))))))))
   else none)
   else none))
theorem b17_4_eq (x : g17_4.D) : b17_4 x = evF P (T30.orc _) Go.Proofs.Try.f17.ntmps fx17 (Code.at [true, true, true, true, true, true, true, false, true, false, false, true, false, false, true, true, false, false] c17) (planAt 64 []) g17_4 x (injK fx17 o17_4 some) := by kernel_rfl
theorem s17_4_ok : SubOk P Go.Proofs.Try.f17.ntmps fx17 (Code.at [true, true, true, true, true, true, true, false, true, false, false, true, false, false, true, true, false, false] c17) ⟨g17_4, o17_4, b17_4⟩ :=
  sub_ok (g := g17_4) (outs := o17_4) (f := b17_4) (Table.ok T30_ok _) hmix (planAt_ok (P := P) (n := Go.Proofs.Try.f17.ntmps) (fx := fx17) (any := true) (c := (Code.at [true, true, true, true, true, true, true, false, true, false, false, true, false, false, true, true, false, false] c17)) (d := 64) (l := []) trivial) b17_4_eq
abbrev g17_3 : Sg := ⟨[1, 7, 8, 12], [.lf (.int .i64), .lf (.gr (.int .u8) 0), .lf (.gr (.int .i64) 1), .lf (.int .i64)], [some (.arr true (.int .u8)), some (.arr true (.int .i64))]⟩
abbrev o17_3 : Outs := [(.exit 4, ⟨[1, 7, 8, 12], [.lf (.int .i64), .lf (.gr (.int .u8) 0), .lf (.gr (.int .i64) 1), .lf (.int .i64)], [some (.arr true (.int .u8)), some (.arr true (.int .i64))]⟩)]
noncomputable def b17_3 (x : g17_3.D) : Option (outD ((.normal, g17_3) :: o17_3)) :=
  (if ((decide ((((List.length x.2.2.2.1) : Nat) : Int) < (5 : Int))) = true) then (if (((List.length (List.take (List.length x.2.2.2.1) (List.drop (0 : Nat) x.2.2.2.1))) + (1 : Nat)) ≤ (17592186044416 : Nat)) then (if ((List.length x.2.2.1) = (List.length x.2.2.1)) then (if ((List.length ((List.take (List.length x.2.2.2.1) (List.drop (0 : Nat) x.2.2.2.1)) ++ (List.take (1 : Nat) (List.drop (0 : Nat) (List.set (List.replicate (1 : Nat) (0 : Int)) (0 : Nat) (84 : Int)))))) = (List.length ((List.take (List.length x.2.2.2.1) (List.drop (0 : Nat) x.2.2.2.1)) ++ (List.take (1 : Nat) (List.drop (0 : Nat) (List.set (List.replicate (1 : Nat) (0 : Int)) (0 : Nat) (84 : Int))))))) then (some (Sum.inl (x.1, (x.2.1, (x.2.2.1, (((List.take (List.length x.2.2.2.1) (List.drop (0 : Nat) x.2.2.2.1)) ++ (List.take (1 : Nat) (List.drop (0 : Nat) (List.set (List.replicate (1 : Nat) (0 : Int)) (0 : Nat) (84 : Int))))), Unit.unit))))))
   else none)
   else none)
   else none)
   else (if ((List.length x.2.2.1) = (List.length x.2.2.1)) then (if ((List.length x.2.2.2.1) = (List.length x.2.2.2.1)) then (some (Sum.inr (Sum.inl (x.1, (x.2.1, (x.2.2.1, (x.2.2.2.1, Unit.unit)))))))
   else none)
   else none))
theorem b17_3_eq (x : g17_3.D) : b17_3 x = evF P (T30.orc _) Go.Proofs.Try.f17.ntmps fx17 (Code.at [true, true, true, true, true, true, true, true, true, true, false, true, false, false, false, false] c17) (planAt 64 []) g17_3 x (injK fx17 ((.normal, g17_3) :: o17_3) some) := by kernel_rfl
noncomputable def l17_3 : g17_3.D → Option (outD o17_3) := loopN g17_3 o17_3 b17_3 18446744073709551616
theorem at17_3 : Code.at [true, true, true, true, true, true, true, true, true, true, false, true, false, false, false] c17 = .loop (Code.at [true, true, true, true, true, true, true, true, true, true, false, true, false, false, false, false] c17) := by kernel_rfl
theorem s17_3_ok : SubOk P Go.Proofs.Try.f17.ntmps fx17 (Code.at [true, true, true, true, true, true, true, true, true, true, false, true, false, false, false] c17) ⟨g17_3, o17_3, l17_3⟩ := by
  rw [at17_3]
  exact loop_ok (sub_ok (g := g17_3) (outs := ((.normal, g17_3) :: o17_3)) (f := b17_3) (Table.ok T30_ok _) hmix (planAt_ok (P := P) (n := Go.Proofs.Try.f17.ntmps) (fx := fx17) (any := true) (c := (Code.at [true, true, true, true, true, true, true, true, true, true, false, true, false, false, false, false] c17)) (d := 64) (l := []) trivial) b17_3_eq) rfl _
abbrev g17_2 : Sg := ⟨[0, 1, 6, 7, 8, 9], [.lf .str, .lf (.int .i64), .lf (.int .i64), .lf (.gr (.int .u8) 0), .lf (.gr (.int .i64) 1), .lf (.int .i64)], [some (.arr true (.int .u8)), some (.arr true (.int .i64))]⟩
abbrev o17_2 : Outs := [(.exit 2, ⟨[1, 7, 8], [.lf (.int .i64), .lf (.gr (.int .u8) 0), .lf (.gr (.int .i64) 1)], [some (.arr true (.int .u8)), some (.arr true (.int .i64))]⟩), (.ret, ⟨[4, 5], [.lf (.sl (.int .u8)), .lf (.int .i64)], []⟩)]
noncomputable def b17_2 (x : g17_2.D) : Option (outD ((.normal, g17_2) :: o17_2)) :=
  (if ((decide (x.2.2.2.1 < x.2.2.1)) = true) then (if ((0 : Int) ≤ x.2.2.2.1) then (if (x.2.2.2.1 < (((ByteArray.size x.1) : Nat) : Int)) then (Option.bind (Go.Ev.Asc.f26 ((((UInt8.toNat (Array.getD (ByteArray.data x.1) (Int.toNat x.2.2.2.1) (0 : UInt8))) : Nat) : Int), Unit.unit)) (fun y1 => (if (y1.1 = true) then (if ((List.length x.2.2.2.2.1) = (List.length x.2.2.2.2.1)) then (if ((List.length x.2.2.2.2.2.1) = (List.length x.2.2.2.2.2.1)) then (some (Sum.inl (x.1, (x.2.1, (x.2.2.1, ((Go.IntKind.wrap Go.IntKind.i64 (x.2.2.2.1 + (1 : Int))), (x.2.2.2.2.1, (x.2.2.2.2.2.1, Unit.unit))))))))
   else none)
   else none)
   else (if ((List.length x.2.2.2.2.1) = (List.length x.2.2.2.2.1)) then (if ((List.length x.2.2.2.2.2.1) = (List.length x.2.2.2.2.2.1)) then (Option.bind (Go.Ev.Asc.b17_4 (x.1, (x.2.1, (x.2.2.1, (x.2.2.2.1, ((((UInt8.toNat (Array.getD (ByteArray.data x.1) (Int.toNat x.2.2.2.1) (0 : UInt8))) : Nat) : Int), (x.2.2.2.2.1, (x.2.2.2.2.2.1, Unit.unit)))))))) (Sum.elim (fun y2 => (if (y2.2.2.2.2.2.1 = true) then (if (((List.length (List.take (List.length y2.2.2.2.2.2.2.1) (List.drop (0 : Nat) y2.2.2.2.2.2.2.1))) + (4 : Nat)) ≤ (140737488355328 : Nat)) then (if ((List.length ((List.take (List.length y2.2.2.2.2.2.2.1) (List.drop (0 : Nat) y2.2.2.2.2.2.2.1)) ++ (List.take (4 : Nat) (List.drop (0 : Nat) (List.set (List.set (List.set (List.set (List.replicate (4 : Nat) (0 : Int)) (0 : Nat) (0 : Int)) (1 : Nat) (0 : Int)) (2 : Nat) (0 : Int)) (3 : Nat) (0 : Int)))))) = (List.length ((List.take (List.length y2.2.2.2.2.2.2.1) (List.drop (0 : Nat) y2.2.2.2.2.2.2.1)) ++ (List.take (4 : Nat) (List.drop (0 : Nat) (List.set (List.set (List.set (List.set (List.replicate (4 : Nat) (0 : Int)) (0 : Nat) (0 : Int)) (1 : Nat) (0 : Int)) (2 : Nat) (0 : Int)) (3 : Nat) (0 : Int))))))) then (if ((List.length y2.2.2.2.2.2.2.2.1) = (List.length y2.2.2.2.2.2.2.2.1)) then (some (Sum.inl (y2.1, (y2.2.1, (y2.2.2.1, ((Go.IntKind.wrap Go.IntKind.i64 (y2.2.2.2.1 + (1 : Int))), (((List.take (List.length y2.2.2.2.2.2.2.1) (List.drop (0 : Nat) y2.2.2.2.2.2.2.1)) ++ (List.take (4 : Nat) (List.drop (0 : Nat) (List.set (List.set (List.set (List.set (List.replicate (4 : Nat) (0 : Int)) (0 : Nat) (0 : Int)) (1 : Nat) (0 : Int)) (2 : Nat) (0 : Int)) (3 : Nat) (0 : Int))))), (y2.2.2.2.2.2.2.2.1, Unit.unit))))))))
   else none)
   else none)
   else none)
   else (if ((decide (y2.2.2.2.2.1 < (33 : Int))) = true) then (some (Sum.inr (Sum.inr (Sum.inl ([], ((4 : Int), Unit.unit))))))
   else (if ((decide (y2.2.2.2.2.1 > (117 : Int))) = true) then (some (Sum.inr (Sum.inr (Sum.inl ([], ((4 : Int), Unit.unit))))))
   else (if (((List.length (List.take (List.length y2.2.2.2.2.2.2.2.1) (List.drop (0 : Nat) y2.2.2.2.2.2.2.2.1))) + (List.length (List.take (1 : Nat) (List.drop (0 : Nat) (List.set (List.replicate (1 : Nat) (0 : Int)) (0 : Nat) (Go.IntKind.wrap Go.IntKind.i64 (Go.IntKind.wrap Go.IntKind.u8 (y2.2.2.2.2.1 - (33 : Int))))))))) ≤ (17592186044416 : Nat)) then (if (((((List.length ((List.take (List.length y2.2.2.2.2.2.2.2.1) (List.drop (0 : Nat) y2.2.2.2.2.2.2.2.1)) ++ (List.take (1 : Nat) (List.drop (0 : Nat) (List.set (List.replicate (1 : Nat) (0 : Int)) (0 : Nat) (Go.IntKind.wrap Go.IntKind.i64 (Go.IntKind.wrap Go.IntKind.u8 (y2.2.2.2.2.1 - (33 : Int))))))))) : Nat) : Int) == (5 : Int)) = true) then (Option.bind (Go.Ev.Asc.f29 ((List.take (List.length ((List.take (List.length y2.2.2.2.2.2.2.2.1) (List.drop (0 : Nat) y2.2.2.2.2.2.2.2.1)) ++ (List.take (1 : Nat) (List.drop (0 : Nat) (List.set (List.replicate (1 : Nat) (0 : Int)) (0 : Nat) (Go.IntKind.wrap Go.IntKind.i64 (Go.IntKind.wrap Go.IntKind.u8 (y2.2.2.2.2.1 - (33 : Int))))))))) (List.drop (0 : Nat) ((List.take (List.length y2.2.2.2.2.2.2.2.1) (List.drop (0 : Nat) y2.2.2.2.2.2.2.2.1)) ++ (List.take (1 : Nat) (List.drop (0 : Nat) (List.set (List.replicate (1 : Nat) (0 : Int)) (0 : Nat) (Go.IntKind.wrap Go.IntKind.i64 (Go.IntKind.wrap Go.IntKind.u8 (y2.2.2.2.2.1 - (33 : Int)))))))))), Unit.unit)) (fun y3 => (if ((decide (y3.1 > (4294967295 : Int))) = true) then (some (Sum.inr (Sum.inr (Sum.inl ([], ((4 : Int), Unit.unit))))))
   else (Option.bind (Go.Ev.Asc.f30 (y3.1, ((4 : Int), Unit.unit))) (fun y4 => (if (((List.length (List.take (List.length y2.2.2.2.2.2.2.1) (List.drop (0 : Nat) y2.2.2.2.2.2.2.1))) + (List.length (List.take y4.2.1 (List.drop y4.1 y4.2.2.1)))) ≤ (140737488355328 : Nat)) then (if ((List.length ((List.take (List.length y2.2.2.2.2.2.2.1) (List.drop (0 : Nat) y2.2.2.2.2.2.2.1)) ++ (List.take y4.2.1 (List.drop y4.1 y4.2.2.1)))) = (List.length ((List.take (List.length y2.2.2.2.2.2.2.1) (List.drop (0 : Nat) y2.2.2.2.2.2.2.1)) ++ (List.take y4.2.1 (List.drop y4.1 y4.2.2.1))))) then (some (Sum.inl (y2.1, (y2.2.1, (y2.2.2.1, ((Go.IntKind.wrap Go.IntKind.i64 (y2.2.2.2.1 + (1 : Int))), (((List.take (List.length y2.2.2.2.2.2.2.1) (List.drop (0 : Nat) y2.2.2.2.2.2.2.1)) ++ (List.take y4.2.1 (List.drop y4.1 y4.2.2.1))), ([], Unit.unit))))))))
   else none)
   else none))))))
   else (if ((List.length y2.2.2.2.2.2.2.1) = (List.length y2.2.2.2.2.2.2.1)) then (if ((List.length ((List.take (List.length y2.2.2.2.2.2.2.2.1) (List.drop (0 : Nat) y2.2.2.2.2.2.2.2.1)) ++ (List.take (1 : Nat) (List.drop (0 : Nat) (List.set (List.replicate (1 : Nat) (0 : Int)) (0 : Nat) (Go.IntKind.wrap Go.IntKind.i64 (Go.IntKind.wrap Go.IntKind.u8 (y2.2.2.2.2.1 - (33 : Int))))))))) = (List.length ((List.take (List.length y2.2.2.2.2.2.2.2.1) (List.drop (0 : Nat) y2.2.2.2.2.2.2.2.1)) ++ (List.take (1 : Nat) (List.drop (0 : Nat) (List.set (List.replicate (1 : Nat) (0 : Int)) (0 : Nat) (Go.IntKind.wrap Go.IntKind.i64 (Go.IntKind.wrap Go.IntKind.u8 (y2.2.2.2.2.1 - (33 : Int)))))))))) then (some (Sum.inl (y2.1, (y2.2.1, (y2.2.2.1, ((Go.IntKind.wrap Go.IntKind.i64 (y2.2.2.2.1 + (1 : Int))), (y2.2.2.2.2.2.2.1, (((List.take (List.length y2.2.2.2.2.2.2.2.1) (List.drop (0 : Nat) y2.2.2.2.2.2.2.2.1)) ++ (List.take (1 : Nat) (List.drop (0 : Nat) (List.set (List.replicate (1 : Nat) (0 : Int)) (0 : Nat) (Go.IntKind.wrap Go.IntKind.i64 (Go.IntKind.wrap Go.IntKind.u8 (y2.2.2.2.2.1 - (33 : Int)))))))), Unit.unit))))))))
   else none)
   else none))
   else none))))) Empty.elim))
   else none)
   else none))))
   else none)
   else none)
   else (if ((List.length x.2.2.2.2.1) = (List.length x.2.2.2.2.1)) then (if ((List.length x.2.2.2.2.2.1) = (List.length x.2.2.2.2.2.1)) then (some (Sum.inr (Sum.inl (x.2.1, (x.2.2.2.2.1, (x.2.2.2.2.2.1, Unit.unit))))))
   else none)
   else none))
theorem b17_2_eq (x : g17_2.D) : b17_2 x = evF P (T30.orc _) Go.Proofs.Try.f17.ntmps fx17 (Code.at [true, true, true, true, true, true, true, false, true, false, false] c17) (planAt 64 [([true, false, false, true, true, false, false], ⟨g17_4, o17_4, b17_4⟩)]) g17_2 x (injK fx17 ((.normal, g17_2) :: o17_2) some) := by kernel_rfl
noncomputable def l17_2 : g17_2.D → Option (outD o17_2) := loopN g17_2 o17_2 b17_2 18446744073709551616
theorem p17_2 : AllSub P Go.Proofs.Try.f17.ntmps fx17 true (Code.at [true, true, true, true, true, true, true, false, true, false, false] c17) [([true, false, false, true, true, false, false], ⟨g17_4, o17_4, b17_4⟩)] := And.intro s17_4_ok (trivial)
theorem q17_2 : PlanOk P Go.Proofs.Try.f17.ntmps fx17 true (planAt 64 [([true, false, false, true, true, false, false], ⟨g17_4, o17_4, b17_4⟩)]) (Code.at [true, true, true, true, true, true, true, false, true, false, false] c17) := planAt_ok p17_2
theorem at17_2 : Code.at [true, true, true, true, true, true, true, false, true, false] c17 = .loop (Code.at [true, true, true, true, true, true, true, false, true, false, false] c17) := by kernel_rfl
theorem s17_2_ok : SubOk P Go.Proofs.Try.f17.ntmps fx17 (Code.at [true, true, true, true, true, true, true, false, true, false] c17) ⟨g17_2, o17_2, l17_2⟩ := by
  rw [at17_2]
  exact loop_ok (sub_ok (g := g17_2) (outs := ((.normal, g17_2) :: o17_2)) (f := b17_2) (Table.ok T30_ok _) hmix (q17_2) b17_2_eq) rfl _
abbrev g17_1 : Sg := ⟨[0, 1, 6], [.lf .str, .lf (.int .i64), .lf (.int .i64)], []⟩
abbrev o17_1 : Outs := [(.exit 0, ⟨[0, 1, 6], [.lf .str, .lf (.int .i64), .lf (.int .i64)], []⟩)]
noncomputable def b17_1 (x : g17_1.D) : Option (outD ((.normal, g17_1) :: o17_1)) :=
  (if ((decide ((Go.IntKind.wrap Go.IntKind.i64 (x.2.2.1 + (1 : Int))) < (((ByteArray.size x.1) : Nat) : Int))) = true) then (if ((0 : Int) ≤ x.2.2.1) then (if (x.2.2.1 < (((ByteArray.size x.1) : Nat) : Int)) then (if (((((UInt8.toNat (Array.getD (ByteArray.data x.1) (Int.toNat x.2.2.1) (0 : UInt8))) : Nat) : Int) != (126 : Int)) = true) then (some (Sum.inl (x.1, (x.2.1, ((Go.IntKind.wrap Go.IntKind.i64 (x.2.2.1 + (1 : Int))), Unit.unit)))))
   else (if ((0 : Int) ≤ (Go.IntKind.wrap Go.IntKind.i64 (x.2.2.1 + (1 : Int)))) then (if ((Go.IntKind.wrap Go.IntKind.i64 (x.2.2.1 + (1 : Int))) < (((ByteArray.size x.1) : Nat) : Int)) then (if (((((UInt8.toNat (Array.getD (ByteArray.data x.1) (Int.toNat (Go.IntKind.wrap Go.IntKind.i64 (x.2.2.1 + (1 : Int)))) (0 : UInt8))) : Nat) : Int) != (62 : Int)) = true) then (some (Sum.inl (x.1, (x.2.1, ((Go.IntKind.wrap Go.IntKind.i64 (x.2.2.1 + (1 : Int))), Unit.unit)))))
   else (some (Sum.inr (Sum.inl (x.1, (x.2.1, (x.2.2.1, Unit.unit)))))))
   else none)
   else none))
   else none)
   else none)
   else (some (Sum.inr (Sum.inl (x.1, (x.2.1, (x.2.2.1, Unit.unit)))))))
theorem b17_1_eq (x : g17_1.D) : b17_1 x = evF P (T30.orc _) Go.Proofs.Try.f17.ntmps fx17 (Code.at [true, true, true, false, false, false] c17) (planAt 64 []) g17_1 x (injK fx17 ((.normal, g17_1) :: o17_1) some) := by kernel_rfl
noncomputable def l17_1 : g17_1.D → Option (outD o17_1) := loopN g17_1 o17_1 b17_1 18446744073709551616
theorem at17_1 : Code.at [true, true, true, false, false] c17 = .loop (Code.at [true, true, true, false, false, false] c17) := by kernel_rfl
theorem s17_1_ok : SubOk P Go.Proofs.Try.f17.ntmps fx17 (Code.at [true, true, true, false, false] c17) ⟨g17_1, o17_1, l17_1⟩ := by
  rw [at17_1]
  exact loop_ok (sub_ok (g := g17_1) (outs := ((.normal, g17_1) :: o17_1)) (f := b17_1) (Table.ok T30_ok _) hmix (planAt_ok (P := P) (n := Go.Proofs.Try.f17.ntmps) (fx := fx17) (any := true) (c := (Code.at [true, true, true, false, false, false] c17)) (d := 64) (l := []) trivial) b17_1_eq) rfl _
noncomputable def f17 (x : gi17.D) : Option go17.D :=
  (if ((decide (x.2.1 < (0 : Int))) = true) then (some ([], ((1 : Int), Unit.unit)))
   else (if ((decide (x.2.1 > (1048576 : Int))) = true) then (some ([], ((1 : Int), Unit.unit)))
   else (Option.bind (Go.Ev.Asc.l17_1 (x.1, (x.2.1, ((0 : Int), Unit.unit)))) (Sum.elim (fun y1 => (if ((decide ((Go.IntKind.wrap Go.IntKind.i64 (y1.2.2.1 + (1 : Int))) ≥ (((ByteArray.size y1.1) : Nat) : Int))) = true) then (some ([], ((4 : Int), Unit.unit)))
   else (Option.bind (Go.Ev.Asc.l17_2 (y1.1, (y1.2.1, (y1.2.2.1, ((0 : Int), ([], ([], Unit.unit))))))) (Sum.elim (fun y2 => (if (((((List.length y2.2.2.1) : Nat) : Int) == (1 : Int)) = true) then (some ([], ((4 : Int), Unit.unit)))
   else (if ((decide ((((List.length y2.2.2.1) : Nat) : Int) > (0 : Int))) = true) then (if ((List.length y2.2.1) = (List.length y2.2.1)) then (if ((List.length y2.2.2.1) = (List.length y2.2.2.1)) then (Option.bind (Go.Ev.Asc.l17_3 (y2.1, ((((List.length y2.2.2.1) : Nat) : Int), (y2.2.1, (y2.2.2.1, Unit.unit))))) (Sum.elim (fun y3 => (Option.bind (Go.Ev.Asc.f29 ((List.take (List.length y3.2.2.2.1) (List.drop (0 : Nat) y3.2.2.2.1)), Unit.unit)) (fun y4 => (if ((decide (y4.1 > (4294967295 : Int))) = true) then (some ([], ((4 : Int), Unit.unit)))
   else (Option.bind (Go.Ev.Asc.f30 (y4.1, ((Go.IntKind.wrap Go.IntKind.i64 (y3.2.1 - (1 : Int))), Unit.unit))) (fun y5 => (if (((List.length (List.take (List.length y3.2.2.1) (List.drop (0 : Nat) y3.2.2.1))) + (List.length (List.take y5.2.1 (List.drop y5.1 y5.2.2.1)))) ≤ (140737488355328 : Nat)) then (if ((decide ((((List.length ((List.take (List.length y3.2.2.1) (List.drop (0 : Nat) y3.2.2.1)) ++ (List.take y5.2.1 (List.drop y5.1 y5.2.2.1)))) : Nat) : Int) > y3.1)) = true) then (some ([], ((2 : Int), Unit.unit)))
   else (some ((List.take (List.length ((List.take (List.length y3.2.2.1) (List.drop (0 : Nat) y3.2.2.1)) ++ (List.take y5.2.1 (List.drop y5.1 y5.2.2.1)))) (List.drop (0 : Nat) ((List.take (List.length y3.2.2.1) (List.drop (0 : Nat) y3.2.2.1)) ++ (List.take y5.2.1 (List.drop y5.1 y5.2.2.1))))), ((0 : Int), Unit.unit))))
   else none))))))) Empty.elim))
   else none)
   else none)
   else (if ((decide ((((List.length y2.2.1) : Nat) : Int) > y2.1)) = true) then (some ([], ((2 : Int), Unit.unit)))
   else (some ((List.take (List.length y2.2.1) (List.drop (0 : Nat) y2.2.1)), ((0 : Int), Unit.unit))))))) (Sum.elim (fun y2 => (some (y2.1, (y2.2.1, Unit.unit)))) Empty.elim))))) Empty.elim))))
theorem f17_eq (x : gi17.D) : f17 x = evF P (T30.orc _) Go.Proofs.Try.f17.ntmps fx17 c17 (planAt 64 [([true, true, true, false, false], ⟨g17_1, o17_1, l17_1⟩), ([true, true, true, true, true, true, true, false, true, false], ⟨g17_2, o17_2, l17_2⟩), ([true, true, true, true, true, true, true, true, true, true, false, true, false, false, false], ⟨g17_3, o17_3, l17_3⟩)]) gi17 x (fnK fx17 [go17]) := by kernel_rfl
theorem pf17 : AllSub P Go.Proofs.Try.f17.ntmps fx17 true c17 [([true, true, true, false, false], ⟨g17_1, o17_1, l17_1⟩), ([true, true, true, true, true, true, true, false, true, false], ⟨g17_2, o17_2, l17_2⟩), ([true, true, true, true, true, true, true, true, true, true, false, true, false, false, false], ⟨g17_3, o17_3, l17_3⟩)] := And.intro s17_1_ok (And.intro s17_2_ok (And.intro s17_3_ok (trivial)))
theorem qf17 : PlanOk P Go.Proofs.Try.f17.ntmps fx17 true (planAt 64 [([true, true, true, false, false], ⟨g17_1, o17_1, l17_1⟩), ([true, true, true, true, true, true, true, false, true, false], ⟨g17_2, o17_2, l17_2⟩), ([true, true, true, true, true, true, true, true, true, true, false, true, false, false, false], ⟨g17_3, o17_3, l17_3⟩)]) c17 := planAt_ok pf17
theorem f17_ok : EntOk P 17 ⟨gi17, [go17], f17⟩ :=
  ent_ok (fn := Go.Proofs.Try.f17) (gi := gi17) (gos := [go17]) (f := f17) (c := c17) (fx := fx17) ⟨Go.Proofs.Try.func17, by kernel_rfl, rfl, by decide +kernel, rfl, rfl⟩ (by kernel_rfl) (Table.ok T30_ok _) hmix (qf17) f17_eq
noncomputable def T17 : Table := T30.add 17 [⟨gi17, [go17], f17⟩] []
theorem T17_ok : TableOk P T17 := Table.plus T30_ok (es := [⟨gi17, [go17], f17⟩]) ⟨f17_ok, trivial⟩ []

/-! ## 4: erasure/erasurelaw10.AsciiGets -/
noncomputable def c4 : Code := Func.code Go.Proofs.Try.f4
abbrev gi4 : Sg := ⟨[0, 1], [.lf .str, .lf (.int .i64)], []⟩
abbrev go4 : Sg := ⟨[4], [.lf .bool], []⟩
def fx4 : List Bool := []
noncomputable def f4 (x : gi4.D) : Option go4.D :=
  (if ((decide ((((ByteArray.size x.1) : Nat) : Int) > (500 : Int))) = true) then (some (true, Unit.unit))
   else (Option.bind (Go.Ev.Asc.f14 (x.1, (x.2.1, Unit.unit))) (fun y1 => (Option.bind (Go.Ev.Asc.f15 (x.1, (x.2.1, Unit.unit))) (fun y2 => (Option.bind (Go.Ev.Asc.f16 (x.1, (x.2.1, Unit.unit))) (fun y3 => (Option.bind (Go.Ev.Asc.f17 (x.1, (x.2.1, Unit.unit))) (fun y4 => (Option.bind (Go.Ev.Asc.f9 Unit.unit) (fun y5 => (if (y5.1 = true) then (if (((ByteArray.toList (ByteArray.mk (List.toArray (List.map (fun y6 => (UInt8.ofNat (Int.toNat y6))) y1.1)))) == (ByteArray.toList (ByteArray.mk (List.toArray (List.map (fun y6 => (UInt8.ofNat (Int.toNat y6))) y2.1))))) = true) then (if ((y1.2.1 == y2.2.1) = true) then (if (((ByteArray.toList (ByteArray.mk (List.toArray (List.map (fun y6 => (UInt8.ofNat (Int.toNat y6))) y3.1)))) == (ByteArray.toList (ByteArray.mk (List.toArray (List.map (fun y6 => (UInt8.ofNat (Int.toNat y6))) y4.1))))) = true) then (some ((y3.2.1 == y4.2.1), Unit.unit))
   else (some (false, Unit.unit)))
   else (some (false, Unit.unit)))
   else (some (false, Unit.unit)))
   else (some (false, Unit.unit))))))))))))))
theorem f4_eq (x : gi4.D) : f4 x = evF P (T17.orc _) Go.Proofs.Try.f4.ntmps fx4 c4 (planAt 64 []) gi4 x (fnK fx4 [go4]) := by kernel_rfl
theorem f4_ok : EntOk P 4 ⟨gi4, [go4], f4⟩ :=
  ent_ok (fn := Go.Proofs.Try.f4) (gi := gi4) (gos := [go4]) (f := f4) (c := c4) (fx := fx4) ⟨Go.Proofs.Try.func4, by kernel_rfl, rfl, by decide +kernel, rfl, rfl⟩ (by kernel_rfl) (Table.ok T17_ok _) hmix (planAt_ok (P := P) (n := Go.Proofs.Try.f4.ntmps) (fx := fx4) (any := true) (c := c4) (d := 64) (l := []) trivial) f4_eq
noncomputable def T4 : Table := T17.add 4 [⟨gi4, [go4], f4⟩] []
theorem T4_ok : TableOk P T4 := Table.plus T17_ok (es := [⟨gi4, [go4], f4⟩]) ⟨f4_ok, trivial⟩ []

/-! ## 5: erasure/erasurelaw10.AsciiBack -/
noncomputable def c5 : Code := Func.code Go.Proofs.Try.f5
abbrev gi5 : Sg := ⟨[0, 1, 2], [.lf (.sl (.int .u8)), .lf (.int .i64), .lf .str], []⟩
abbrev go5 : Sg := ⟨[6], [.lf .bool], []⟩
def fx5 : List Bool := []
noncomputable def f5 (x : gi5.D) : Option go5.D :=
  (if ((decide ((((List.length x.1) : Nat) : Int) > (500 : Int))) = true) then (some (true, Unit.unit))
   else (if ((decide ((((ByteArray.size x.2.2.1) : Nat) : Int) > (300 : Int))) = true) then (some (true, Unit.unit))
   else (if ((decide (x.2.1 < (0 : Int))) = true) then (some (true, Unit.unit))
   else (Option.bind (Go.Ev.Asc.f10 (x.1, Unit.unit)) (fun y1 => (Option.bind (Go.Ev.Asc.f12 (x.1, Unit.unit)) (fun y2 => (if ((decide ((((ByteArray.size y1.1) : Nat) : Int) < (1 : Int))) = true) then (some (false, Unit.unit))
   else (if ((decide ((((ByteArray.size y2.1) : Nat) : Int) < (2 : Int))) = true) then (some (false, Unit.unit))
   else (if ((((ByteArray.size y1.1) : Nat) : Int) = (0 : Int)) then none
   else (if ((Go.IntKind.wrap Go.IntKind.i64 ((((ByteArray.size y2.1) : Nat) : Int) - (1 : Int))) = (0 : Int)) then none
   else (if ((0 : Int) ≤ (Int.tmod x.2.1 (((ByteArray.size y1.1) : Nat) : Int))) then (if ((Int.tmod x.2.1 (((ByteArray.size y1.1) : Nat) : Int)) ≤ (((ByteArray.size y1.1) : Nat) : Int)) then (if (((ByteArray.size (ByteArray.extract y1.1 (0 : Nat) (Int.toNat (Int.tmod x.2.1 (((ByteArray.size y1.1) : Nat) : Int))))) + (2 : Nat)) ≤ (9223372036854775807 : Nat)) then (if ((0 : Int) ≤ (Int.tmod x.2.1 (((ByteArray.size y1.1) : Nat) : Int))) then (if ((Int.tmod x.2.1 (((ByteArray.size y1.1) : Nat) : Int)) ≤ (((ByteArray.size y1.1) : Nat) : Int)) then (if (((ByteArray.size ((ByteArray.extract y1.1 (0 : Nat) (Int.toNat (Int.tmod x.2.1 (((ByteArray.size y1.1) : Nat) : Int)))) ++ (ByteArray.mk #[32, 10]))) + (ByteArray.size (ByteArray.extract y1.1 (Int.toNat (Int.tmod x.2.1 (((ByteArray.size y1.1) : Nat) : Int))) (ByteArray.size y1.1)))) ≤ (9223372036854775807 : Nat)) then (if (((ByteArray.size (((ByteArray.extract y1.1 (0 : Nat) (Int.toNat (Int.tmod x.2.1 (((ByteArray.size y1.1) : Nat) : Int)))) ++ (ByteArray.mk #[32, 10])) ++ (ByteArray.extract y1.1 (Int.toNat (Int.tmod x.2.1 (((ByteArray.size y1.1) : Nat) : Int))) (ByteArray.size y1.1)))) + (ByteArray.size x.2.2.1)) ≤ (9223372036854775807 : Nat)) then (Option.bind (Go.Ev.Asc.f14 (((((ByteArray.extract y1.1 (0 : Nat) (Int.toNat (Int.tmod x.2.1 (((ByteArray.size y1.1) : Nat) : Int)))) ++ (ByteArray.mk #[32, 10])) ++ (ByteArray.extract y1.1 (Int.toNat (Int.tmod x.2.1 (((ByteArray.size y1.1) : Nat) : Int))) (ByteArray.size y1.1))) ++ x.2.2.1), ((500 : Int), Unit.unit))) (fun y3 => (if ((0 : Int) ≤ (Int.tmod x.2.1 (Go.IntKind.wrap Go.IntKind.i64 ((((ByteArray.size y2.1) : Nat) : Int) - (1 : Int))))) then (if ((Int.tmod x.2.1 (Go.IntKind.wrap Go.IntKind.i64 ((((ByteArray.size y2.1) : Nat) : Int) - (1 : Int)))) ≤ (((ByteArray.size y2.1) : Nat) : Int)) then (if (((ByteArray.size (ByteArray.extract y2.1 (0 : Nat) (Int.toNat (Int.tmod x.2.1 (Go.IntKind.wrap Go.IntKind.i64 ((((ByteArray.size y2.1) : Nat) : Int) - (1 : Int))))))) + (1 : Nat)) ≤ (9223372036854775807 : Nat)) then (if ((0 : Int) ≤ (Int.tmod x.2.1 (Go.IntKind.wrap Go.IntKind.i64 ((((ByteArray.size y2.1) : Nat) : Int) - (1 : Int))))) then (if ((Int.tmod x.2.1 (Go.IntKind.wrap Go.IntKind.i64 ((((ByteArray.size y2.1) : Nat) : Int) - (1 : Int)))) ≤ (((ByteArray.size y2.1) : Nat) : Int)) then (if (((ByteArray.size ((ByteArray.extract y2.1 (0 : Nat) (Int.toNat (Int.tmod x.2.1 (Go.IntKind.wrap Go.IntKind.i64 ((((ByteArray.size y2.1) : Nat) : Int) - (1 : Int)))))) ++ (ByteArray.mk #[9]))) + (ByteArray.size (ByteArray.extract y2.1 (Int.toNat (Int.tmod x.2.1 (Go.IntKind.wrap Go.IntKind.i64 ((((ByteArray.size y2.1) : Nat) : Int) - (1 : Int))))) (ByteArray.size y2.1)))) ≤ (9223372036854775807 : Nat)) then (if (((ByteArray.size (((ByteArray.extract y2.1 (0 : Nat) (Int.toNat (Int.tmod x.2.1 (Go.IntKind.wrap Go.IntKind.i64 ((((ByteArray.size y2.1) : Nat) : Int) - (1 : Int)))))) ++ (ByteArray.mk #[9])) ++ (ByteArray.extract y2.1 (Int.toNat (Int.tmod x.2.1 (Go.IntKind.wrap Go.IntKind.i64 ((((ByteArray.size y2.1) : Nat) : Int) - (1 : Int))))) (ByteArray.size y2.1)))) + (ByteArray.size x.2.2.1)) ≤ (9223372036854775807 : Nat)) then (Option.bind (Go.Ev.Asc.f16 (((((ByteArray.extract y2.1 (0 : Nat) (Int.toNat (Int.tmod x.2.1 (Go.IntKind.wrap Go.IntKind.i64 ((((ByteArray.size y2.1) : Nat) : Int) - (1 : Int)))))) ++ (ByteArray.mk #[9])) ++ (ByteArray.extract y2.1 (Int.toNat (Int.tmod x.2.1 (Go.IntKind.wrap Go.IntKind.i64 ((((ByteArray.size y2.1) : Nat) : Int) - (1 : Int))))) (ByteArray.size y2.1))) ++ x.2.2.1), ((500 : Int), Unit.unit))) (fun y4 => (Option.bind (Go.Ev.Asc.f9 Unit.unit) (fun y5 => (if (y5.1 = true) then (if ((y3.2.1 == (0 : Int)) = true) then (if ((y4.2.1 == y3.2.1) = true) then (if (((ByteArray.toList (ByteArray.mk (List.toArray (List.map (fun y6 => (UInt8.ofNat (Int.toNat y6))) y3.1)))) == (ByteArray.toList (ByteArray.mk (List.toArray (List.map (fun y6 => (UInt8.ofNat (Int.toNat y6))) x.1))))) = true) then (some (((ByteArray.toList (ByteArray.mk (List.toArray (List.map (fun y6 => (UInt8.ofNat (Int.toNat y6))) y4.1)))) == (ByteArray.toList (ByteArray.mk (List.toArray (List.map (fun y6 => (UInt8.ofNat (Int.toNat y6))) x.1))))), Unit.unit))
   else (some (false, Unit.unit)))
   else (some (false, Unit.unit)))
   else (some (false, Unit.unit)))
   else (some (false, Unit.unit)))))))
   else none)
   else none)
   else none)
   else none)
   else none)
   else none)
   else none)))
   else none)
   else none)
   else none)
   else none)
   else none)
   else none)
   else none))))))))))))
theorem f5_eq (x : gi5.D) : f5 x = evF P (T4.orc _) Go.Proofs.Try.f5.ntmps fx5 c5 (planAt 64 []) gi5 x (fnK fx5 [go5]) := by kernel_rfl
theorem f5_ok : EntOk P 5 ⟨gi5, [go5], f5⟩ :=
  ent_ok (fn := Go.Proofs.Try.f5) (gi := gi5) (gos := [go5]) (f := f5) (c := c5) (fx := fx5) ⟨Go.Proofs.Try.func5, by kernel_rfl, rfl, by decide +kernel, rfl, rfl⟩ (by kernel_rfl) (Table.ok T4_ok _) hmix (planAt_ok (P := P) (n := Go.Proofs.Try.f5.ntmps) (fx := fx5) (any := true) (c := c5) (d := 64) (l := []) trivial) f5_eq
noncomputable def T5 : Table := T4.add 5 [⟨gi5, [go5], f5⟩] []
theorem T5_ok : TableOk P T5 := Table.plus T4_ok (es := [⟨gi5, [go5], f5⟩]) ⟨f5_ok, trivial⟩ []

/-! ## 6: erasure/erasurelaw10.AsciiSizes -/
noncomputable def c6 : Code := Func.code Go.Proofs.Try.f6
abbrev gi6 : Sg := ⟨[0, 1], [.lf (.sl (.int .u8)), .lf (.int .i64)], []⟩
abbrev go6 : Sg := ⟨[4], [.lf .bool], []⟩
def fx6 : List Bool := []
abbrev g6_1 : Sg := ⟨[1, 5, 6, 7, 8], [.lf (.int .i64), .lf (.int .i64), .lf .str, .lf .str, .lf (.int .i64)], []⟩
abbrev o6_1 : Outs := [(.normal, ⟨[1, 5, 6, 7, 8], [.lf (.int .i64), .lf (.int .i64), .lf .str, .lf .str, .lf (.int .i64)], []⟩)]
noncomputable def b6_1 (x : g6_1.D) : Option (outD o6_1) :=
  (if ((decide (x.2.2.2.2.1 > (0 : Int))) = true) then (some (Sum.inl (x.1, (x.2.1, (x.2.2.1, (x.2.2.2.1, ((Go.IntKind.wrap Go.IntKind.i64 (x.2.2.2.2.1 + (1 : Int))), Unit.unit)))))))
   else (some (Sum.inl (x.1, (x.2.1, (x.2.2.1, (x.2.2.2.1, (x.2.2.2.2.1, Unit.unit))))))))
theorem b6_1_eq (x : g6_1.D) : b6_1 x = evF P (T5.orc _) Go.Proofs.Try.f6.ntmps fx6 (Code.at [true, true, true, true, true, true, false] c6) (planAt 64 []) g6_1 x (injK fx6 o6_1 some) := by kernel_rfl
theorem s6_1_ok : SubOk P Go.Proofs.Try.f6.ntmps fx6 (Code.at [true, true, true, true, true, true, false] c6) ⟨g6_1, o6_1, b6_1⟩ :=
  sub_ok (g := g6_1) (outs := o6_1) (f := b6_1) (Table.ok T5_ok _) hmix (planAt_ok (P := P) (n := Go.Proofs.Try.f6.ntmps) (fx := fx6) (any := true) (c := (Code.at [true, true, true, true, true, true, false] c6)) (d := 64) (l := []) trivial) b6_1_eq
noncomputable def f6 (x : gi6.D) : Option go6.D :=
  (if ((decide ((((List.length x.1) : Nat) : Int) > (500 : Int))) = true) then (some (true, Unit.unit))
   else (if ((decide (x.2.1 < (0 : Int))) = true) then (some (true, Unit.unit))
   else (if ((decide (x.2.1 > (1048576 : Int))) = true) then (some (true, Unit.unit))
   else (Option.bind (Go.Ev.Asc.f10 (x.1, Unit.unit)) (fun y1 => (Option.bind (Go.Ev.Asc.f12 (x.1, Unit.unit)) (fun y2 => (Option.bind (Go.Ev.Asc.b6_1 (x.2.1, ((((List.length x.1) : Nat) : Int), (y1.1, (y2.1, ((Int.tmod (((List.length x.1) : Nat) : Int) (4 : Int)), Unit.unit)))))) (Sum.elim (fun y3 => (Option.bind (Go.Ev.Asc.f14 (y3.2.2.1, (y3.1, Unit.unit))) (fun y4 => (Option.bind (Go.Ev.Asc.f16 (y3.2.2.2.1, (y3.1, Unit.unit))) (fun y5 => (Option.bind (Go.Ev.Asc.f9 Unit.unit) (fun y6 => (if (y6.1 = true) then (if (((((ByteArray.size y3.2.2.1) : Nat) : Int) == (Go.IntKind.wrap Go.IntKind.i64 ((Go.IntKind.wrap Go.IntKind.i64 ((2 : Int) * y3.2.1)) + (1 : Int)))) = true) then (if ((decide ((((ByteArray.size y3.2.2.2.1) : Nat) : Int) ≤ (Go.IntKind.wrap Go.IntKind.i64 ((Go.IntKind.wrap Go.IntKind.i64 ((Go.IntKind.wrap Go.IntKind.i64 ((Go.IntKind.wrap Go.IntKind.i64 (Int.tdiv y3.2.1 (4 : Int))) * (5 : Int))) + y3.2.2.2.2.1)) + (2 : Int))))) = true) then (if ((decide ((((ByteArray.size y3.2.2.2.1) : Nat) : Int) ≥ (Go.IntKind.wrap Go.IntKind.i64 ((Go.IntKind.wrap Go.IntKind.i64 ((Go.IntKind.wrap Go.IntKind.i64 (Int.tdiv y3.2.1 (4 : Int))) + y3.2.2.2.2.1)) + (2 : Int))))) = true) then (if (((y4.2.1 == (0 : Int)) == (decide (y3.1 ≥ y3.2.1))) = true) then (some (((y5.2.1 == (0 : Int)) == (decide (y3.1 ≥ y3.2.1))), Unit.unit))
   else (some (false, Unit.unit)))
   else (some (false, Unit.unit)))
   else (some (false, Unit.unit)))
   else (some (false, Unit.unit)))
   else (some (false, Unit.unit)))))))))) Empty.elim)))))))))
theorem f6_eq (x : gi6.D) : f6 x = evF P (T5.orc _) Go.Proofs.Try.f6.ntmps fx6 c6 (planAt 64 [([true, true, true, true, true, true, false], ⟨g6_1, o6_1, b6_1⟩)]) gi6 x (fnK fx6 [go6]) := by kernel_rfl
theorem pf6 : AllSub P Go.Proofs.Try.f6.ntmps fx6 true c6 [([true, true, true, true, true, true, false], ⟨g6_1, o6_1, b6_1⟩)] := And.intro s6_1_ok (trivial)
theorem qf6 : PlanOk P Go.Proofs.Try.f6.ntmps fx6 true (planAt 64 [([true, true, true, true, true, true, false], ⟨g6_1, o6_1, b6_1⟩)]) c6 := planAt_ok pf6
theorem f6_ok : EntOk P 6 ⟨gi6, [go6], f6⟩ :=
  ent_ok (fn := Go.Proofs.Try.f6) (gi := gi6) (gos := [go6]) (f := f6) (c := c6) (fx := fx6) ⟨Go.Proofs.Try.func6, by kernel_rfl, rfl, by decide +kernel, rfl, rfl⟩ (by kernel_rfl) (Table.ok T5_ok _) hmix (qf6) f6_eq
noncomputable def T6 : Table := T5.add 6 [⟨gi6, [go6], f6⟩] []
theorem T6_ok : TableOk P T6 := Table.plus T5_ok (es := [⟨gi6, [go6], f6⟩]) ⟨f6_ok, trivial⟩ []

/-! ## 7: erasure/erasurelaw10.AsciiNoughts -/
noncomputable def c7 : Code := Func.code Go.Proofs.Try.f7
abbrev gi7 : Sg := ⟨[0], [.lf (.int .i64)], []⟩
abbrev go7 : Sg := ⟨[2], [.lf .bool], []⟩
def fx7 : List Bool := []
abbrev g7_1 : Sg := ⟨[0, 3, 4, 5, 6], [.lf (.int .i64), .lf .str, .lf (.sl (.int .u8)), .lf (.int .i64), .lf (.int .i64)], []⟩
abbrev o7_1 : Outs := [(.exit 0, ⟨[0, 3, 4, 5], [.lf (.int .i64), .lf .str, .lf (.sl (.int .u8)), .lf (.int .i64)], []⟩), (.ret, ⟨[2], [.lf .bool], []⟩)]
noncomputable def b7_1 (x : g7_1.D) : Option (outD ((.normal, g7_1) :: o7_1)) :=
  (if ((decide (x.2.2.2.2.1 < (((ByteArray.size x.2.1) : Nat) : Int))) = true) then (if ((decide (x.2.2.2.2.1 ≥ (Go.IntKind.wrap Go.IntKind.i64 (Int.tdiv x.1 (4 : Int))))) = true) then (if ((decide (x.2.2.2.2.1 ≥ (Go.IntKind.wrap Go.IntKind.i64 ((((ByteArray.size x.2.1) : Nat) : Int) - (2 : Int))))) = true) then (if ((0 : Int) ≤ (Go.IntKind.wrap Go.IntKind.i64 ((Go.IntKind.wrap Go.IntKind.i64 (x.2.2.2.2.1 - (((ByteArray.size x.2.1) : Nat) : Int))) + (2 : Int)))) then (if ((Go.IntKind.wrap Go.IntKind.i64 ((Go.IntKind.wrap Go.IntKind.i64 (x.2.2.2.2.1 - (((ByteArray.size x.2.1) : Nat) : Int))) + (2 : Int))) < (2 : Int)) then (if ((0 : Int) ≤ x.2.2.2.2.1) then (if (x.2.2.2.2.1 < (((ByteArray.size x.2.1) : Nat) : Int)) then (if (((((UInt8.toNat (Array.getD (ByteArray.data x.2.1) (Int.toNat x.2.2.2.2.1) (0 : UInt8))) : Nat) : Int) != (((UInt8.toNat (Array.getD (ByteArray.data (ByteArray.mk #[126, 62])) (Int.toNat (Go.IntKind.wrap Go.IntKind.i64 ((Go.IntKind.wrap Go.IntKind.i64 (x.2.2.2.2.1 - (((ByteArray.size x.2.1) : Nat) : Int))) + (2 : Int)))) (0 : UInt8))) : Nat) : Int)) = true) then (some (Sum.inr (Sum.inr (Sum.inl (false, Unit.unit)))))
   else (some (Sum.inl (x.1, (x.2.1, (x.2.2.1, (x.2.2.2.1, ((Go.IntKind.wrap Go.IntKind.i64 (x.2.2.2.2.1 + (1 : Int))), Unit.unit))))))))
   else none)
   else none)
   else none)
   else none)
   else (if ((0 : Int) ≤ x.2.2.2.2.1) then (if (x.2.2.2.2.1 < (((ByteArray.size x.2.1) : Nat) : Int)) then (if (((((UInt8.toNat (Array.getD (ByteArray.data x.2.1) (Int.toNat x.2.2.2.2.1) (0 : UInt8))) : Nat) : Int) != (33 : Int)) = true) then (some (Sum.inr (Sum.inr (Sum.inl (false, Unit.unit)))))
   else (some (Sum.inl (x.1, (x.2.1, (x.2.2.1, (x.2.2.2.1, ((Go.IntKind.wrap Go.IntKind.i64 (x.2.2.2.2.1 + (1 : Int))), Unit.unit))))))))
   else none)
   else none))
   else (if ((decide (x.2.2.2.2.1 ≥ (Go.IntKind.wrap Go.IntKind.i64 ((((ByteArray.size x.2.1) : Nat) : Int) - (2 : Int))))) = true) then (if ((0 : Int) ≤ (Go.IntKind.wrap Go.IntKind.i64 ((Go.IntKind.wrap Go.IntKind.i64 (x.2.2.2.2.1 - (((ByteArray.size x.2.1) : Nat) : Int))) + (2 : Int)))) then (if ((Go.IntKind.wrap Go.IntKind.i64 ((Go.IntKind.wrap Go.IntKind.i64 (x.2.2.2.2.1 - (((ByteArray.size x.2.1) : Nat) : Int))) + (2 : Int))) < (2 : Int)) then (if ((0 : Int) ≤ x.2.2.2.2.1) then (if (x.2.2.2.2.1 < (((ByteArray.size x.2.1) : Nat) : Int)) then (if (((((UInt8.toNat (Array.getD (ByteArray.data x.2.1) (Int.toNat x.2.2.2.2.1) (0 : UInt8))) : Nat) : Int) != (((UInt8.toNat (Array.getD (ByteArray.data (ByteArray.mk #[126, 62])) (Int.toNat (Go.IntKind.wrap Go.IntKind.i64 ((Go.IntKind.wrap Go.IntKind.i64 (x.2.2.2.2.1 - (((ByteArray.size x.2.1) : Nat) : Int))) + (2 : Int)))) (0 : UInt8))) : Nat) : Int)) = true) then (some (Sum.inr (Sum.inr (Sum.inl (false, Unit.unit)))))
   else (some (Sum.inl (x.1, (x.2.1, (x.2.2.1, (x.2.2.2.1, ((Go.IntKind.wrap Go.IntKind.i64 (x.2.2.2.2.1 + (1 : Int))), Unit.unit))))))))
   else none)
   else none)
   else none)
   else none)
   else (if ((0 : Int) ≤ x.2.2.2.2.1) then (if (x.2.2.2.2.1 < (((ByteArray.size x.2.1) : Nat) : Int)) then (if (((((UInt8.toNat (Array.getD (ByteArray.data x.2.1) (Int.toNat x.2.2.2.2.1) (0 : UInt8))) : Nat) : Int) != (122 : Int)) = true) then (some (Sum.inr (Sum.inr (Sum.inl (false, Unit.unit)))))
   else (some (Sum.inl (x.1, (x.2.1, (x.2.2.1, (x.2.2.2.1, ((Go.IntKind.wrap Go.IntKind.i64 (x.2.2.2.2.1 + (1 : Int))), Unit.unit))))))))
   else none)
   else none)))
   else (some (Sum.inr (Sum.inl (x.1, (x.2.1, (x.2.2.1, (x.2.2.2.1, Unit.unit))))))))
theorem b7_1_eq (x : g7_1.D) : b7_1 x = evF P (T6.orc _) Go.Proofs.Try.f7.ntmps fx7 (Code.at [true, true, true, true, false, true, false, false] c7) (planAt 64 []) g7_1 x (injK fx7 ((.normal, g7_1) :: o7_1) some) := by kernel_rfl
noncomputable def l7_1 : g7_1.D → Option (outD o7_1) := loopN g7_1 o7_1 b7_1 18446744073709551616
theorem at7_1 : Code.at [true, true, true, true, false, true, false] c7 = .loop (Code.at [true, true, true, true, false, true, false, false] c7) := by kernel_rfl
theorem s7_1_ok : SubOk P Go.Proofs.Try.f7.ntmps fx7 (Code.at [true, true, true, true, false, true, false] c7) ⟨g7_1, o7_1, l7_1⟩ := by
  rw [at7_1]
  exact loop_ok (sub_ok (g := g7_1) (outs := ((.normal, g7_1) :: o7_1)) (f := b7_1) (Table.ok T6_ok _) hmix (planAt_ok (P := P) (n := Go.Proofs.Try.f7.ntmps) (fx := fx7) (any := true) (c := (Code.at [true, true, true, true, false, true, false, false] c7)) (d := 64) (l := []) trivial) b7_1_eq) rfl _
noncomputable def f7 (x : gi7.D) : Option go7.D :=
  (if ((decide (x.1 < (0 : Int))) = true) then (some (true, Unit.unit))
   else (if ((decide (x.1 > (400 : Int))) = true) then (some (true, Unit.unit))
   else (if ((0 : Int) ≤ x.1) then (if (x.1 ≤ x.1) then (if (x.1 ≤ (281474976710656 : Int)) then (Option.bind (Go.Ev.Asc.f12 ((List.take (Int.toNat x.1) (List.drop (0 : Nat) (List.replicate (Int.toNat x.1) (0 : Int)))), Unit.unit)) (fun y1 => (Option.bind (Go.Ev.Asc.f16 (y1.1, ((400 : Int), Unit.unit))) (fun y2 => (Option.bind (Go.Ev.Asc.l7_1 (x.1, (y1.1, (y2.1, (y2.2.1, ((0 : Int), Unit.unit)))))) (Sum.elim (fun y3 => (if ((decide ((Int.tmod y3.1 (4 : Int)) > (0 : Int))) = true) then (Option.bind (Go.Ev.Asc.f9 Unit.unit) (fun y4 => (if (y4.1 = true) then (if ((y3.2.2.2.1 == (0 : Int)) = true) then (if ((0 : Int) ≤ y3.1) then (if (y3.1 ≤ y3.1) then (if (y3.1 ≤ (281474976710656 : Int)) then (if (((ByteArray.toList (ByteArray.mk (List.toArray (List.map (fun y5 => (UInt8.ofNat (Int.toNat y5))) y3.2.2.1)))) == (ByteArray.toList (ByteArray.mk (List.toArray (List.map (fun y5 => (UInt8.ofNat (Int.toNat y5))) (List.take (Int.toNat y3.1) (List.drop (0 : Nat) (List.replicate (Int.toNat y3.1) (0 : Int))))))))) = true) then (some (((((ByteArray.size y3.2.1) : Nat) : Int) == (Go.IntKind.wrap Go.IntKind.i64 ((Go.IntKind.wrap Go.IntKind.i64 ((Go.IntKind.wrap Go.IntKind.i64 (Int.tdiv y3.1 (4 : Int))) + (Go.IntKind.wrap Go.IntKind.i64 ((Int.tmod y3.1 (4 : Int)) + (1 : Int))))) + (2 : Int)))), Unit.unit))
   else (some (false, Unit.unit)))
   else none)
   else none)
   else none)
   else (some (false, Unit.unit)))
   else (some (false, Unit.unit)))))
   else (Option.bind (Go.Ev.Asc.f9 Unit.unit) (fun y4 => (if (y4.1 = true) then (if ((y3.2.2.2.1 == (0 : Int)) = true) then (if ((0 : Int) ≤ y3.1) then (if (y3.1 ≤ y3.1) then (if (y3.1 ≤ (281474976710656 : Int)) then (if (((ByteArray.toList (ByteArray.mk (List.toArray (List.map (fun y5 => (UInt8.ofNat (Int.toNat y5))) y3.2.2.1)))) == (ByteArray.toList (ByteArray.mk (List.toArray (List.map (fun y5 => (UInt8.ofNat (Int.toNat y5))) (List.take (Int.toNat y3.1) (List.drop (0 : Nat) (List.replicate (Int.toNat y3.1) (0 : Int))))))))) = true) then (some (((((ByteArray.size y3.2.1) : Nat) : Int) == (Go.IntKind.wrap Go.IntKind.i64 ((Go.IntKind.wrap Go.IntKind.i64 ((Go.IntKind.wrap Go.IntKind.i64 (Int.tdiv y3.1 (4 : Int))) + (0 : Int))) + (2 : Int)))), Unit.unit))
   else (some (false, Unit.unit)))
   else none)
   else none)
   else none)
   else (some (false, Unit.unit)))
   else (some (false, Unit.unit))))))) (Sum.elim (fun y3 => (some (y3.1, Unit.unit))) Empty.elim)))))))
   else none)
   else none)
   else none)))
theorem f7_eq (x : gi7.D) : f7 x = evF P (T6.orc _) Go.Proofs.Try.f7.ntmps fx7 c7 (planAt 64 [([true, true, true, true, false, true, false], ⟨g7_1, o7_1, l7_1⟩)]) gi7 x (fnK fx7 [go7]) := by kernel_rfl
theorem pf7 : AllSub P Go.Proofs.Try.f7.ntmps fx7 true c7 [([true, true, true, true, false, true, false], ⟨g7_1, o7_1, l7_1⟩)] := And.intro s7_1_ok (trivial)
theorem qf7 : PlanOk P Go.Proofs.Try.f7.ntmps fx7 true (planAt 64 [([true, true, true, true, false, true, false], ⟨g7_1, o7_1, l7_1⟩)]) c7 := planAt_ok pf7
theorem f7_ok : EntOk P 7 ⟨gi7, [go7], f7⟩ :=
  ent_ok (fn := Go.Proofs.Try.f7) (gi := gi7) (gos := [go7]) (f := f7) (c := c7) (fx := fx7) ⟨Go.Proofs.Try.func7, by kernel_rfl, rfl, by decide +kernel, rfl, rfl⟩ (by kernel_rfl) (Table.ok T6_ok _) hmix (qf7) f7_eq
noncomputable def T7 : Table := T6.add 7 [⟨gi7, [go7], f7⟩] []
theorem T7_ok : TableOk P T7 := Table.plus T6_ok (es := [⟨gi7, [go7], f7⟩]) ⟨f7_ok, trivial⟩ []

end Go.Ev.Asc
