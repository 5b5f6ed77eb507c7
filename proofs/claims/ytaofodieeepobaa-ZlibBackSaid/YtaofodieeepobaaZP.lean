/- Part of a proof about the given program: ZP. -/
import Derived.Test.YtaofodieeepobaaZP1
namespace Go.Ev.Zlib
open Go.Ev
set_option maxRecDepth 1000000
abbrev gi86_b : Sg := ⟨[0, 1], [.lf (.ptr 0 0), .lf (.ptr 2 0)], [some (.box true [.many (.int .i64) 16, .lf (.sl (.int .i64)), .lf (.sl (.int .i64)), .lf (.gr (.int .i64) 1)]), some (.arr true (.int .i64)), some (.box true [.lf (.sl (.int .u8)), .lf (.int .i64), .lf (.int .i64), .lf (.int .i64)])]⟩
abbrev go86_b : Sg := ⟨[4, 5], [.lf (.int .i64), .lf (.int .i64)], [some (.box true [.many (.int .i64) 16, .lf (.sl (.int .i64)), .lf (.sl (.int .i64)), .lf (.gr (.int .i64) 1)]), some (.arr true (.int .i64)), some (.box true [.lf (.sl (.int .u8)), .lf (.int .i64), .lf (.int .i64), .lf (.int .i64)])]⟩
def fx86_b : List Bool := [true, true, true]
abbrev g86_b_2 : Sg := ⟨[0, 1, 6, 7, 8, 9, 12], [.lf (.ptr 0 0), .lf (.ptr 2 0), .lf (.int .i64), .lf (.int .i64), .lf (.int .i64), .lf (.int .i64), .lf (.int .i64)], [some (.box true [.many (.int .i64) 16, .lf (.sl (.int .i64)), .lf (.sl (.int .i64)), .lf (.gr (.int .i64) 1)]), some (.arr true (.int .i64)), some (.box true [.lf (.sl (.int .u8)), .lf (.int .i64), .lf (.int .i64), .lf (.int .i64)])]⟩
abbrev o86_b_2 : Outs := [(.normal, ⟨[0, 1, 6, 7, 8, 9, 12, 51], [.lf (.ptr 0 0), .lf (.ptr 2 0), .lf (.int .i64), .lf (.int .i64), .lf (.int .i64), .lf (.int .i64), .lf (.int .i64), .lf .bool], [some (.box true [.many (.int .i64) 16, .lf (.sl (.int .i64)), .lf (.sl (.int .i64)), .lf (.gr (.int .i64) 1)]), some (.arr true (.int .i64)), some (.box true [.lf (.sl (.int .u8)), .lf (.int .i64), .lf (.int .i64), .lf (.int .i64)])]⟩)]
noncomputable def b86_b_2 (x : g86_b_2.D) : Option (outD o86_b_2) :=
  (if ((decide (x.2.2.2.2.1 ≥ (0 : Int))) = true) then (if ((0 : Int) ≤ x.2.2.2.1) then (if (x.2.2.2.1 < (16 : Int)) then (if ((List.length x.2.2.2.2.2.2.2.2.1) = (List.length x.2.2.2.2.2.2.2.2.1)) then (some (Sum.inl (x.1, (x.2.1, (x.2.2.1, (x.2.2.2.1, (x.2.2.2.2.1, ((decide (x.2.2.2.2.1 < (List.getD x.2.2.2.2.2.1 (Int.toNat x.2.2.2.1) (0 : Int)))), (x.2.2.2.2.2.1, (x.2.2.2.2.2.2.1, (x.2.2.2.2.2.2.2.1, (x.2.2.2.2.2.2.2.2.1, (x.2.2.2.2.2.2.2.2.2.1, (x.2.2.2.2.2.2.2.2.2.2.1, (x.2.2.2.2.2.2.2.2.2.2.2.1, (x.2.2.2.2.2.2.2.2.2.2.2.2.1, Unit.unit))))))))))))))))
   else none)
   else none)
   else none)
   else (if ((List.length x.2.2.2.2.2.2.2.2.1) = (List.length x.2.2.2.2.2.2.2.2.1)) then (some (Sum.inl (x.1, (x.2.1, (x.2.2.1, (x.2.2.2.1, (x.2.2.2.2.1, (false, (x.2.2.2.2.2.1, (x.2.2.2.2.2.2.1, (x.2.2.2.2.2.2.2.1, (x.2.2.2.2.2.2.2.2.1, (x.2.2.2.2.2.2.2.2.2.1, (x.2.2.2.2.2.2.2.2.2.2.1, (x.2.2.2.2.2.2.2.2.2.2.2.1, (x.2.2.2.2.2.2.2.2.2.2.2.2.1, Unit.unit))))))))))))))))
   else none))
theorem b86_b_2_eq (x : g86_b_2.D) : b86_b_2 x = evF P (T52.orc _) Go.Proofs.Try.f86.ntmps fx86_b (Code.at [true, true, true, false, true, false, false, true, false, false, true, true, true, false, true, false] c86) (planAt 64 []) g86_b_2 x (injK fx86_b o86_b_2 some) := by kernel_rfl
theorem s86_b_2_ok : SubOk P Go.Proofs.Try.f86.ntmps fx86_b (Code.at [true, true, true, false, true, false, false, true, false, false, true, true, true, false, true, false] c86) ⟨g86_b_2, o86_b_2, b86_b_2⟩ :=
  sub_ok (g := g86_b_2) (outs := o86_b_2) (f := b86_b_2) (Table.ok T52_ok _) hmix (planAt_ok (P := P) (n := Go.Proofs.Try.f86.ntmps) (fx := fx86_b) (c := (Code.at [true, true, true, false, true, false, false, true, false, false, true, true, true, false, true, false] c86)) (d := 64) (l := []) trivial) b86_b_2_eq
abbrev g86_b_1 : Sg := ⟨[0, 1, 6, 7, 8, 9], [.lf (.ptr 0 0), .lf (.ptr 2 0), .lf (.int .i64), .lf (.int .i64), .lf (.int .i64), .lf (.int .i64)], [some (.box true [.many (.int .i64) 16, .lf (.sl (.int .i64)), .lf (.sl (.int .i64)), .lf (.gr (.int .i64) 1)]), some (.arr true (.int .i64)), some (.box true [.lf (.sl (.int .u8)), .lf (.int .i64), .lf (.int .i64), .lf (.int .i64)])]⟩
abbrev o86_b_1 : Outs := [(.exit 0, ⟨[], [], [some (.box true [.many (.int .i64) 16, .lf (.sl (.int .i64)), .lf (.sl (.int .i64)), .lf (.gr (.int .i64) 1)]), some (.arr true (.int .i64)), some (.box true [.lf (.sl (.int .u8)), .lf (.int .i64), .lf (.int .i64), .lf (.int .i64)])]⟩), (.ret, ⟨[4, 5], [.lf (.int .i64), .lf (.int .i64)], [some (.box true [.many (.int .i64) 16, .lf (.sl (.int .i64)), .lf (.sl (.int .i64)), .lf (.gr (.int .i64) 1)]), some (.arr true (.int .i64)), some (.box true [.lf (.sl (.int .u8)), .lf (.int .i64), .lf (.int .i64), .lf (.int .i64)])]⟩)]
noncomputable def b86_b_1 (x : g86_b_1.D) : Option (outD ((.normal, g86_b_1) :: o86_b_1)) :=
  (if ((decide (x.2.2.2.1 ≤ (15 : Int))) = true) then (Option.bind (Go.Ev.Zlib.f72 ((1 : Int), (x.2.2.2.2.2.2.2.2.1, (x.2.2.2.2.2.2.2.2.2.1, (x.2.2.2.2.2.2.2.2.2.2.1, (x.2.2.2.2.2.2.2.2.2.2.2.1, Unit.unit)))))) (fun y1 => (if ((y1.2.1 != (0 : Int)) = true) then (if ((List.length x.2.2.2.2.2.2.2.1) = (List.length x.2.2.2.2.2.2.2.1)) then (some (Sum.inr (Sum.inr (Sum.inl ((0 : Int), (y1.2.1, (x.2.2.2.2.1, (x.2.2.2.2.2.1, (x.2.2.2.2.2.2.1, (x.2.2.2.2.2.2.2.1, (y1.2.2.1, (y1.2.2.2.1, (y1.2.2.2.2.1, (y1.2.2.2.2.2.1, Unit.unit))))))))))))))
   else none)
   else (if ((List.length x.2.2.2.2.2.2.2.1) = (List.length x.2.2.2.2.2.2.2.1)) then (Option.bind (Go.Ev.Zlib.b86_b_2 ((Go.IntKind.wrap Go.IntKind.i64 (((BitVec.toNat ((BitVec.ofInt (64 : Nat) (Go.IntKind.wrap Go.IntKind.i64 (x.1 * (2 : Int)))) ||| (BitVec.ofInt (64 : Nat) y1.1))) : Nat) : Int)), ((Go.IntKind.wrap Go.IntKind.i64 (x.2.1 * (2 : Int))), (x.2.2.1, (x.2.2.2.1, ((Go.IntKind.wrap Go.IntKind.i64 ((Go.IntKind.wrap Go.IntKind.i64 (((BitVec.toNat ((BitVec.ofInt (64 : Nat) (Go.IntKind.wrap Go.IntKind.i64 (x.1 * (2 : Int)))) ||| (BitVec.ofInt (64 : Nat) y1.1))) : Nat) : Int)) - (Go.IntKind.wrap Go.IntKind.i64 (x.2.1 * (2 : Int))))), (x.2.2.2.2.1, (x.2.2.2.2.2.1, (x.2.2.2.2.2.2.1, (x.2.2.2.2.2.2.2.1, (y1.2.2.1, (y1.2.2.2.1, (y1.2.2.2.2.1, (y1.2.2.2.2.2.1, Unit.unit)))))))))))))) (Sum.elim (fun y2 => (if (y2.2.2.2.2.2.1 = true) then (if ((0 : Int) ≤ (Go.IntKind.wrap Go.IntKind.i64 (y2.2.2.1 + y2.2.2.2.2.1))) then (if ((Go.IntKind.wrap Go.IntKind.i64 (y2.2.2.1 + y2.2.2.2.2.1)) < (((List.length y2.2.2.2.2.2.2.2.2.2.1) : Nat) : Int)) then (if ((List.length y2.2.2.2.2.2.2.2.2.2.1) = (List.length y2.2.2.2.2.2.2.2.2.2.1)) then (some (Sum.inr (Sum.inr (Sum.inl ((List.getD y2.2.2.2.2.2.2.2.2.2.1 ((0 : Nat) + (Int.toNat (Go.IntKind.wrap Go.IntKind.i64 (y2.2.2.1 + y2.2.2.2.2.1)))) (0 : Int)), ((0 : Int), (y2.2.2.2.2.2.2.1, (y2.2.2.2.2.2.2.2.1, (y2.2.2.2.2.2.2.2.2.1, (y2.2.2.2.2.2.2.2.2.2.1, (y2.2.2.2.2.2.2.2.2.2.2.1, (y2.2.2.2.2.2.2.2.2.2.2.2.1, (y2.2.2.2.2.2.2.2.2.2.2.2.2.1, (y2.2.2.2.2.2.2.2.2.2.2.2.2.2.1, Unit.unit))))))))))))))
   else none)
   else none)
   else none)
   else (if ((0 : Int) ≤ y2.2.2.2.1) then (if (y2.2.2.2.1 < (16 : Int)) then (if ((0 : Int) ≤ y2.2.2.2.1) then (if (y2.2.2.2.1 < (16 : Int)) then (if ((List.length y2.2.2.2.2.2.2.2.2.2.1) = (List.length y2.2.2.2.2.2.2.2.2.2.1)) then (some (Sum.inl (y2.1, ((Go.IntKind.wrap Go.IntKind.i64 (y2.2.1 + (List.getD y2.2.2.2.2.2.2.1 (Int.toNat y2.2.2.2.1) (0 : Int)))), ((Go.IntKind.wrap Go.IntKind.i64 (y2.2.2.1 + (List.getD y2.2.2.2.2.2.2.1 (Int.toNat y2.2.2.2.1) (0 : Int)))), ((Go.IntKind.wrap Go.IntKind.i64 (y2.2.2.2.1 + (1 : Int))), (y2.2.2.2.2.2.2.1, (y2.2.2.2.2.2.2.2.1, (y2.2.2.2.2.2.2.2.2.1, (y2.2.2.2.2.2.2.2.2.2.1, (y2.2.2.2.2.2.2.2.2.2.2.1, (y2.2.2.2.2.2.2.2.2.2.2.2.1, (y2.2.2.2.2.2.2.2.2.2.2.2.2.1, (y2.2.2.2.2.2.2.2.2.2.2.2.2.2.1, Unit.unit))))))))))))))
   else none)
   else none)
   else none)
   else none)
   else none))) Empty.elim))
   else none))))
   else (if ((List.length x.2.2.2.2.2.2.2.1) = (List.length x.2.2.2.2.2.2.2.1)) then (some (Sum.inr (Sum.inl (x.2.2.2.2.1, (x.2.2.2.2.2.1, (x.2.2.2.2.2.2.1, (x.2.2.2.2.2.2.2.1, (x.2.2.2.2.2.2.2.2.1, (x.2.2.2.2.2.2.2.2.2.1, (x.2.2.2.2.2.2.2.2.2.2.1, (x.2.2.2.2.2.2.2.2.2.2.2.1, Unit.unit)))))))))))
   else none))
theorem b86_b_1_eq (x : g86_b_1.D) : b86_b_1 x = evF P (T52.orc _) Go.Proofs.Try.f86.ntmps fx86_b (Code.at [true, true, true, false, true, false, false] c86) (planAt 64 [([true, false, false, true, true, true, false, true, false], ⟨g86_b_2, o86_b_2, b86_b_2⟩)]) g86_b_1 x (injK fx86_b ((.normal, g86_b_1) :: o86_b_1) some) := by kernel_rfl
noncomputable def l86_b_1 : g86_b_1.D → Option (outD o86_b_1) := loopN g86_b_1 o86_b_1 b86_b_1 18446744073709551616
theorem p86_b_1 : AllSub P Go.Proofs.Try.f86.ntmps fx86_b (Code.at [true, true, true, false, true, false, false] c86) [([true, false, false, true, true, true, false, true, false], ⟨g86_b_2, o86_b_2, b86_b_2⟩)] := And.intro s86_b_2_ok (trivial)
theorem q86_b_1 : PlanOk P Go.Proofs.Try.f86.ntmps fx86_b (planAt 64 [([true, false, false, true, true, true, false, true, false], ⟨g86_b_2, o86_b_2, b86_b_2⟩)]) (Code.at [true, true, true, false, true, false, false] c86) := planAt_ok p86_b_1
theorem at86_b_1 : Code.at [true, true, true, false, true, false] c86 = .loop (Code.at [true, true, true, false, true, false, false] c86) := by kernel_rfl
theorem s86_b_1_ok : SubOk P Go.Proofs.Try.f86.ntmps fx86_b (Code.at [true, true, true, false, true, false] c86) ⟨g86_b_1, o86_b_1, l86_b_1⟩ := by
  rw [at86_b_1]
  exact loop_ok (sub_ok (g := g86_b_1) (outs := ((.normal, g86_b_1) :: o86_b_1)) (f := b86_b_1) (Table.ok T52_ok _) hmix (q86_b_1) b86_b_1_eq) rfl _
noncomputable def f86_b (x : gi86_b.D) : Option go86_b.D :=
  (if ((List.length x.2.2.2.1) = (List.length x.2.2.2.1)) then (Option.bind (Go.Ev.Zlib.l86_b_1 ((0 : Int), ((0 : Int), ((0 : Int), ((1 : Int), (x.1, (x.2.1, (x.2.2.1, (x.2.2.2.1, (x.2.2.2.2.1, (x.2.2.2.2.2.1, (x.2.2.2.2.2.2.1, (x.2.2.2.2.2.2.2.1, Unit.unit))))))))))))) (Sum.elim (fun y1 => (if ((List.length y1.2.2.2.1) = (List.length y1.2.2.2.1)) then (some ((0 : Int), ((4 : Int), (y1.1, (y1.2.1, (y1.2.2.1, (y1.2.2.2.1, (y1.2.2.2.2.1, (y1.2.2.2.2.2.1, (y1.2.2.2.2.2.2.1, (y1.2.2.2.2.2.2.2.1, Unit.unit)))))))))))
   else none)) (Sum.elim (fun y1 => (if ((List.length y1.2.2.2.2.2.1) = (List.length y1.2.2.2.2.2.1)) then (some (y1.1, (y1.2.1, (y1.2.2.1, (y1.2.2.2.1, (y1.2.2.2.2.1, (y1.2.2.2.2.2.1, (y1.2.2.2.2.2.2.1, (y1.2.2.2.2.2.2.2.1, (y1.2.2.2.2.2.2.2.2.1, (y1.2.2.2.2.2.2.2.2.2.1, Unit.unit)))))))))))
   else none)) Empty.elim)))
   else none)
theorem f86_b_eq (x : gi86_b.D) : f86_b x = evF P (T52.orc _) Go.Proofs.Try.f86.ntmps fx86_b c86 (planAt 64 [([true, true, true, false, true, false], ⟨g86_b_1, o86_b_1, l86_b_1⟩)]) gi86_b x (fnK fx86_b [go86_b]) := by kernel_rfl
theorem pf86_b : AllSub P Go.Proofs.Try.f86.ntmps fx86_b c86 [([true, true, true, false, true, false], ⟨g86_b_1, o86_b_1, l86_b_1⟩)] := And.intro s86_b_1_ok (trivial)
theorem qf86_b : PlanOk P Go.Proofs.Try.f86.ntmps fx86_b (planAt 64 [([true, true, true, false, true, false], ⟨g86_b_1, o86_b_1, l86_b_1⟩)]) c86 := planAt_ok pf86_b
theorem f86_b_ok : EntOk P 86 ⟨gi86_b, [go86_b], f86_b⟩ :=
  ent_ok (fn := Go.Proofs.Try.f86) (gi := gi86_b) (gos := [go86_b]) (f := f86_b) (c := c86) (fx := fx86_b) ⟨Go.Proofs.Try.func86, by kernel_rfl, rfl, by decide +kernel, rfl, rfl⟩ (by kernel_rfl) (Table.ok T52_ok _) hmix (qf86_b) f86_b_eq
noncomputable def T86 : Table := T52.add 86 [⟨gi86, [go86], f86⟩, ⟨gi86_b, [go86_b], f86_b⟩] []
theorem T86_ok : TableOk P T86 := Table.plus T52_ok (es := [⟨gi86, [go86], f86⟩, ⟨gi86_b, [go86_b], f86_b⟩]) ⟨f86_ok, f86_b_ok, trivial⟩ []

/-! ## 87: erasure/inflate.length -/
noncomputable def c87 : Code := Func.code Go.Proofs.Try.f87
abbrev gi87 : Sg := ⟨[0], [.lf (.int .i64)], []⟩
abbrev go87 : Sg := ⟨[2, 3], [.lf (.int .i64), .lf (.int .i64)], []⟩
def fx87 : List Bool := []
noncomputable def f87 (x : gi87.D) : Option go87.D :=
  (if ((x.1 == (285 : Int)) = true) then (some ((258 : Int), ((0 : Int), Unit.unit)))
   else (if ((decide ((Go.IntKind.wrap Go.IntKind.i64 ((Go.IntKind.wrap Go.IntKind.i64 (x.1 - (256 : Int))) - (1 : Int))) < (8 : Int))) = true) then (some ((Go.IntKind.wrap Go.IntKind.i64 ((3 : Int) + (Go.IntKind.wrap Go.IntKind.i64 ((Go.IntKind.wrap Go.IntKind.i64 (x.1 - (256 : Int))) - (1 : Int))))), ((0 : Int), Unit.unit)))
   else (if ((Go.IntKind.wrap Go.IntKind.i64 ((Int.fdiv (Go.IntKind.wrap Go.IntKind.i64 ((Go.IntKind.wrap Go.IntKind.i64 (x.1 - (256 : Int))) - (1 : Int))) (4 : Int)) - (1 : Int))) < (0 : Int)) then none
   else (some ((Go.IntKind.wrap Go.IntKind.i64 ((3 : Int) + (Go.IntKind.wrap Go.IntKind.i64 ((Go.IntKind.wrap Go.IntKind.i64 ((4 : Int) + (Go.IntKind.wrap Go.IntKind.i64 (((BitVec.toNat ((BitVec.ofInt (64 : Nat) (Go.IntKind.wrap Go.IntKind.i64 ((Go.IntKind.wrap Go.IntKind.i64 (x.1 - (256 : Int))) - (1 : Int)))) &&& (BitVec.ofInt (64 : Nat) (3 : Int)))) : Nat) : Int)))) * ((2 : Int) ^ (Min.min (Int.toNat (Go.IntKind.wrap Go.IntKind.i64 ((Int.fdiv (Go.IntKind.wrap Go.IntKind.i64 ((Go.IntKind.wrap Go.IntKind.i64 (x.1 - (256 : Int))) - (1 : Int))) (4 : Int)) - (1 : Int)))) (64 : Nat))))))), ((Go.IntKind.wrap Go.IntKind.i64 ((Int.fdiv (Go.IntKind.wrap Go.IntKind.i64 ((Go.IntKind.wrap Go.IntKind.i64 (x.1 - (256 : Int))) - (1 : Int))) (4 : Int)) - (1 : Int))), Unit.unit))))))
theorem f87_eq (x : gi87.D) : f87 x = evF P (T86.orc _) Go.Proofs.Try.f87.ntmps fx87 c87 (planAt 64 []) gi87 x (fnK fx87 [go87]) := by kernel_rfl
theorem f87_ok : EntOk P 87 ⟨gi87, [go87], f87⟩ :=
  ent_ok (fn := Go.Proofs.Try.f87) (gi := gi87) (gos := [go87]) (f := f87) (c := c87) (fx := fx87) ⟨Go.Proofs.Try.func87, by kernel_rfl, rfl, by decide +kernel, rfl, rfl⟩ (by kernel_rfl) (Table.ok T86_ok _) hmix (planAt_ok (P := P) (n := Go.Proofs.Try.f87.ntmps) (fx := fx87) (c := c87) (d := 64) (l := []) trivial) f87_eq
noncomputable def T87 : Table := T86.add 87 [⟨gi87, [go87], f87⟩] []
theorem T87_ok : TableOk P T87 := Table.plus T86_ok (es := [⟨gi87, [go87], f87⟩]) ⟨f87_ok, trivial⟩ []

/-! ## 88: erasure/inflate.back -/
noncomputable def c88 : Code := Func.code Go.Proofs.Try.f88
abbrev gi88 : Sg := ⟨[0], [.lf (.int .i64)], []⟩
abbrev go88 : Sg := ⟨[2, 3], [.lf (.int .i64), .lf (.int .i64)], []⟩
def fx88 : List Bool := []
noncomputable def f88 (x : gi88.D) : Option go88.D :=
  (if ((decide (x.1 < (4 : Int))) = true) then (some ((Go.IntKind.wrap Go.IntKind.i64 ((1 : Int) + x.1)), ((0 : Int), Unit.unit)))
   else (if ((Go.IntKind.wrap Go.IntKind.i64 ((Int.fdiv x.1 (2 : Int)) - (1 : Int))) < (0 : Int)) then none
   else (some ((Go.IntKind.wrap Go.IntKind.i64 ((1 : Int) + (Go.IntKind.wrap Go.IntKind.i64 ((Go.IntKind.wrap Go.IntKind.i64 ((2 : Int) + (Go.IntKind.wrap Go.IntKind.i64 (((BitVec.toNat ((BitVec.ofInt (64 : Nat) x.1) &&& (BitVec.ofInt (64 : Nat) (1 : Int)))) : Nat) : Int)))) * ((2 : Int) ^ (Min.min (Int.toNat (Go.IntKind.wrap Go.IntKind.i64 ((Int.fdiv x.1 (2 : Int)) - (1 : Int)))) (64 : Nat))))))), ((Go.IntKind.wrap Go.IntKind.i64 ((Int.fdiv x.1 (2 : Int)) - (1 : Int))), Unit.unit)))))
theorem f88_eq (x : gi88.D) : f88 x = evF P (T87.orc _) Go.Proofs.Try.f88.ntmps fx88 c88 (planAt 64 []) gi88 x (fnK fx88 [go88]) := by kernel_rfl
theorem f88_ok : EntOk P 88 ⟨gi88, [go88], f88⟩ :=
  ent_ok (fn := Go.Proofs.Try.f88) (gi := gi88) (gos := [go88]) (f := f88) (c := c88) (fx := fx88) ⟨Go.Proofs.Try.func88, by kernel_rfl, rfl, by decide +kernel, rfl, rfl⟩ (by kernel_rfl) (Table.ok T87_ok _) hmix (planAt_ok (P := P) (n := Go.Proofs.Try.f88.ntmps) (fx := fx88) (c := c88) (d := 64) (l := []) trivial) f88_eq
noncomputable def T88 : Table := T87.add 88 [⟨gi88, [go88], f88⟩] []
theorem T88_ok : TableOk P T88 := Table.plus T87_ok (es := [⟨gi88, [go88], f88⟩]) ⟨f88_ok, trivial⟩ []

/-! ## 76: (*erasure/inflate.work).words -/
noncomputable def c76 : Code := Func.code Go.Proofs.Try.f76
abbrev gi76 : Sg := ⟨[0, 1, 2], [.lf (.ptr 0 0), .lf .nilp, .lf .nilp], [some (.box true [.lf (.ptr 1 0), .lf (.gr (.pair (.int .i64) (.pair (.int .i64) (.int .i64))) 2), .lf (.int .i64), .lf (.int .i64)]), some (.box true [.lf (.sl (.int .u8)), .lf (.int .i64), .lf (.int .i64), .lf (.int .i64)]), some (.arr true (.pair (.int .i64) (.pair (.int .i64) (.int .i64))))]⟩
abbrev go76 : Sg := ⟨[6], [.lf (.int .i64)], [some (.box true [.lf (.ptr 1 0), .lf (.gr (.pair (.int .i64) (.pair (.int .i64) (.int .i64))) 3), .lf (.int .i64), .lf (.int .i64)]), some (.box true [.lf (.sl (.int .u8)), .lf (.int .i64), .lf (.int .i64), .lf (.int .i64)]), none, some (.arr true (.pair (.int .i64) (.pair (.int .i64) (.int .i64))))]⟩
def fx76 : List Bool := [true, true, false]
abbrev g76_1 : Sg := ⟨[0, 1, 2], [.lf (.ptr 0 0), .lf .nilp, .lf .nilp], [some (.box true [.lf (.ptr 1 0), .lf (.gr (.pair (.int .i64) (.pair (.int .i64) (.int .i64))) 3), .lf (.int .i64), .lf (.int .i64)]), some (.box true [.lf (.sl (.int .u8)), .lf (.int .i64), .lf (.int .i64), .lf (.int .i64)]), none, some (.arr true (.pair (.int .i64) (.pair (.int .i64) (.int .i64))))]⟩
abbrev o76_1 : Outs := [(.ret, ⟨[6], [.lf (.int .i64)], [some (.box true [.lf (.ptr 1 0), .lf (.gr (.pair (.int .i64) (.pair (.int .i64) (.int .i64))) 3), .lf (.int .i64), .lf (.int .i64)]), some (.box true [.lf (.sl (.int .u8)), .lf (.int .i64), .lf (.int .i64), .lf (.int .i64)]), none, some (.arr true (.pair (.int .i64) (.pair (.int .i64) (.int .i64))))]⟩)]
noncomputable def b76_1 (x : g76_1.D) : Option (outD ((.normal, g76_1) :: o76_1)) :=
  (Option.bind (Go.Ev.Zlib.f86 (x.2.2.1, (x.2.2.2.1, (x.2.2.2.2.1, (x.2.2.2.2.2.1, Unit.unit))))) (fun y1 => (if ((y1.2.1 != (0 : Int)) = true) then (if ((List.length x.2.2.2.2.2.2.1) = (List.length x.2.2.2.2.2.2.1)) then (some (Sum.inr (Sum.inl (y1.2.1, (x.1, (x.2.1, (y1.2.2.1, (y1.2.2.2.1, (y1.2.2.2.2.1, (y1.2.2.2.2.2.1, (x.2.2.2.2.2.2.1, Unit.unit)))))))))))
   else none)
   else (if ((y1.1 == (256 : Int)) = true) then (if ((List.length x.2.2.2.2.2.2.1) = (List.length x.2.2.2.2.2.2.1)) then (some (Sum.inr (Sum.inl ((0 : Int), (x.1, (x.2.1, (y1.2.2.1, (y1.2.2.2.1, (y1.2.2.2.2.1, (y1.2.2.2.2.2.1, (x.2.2.2.2.2.2.1, Unit.unit)))))))))))
   else none)
   else (if ((decide (y1.1 > (285 : Int))) = true) then (if ((List.length x.2.2.2.2.2.2.1) = (List.length x.2.2.2.2.2.2.1)) then (some (Sum.inr (Sum.inl ((4 : Int), (x.1, (x.2.1, (y1.2.2.1, (y1.2.2.2.1, (y1.2.2.2.2.1, (y1.2.2.2.2.2.1, (x.2.2.2.2.2.2.1, Unit.unit)))))))))))
   else none)
   else (if ((decide (y1.1 < (256 : Int))) = true) then (if ((List.length x.2.2.2.2.2.2.1) = (List.length x.2.2.2.2.2.2.1)) then (Option.bind (Go.Ev.Zlib.f75 (y1.1, ((0 : Int), ((0 : Int), (x.1, (x.2.1, (y1.2.2.1, (y1.2.2.2.1, (y1.2.2.2.2.1, (y1.2.2.2.2.2.1, (x.2.2.2.2.2.2.1, Unit.unit))))))))))) (fun y2 => (if ((y2.1 != (0 : Int)) = true) then (if ((List.length y2.2.2.2.2.2.2.2.1) = (List.length y2.2.2.2.2.2.2.2.1)) then (some (Sum.inr (Sum.inl (y2.1, (y2.2.1, (y2.2.2.1, (y2.2.2.2.1, (y2.2.2.2.2.1, (y2.2.2.2.2.2.1, (y2.2.2.2.2.2.2.1, (y2.2.2.2.2.2.2.2.1, Unit.unit)))))))))))
   else none)
   else (if ((List.length y2.2.2.2.2.2.2.2.1) = (List.length y2.2.2.2.2.2.2.2.1)) then (some (Sum.inl (y2.2.1, (y2.2.2.1, (y2.2.2.2.1, (y2.2.2.2.2.1, (y2.2.2.2.2.2.1, (y2.2.2.2.2.2.2.1, (y2.2.2.2.2.2.2.2.1, Unit.unit)))))))))
   else none))))
   else none)
   else (Option.bind (Go.Ev.Zlib.f87 (y1.1, Unit.unit)) (fun y2 => (Option.bind (Go.Ev.Zlib.f72 (y2.2.1, (y1.2.2.1, (y1.2.2.2.1, (y1.2.2.2.2.1, (y1.2.2.2.2.2.1, Unit.unit)))))) (fun y3 => (if ((y3.2.1 != (0 : Int)) = true) then (if ((List.length x.2.2.2.2.2.2.1) = (List.length x.2.2.2.2.2.2.1)) then (some (Sum.inr (Sum.inl (y3.2.1, (x.1, (x.2.1, (y3.2.2.1, (y3.2.2.2.1, (y3.2.2.2.2.1, (y3.2.2.2.2.2.1, (x.2.2.2.2.2.2.1, Unit.unit)))))))))))
   else none)
   else (Option.bind (Go.Ev.Zlib.f86 (y3.2.2.1, (y3.2.2.2.1, (y3.2.2.2.2.1, (y3.2.2.2.2.2.1, Unit.unit))))) (fun y4 => (if ((y4.2.1 != (0 : Int)) = true) then (if ((List.length x.2.2.2.2.2.2.1) = (List.length x.2.2.2.2.2.2.1)) then (some (Sum.inr (Sum.inl (y4.2.1, (x.1, (x.2.1, (y4.2.2.1, (y4.2.2.2.1, (y4.2.2.2.2.1, (y4.2.2.2.2.2.1, (x.2.2.2.2.2.2.1, Unit.unit)))))))))))
   else none)
   else (if ((decide (y4.1 ≥ (30 : Int))) = true) then (if ((List.length x.2.2.2.2.2.2.1) = (List.length x.2.2.2.2.2.2.1)) then (some (Sum.inr (Sum.inl ((4 : Int), (x.1, (x.2.1, (y4.2.2.1, (y4.2.2.2.1, (y4.2.2.2.2.1, (y4.2.2.2.2.2.1, (x.2.2.2.2.2.2.1, Unit.unit)))))))))))
   else none)
   else (Option.bind (Go.Ev.Zlib.f88 (y4.1, Unit.unit)) (fun y5 => (Option.bind (Go.Ev.Zlib.f72 (y5.2.1, (y4.2.2.1, (y4.2.2.2.1, (y4.2.2.2.2.1, (y4.2.2.2.2.2.1, Unit.unit)))))) (fun y6 => (if ((y6.2.1 != (0 : Int)) = true) then (if ((List.length x.2.2.2.2.2.2.1) = (List.length x.2.2.2.2.2.2.1)) then (some (Sum.inr (Sum.inl (y6.2.1, (x.1, (x.2.1, (y6.2.2.1, (y6.2.2.2.1, (y6.2.2.2.2.1, (y6.2.2.2.2.2.1, (x.2.2.2.2.2.2.1, Unit.unit)))))))))))
   else none)
   else (if ((List.length x.2.2.2.2.2.2.1) = (List.length x.2.2.2.2.2.2.1)) then (Option.bind (Go.Ev.Zlib.f75 ((0 : Int), ((Go.IntKind.wrap Go.IntKind.i64 (y2.1 + y3.1)), ((Go.IntKind.wrap Go.IntKind.i64 (y5.1 + y6.1)), (x.1, (x.2.1, (y6.2.2.1, (y6.2.2.2.1, (y6.2.2.2.2.1, (y6.2.2.2.2.2.1, (x.2.2.2.2.2.2.1, Unit.unit))))))))))) (fun y7 => (if ((y7.1 != (0 : Int)) = true) then (if ((List.length y7.2.2.2.2.2.2.2.1) = (List.length y7.2.2.2.2.2.2.2.1)) then (some (Sum.inr (Sum.inl (y7.1, (y7.2.1, (y7.2.2.1, (y7.2.2.2.1, (y7.2.2.2.2.1, (y7.2.2.2.2.2.1, (y7.2.2.2.2.2.2.1, (y7.2.2.2.2.2.2.2.1, Unit.unit)))))))))))
   else none)
   else (if ((List.length y7.2.2.2.2.2.2.2.1) = (List.length y7.2.2.2.2.2.2.2.1)) then (some (Sum.inl (y7.2.1, (y7.2.2.1, (y7.2.2.2.1, (y7.2.2.2.2.1, (y7.2.2.2.2.2.1, (y7.2.2.2.2.2.2.1, (y7.2.2.2.2.2.2.2.1, Unit.unit)))))))))
   else none))))
   else none)))))))))))))))))))))
theorem b76_1_eq (x : g76_1.D) : b76_1 x = evF P (T88.orc _) Go.Proofs.Try.f76.ntmps fx76 (Code.at [true, false, false] c76) (planAt 64 []) g76_1 x (injK fx76 ((.normal, g76_1) :: o76_1) some) := by kernel_rfl
noncomputable def l76_1 : g76_1.D → Option (outD o76_1) := loopN g76_1 o76_1 b76_1 18446744073709551616
theorem at76_1 : Code.at [true, false] c76 = .loop (Code.at [true, false, false] c76) := by kernel_rfl
theorem s76_1_ok : SubOk P Go.Proofs.Try.f76.ntmps fx76 (Code.at [true, false] c76) ⟨g76_1, o76_1, l76_1⟩ := by
  rw [at76_1]
  exact loop_ok (sub_ok (g := g76_1) (outs := ((.normal, g76_1) :: o76_1)) (f := b76_1) (Table.ok T88_ok _) hmix (planAt_ok (P := P) (n := Go.Proofs.Try.f76.ntmps) (fx := fx76) (c := (Code.at [true, false, false] c76)) (d := 64) (l := []) trivial) b76_1_eq) rfl _
noncomputable def f76 (x : gi76.D) : Option go76.D :=
  (if ((List.length x.2.2.2.2.2.2.1) = (List.length x.2.2.2.2.2.2.1)) then (Option.bind (Go.Ev.Zlib.l76_1 (x.1, (x.2.1, (x.2.2.1, (x.2.2.2.1, (x.2.2.2.2.1, (x.2.2.2.2.2.1, (x.2.2.2.2.2.2.1, Unit.unit)))))))) (Sum.elim (fun y1 => (if ((List.length y1.2.2.2.2.2.2.2.1) = (List.length y1.2.2.2.2.2.2.2.1)) then (some (y1.1, (y1.2.1, (y1.2.2.1, (y1.2.2.2.1, (y1.2.2.2.2.1, (y1.2.2.2.2.2.1, (y1.2.2.2.2.2.2.1, (y1.2.2.2.2.2.2.2.1, Unit.unit)))))))))
   else none)) Empty.elim))
   else none)
theorem f76_eq (x : gi76.D) : f76 x = evF P (T88.orc _) Go.Proofs.Try.f76.ntmps fx76 c76 (planAt 64 [([true, false], ⟨g76_1, o76_1, l76_1⟩)]) gi76 x (fnK fx76 [go76]) := by kernel_rfl
theorem pf76 : AllSub P Go.Proofs.Try.f76.ntmps fx76 c76 [([true, false], ⟨g76_1, o76_1, l76_1⟩)] := And.intro s76_1_ok (trivial)
theorem qf76 : PlanOk P Go.Proofs.Try.f76.ntmps fx76 (planAt 64 [([true, false], ⟨g76_1, o76_1, l76_1⟩)]) c76 := planAt_ok pf76
theorem f76_ok : EntOk P 76 ⟨gi76, [go76], f76⟩ :=
  ent_ok (fn := Go.Proofs.Try.f76) (gi := gi76) (gos := [go76]) (f := f76) (c := c76) (fx := fx76) ⟨Go.Proofs.Try.func76, by kernel_rfl, rfl, by decide +kernel, rfl, rfl⟩ (by kernel_rfl) (Table.ok T88_ok _) hmix (qf76) f76_eq
abbrev gi76_b : Sg := ⟨[0, 1, 2], [.lf (.ptr 0 0), .lf .nilp, .lf (.ptr 3 0)], [some (.box true [.lf (.ptr 1 0), .lf (.gr (.pair (.int .i64) (.pair (.int .i64) (.int .i64))) 2), .lf (.int .i64), .lf (.int .i64)]), some (.box true [.lf (.sl (.int .u8)), .lf (.int .i64), .lf (.int .i64), .lf (.int .i64)]), some (.arr true (.pair (.int .i64) (.pair (.int .i64) (.int .i64)))), some (.box true [.many (.int .i64) 16, .lf (.sl (.int .i64)), .lf (.sl (.int .i64)), .lf (.gr (.int .i64) 4)]), some (.arr true (.int .i64))]⟩
abbrev go76_b : Sg := ⟨[6], [.lf (.int .i64)], [some (.box true [.lf (.ptr 1 0), .lf (.gr (.pair (.int .i64) (.pair (.int .i64) (.int .i64))) 5), .lf (.int .i64), .lf (.int .i64)]), some (.box true [.lf (.sl (.int .u8)), .lf (.int .i64), .lf (.int .i64), .lf (.int .i64)]), none, some (.box true [.many (.int .i64) 16, .lf (.sl (.int .i64)), .lf (.sl (.int .i64)), .lf (.gr (.int .i64) 4)]), some (.arr true (.int .i64)), some (.arr true (.pair (.int .i64) (.pair (.int .i64) (.int .i64))))]⟩
def fx76_b : List Bool := [true, true, false, true, true]
abbrev g76_b_1 : Sg := ⟨[0, 1, 2], [.lf (.ptr 0 0), .lf .nilp, .lf (.ptr 3 0)], [some (.box true [.lf (.ptr 1 0), .lf (.gr (.pair (.int .i64) (.pair (.int .i64) (.int .i64))) 5), .lf (.int .i64), .lf (.int .i64)]), some (.box true [.lf (.sl (.int .u8)), .lf (.int .i64), .lf (.int .i64), .lf (.int .i64)]), none, some (.box true [.many (.int .i64) 16, .lf (.sl (.int .i64)), .lf (.sl (.int .i64)), .lf (.gr (.int .i64) 4)]), some (.arr true (.int .i64)), some (.arr true (.pair (.int .i64) (.pair (.int .i64) (.int .i64))))]⟩
abbrev o76_b_1 : Outs := [(.ret, ⟨[6], [.lf (.int .i64)], [some (.box true [.lf (.ptr 1 0), .lf (.gr (.pair (.int .i64) (.pair (.int .i64) (.int .i64))) 5), .lf (.int .i64), .lf (.int .i64)]), some (.box true [.lf (.sl (.int .u8)), .lf (.int .i64), .lf (.int .i64), .lf (.int .i64)]), none, some (.box true [.many (.int .i64) 16, .lf (.sl (.int .i64)), .lf (.sl (.int .i64)), .lf (.gr (.int .i64) 4)]), some (.arr true (.int .i64)), some (.arr true (.pair (.int .i64) (.pair (.int .i64) (.int .i64))))]⟩)]
noncomputable def b76_b_1 (x : g76_b_1.D) : Option (outD ((.normal, g76_b_1) :: o76_b_1)) :=
  (Option.bind (Go.Ev.Zlib.f86 (x.2.2.1, (x.2.2.2.1, (x.2.2.2.2.1, (x.2.2.2.2.2.1, Unit.unit))))) (fun y1 => (if ((y1.2.1 != (0 : Int)) = true) then (if ((List.length x.2.2.2.2.2.2.2.2.2.2.1) = (List.length x.2.2.2.2.2.2.2.2.2.2.1)) then (if ((List.length x.2.2.2.2.2.2.2.2.2.1) = (List.length x.2.2.2.2.2.2.2.2.2.1)) then (some (Sum.inr (Sum.inl (y1.2.1, (x.1, (x.2.1, (y1.2.2.1, (y1.2.2.2.1, (y1.2.2.2.2.1, (y1.2.2.2.2.2.1, (x.2.2.2.2.2.2.1, (x.2.2.2.2.2.2.2.1, (x.2.2.2.2.2.2.2.2.1, (x.2.2.2.2.2.2.2.2.2.1, (x.2.2.2.2.2.2.2.2.2.2.1, Unit.unit)))))))))))))))
   else none)
   else none)
   else (if ((y1.1 == (256 : Int)) = true) then (if ((List.length x.2.2.2.2.2.2.2.2.2.2.1) = (List.length x.2.2.2.2.2.2.2.2.2.2.1)) then (if ((List.length x.2.2.2.2.2.2.2.2.2.1) = (List.length x.2.2.2.2.2.2.2.2.2.1)) then (some (Sum.inr (Sum.inl ((0 : Int), (x.1, (x.2.1, (y1.2.2.1, (y1.2.2.2.1, (y1.2.2.2.2.1, (y1.2.2.2.2.2.1, (x.2.2.2.2.2.2.1, (x.2.2.2.2.2.2.2.1, (x.2.2.2.2.2.2.2.2.1, (x.2.2.2.2.2.2.2.2.2.1, (x.2.2.2.2.2.2.2.2.2.2.1, Unit.unit)))))))))))))))
   else none)
   else none)
   else (if ((decide (y1.1 > (285 : Int))) = true) then (if ((List.length x.2.2.2.2.2.2.2.2.2.2.1) = (List.length x.2.2.2.2.2.2.2.2.2.2.1)) then (if ((List.length x.2.2.2.2.2.2.2.2.2.1) = (List.length x.2.2.2.2.2.2.2.2.2.1)) then (some (Sum.inr (Sum.inl ((4 : Int), (x.1, (x.2.1, (y1.2.2.1, (y1.2.2.2.1, (y1.2.2.2.2.1, (y1.2.2.2.2.2.1, (x.2.2.2.2.2.2.1, (x.2.2.2.2.2.2.2.1, (x.2.2.2.2.2.2.2.2.1, (x.2.2.2.2.2.2.2.2.2.1, (x.2.2.2.2.2.2.2.2.2.2.1, Unit.unit)))))))))))))))
   else none)
   else none)
   else (if ((decide (y1.1 < (256 : Int))) = true) then (if ((List.length x.2.2.2.2.2.2.2.2.2.2.1) = (List.length x.2.2.2.2.2.2.2.2.2.2.1)) then (Option.bind (Go.Ev.Zlib.f75 (y1.1, ((0 : Int), ((0 : Int), (x.1, (x.2.1, (y1.2.2.1, (y1.2.2.2.1, (y1.2.2.2.2.1, (y1.2.2.2.2.2.1, (x.2.2.2.2.2.2.2.2.2.2.1, Unit.unit))))))))))) (fun y2 => (if ((y2.1 != (0 : Int)) = true) then (if ((List.length y2.2.2.2.2.2.2.2.1) = (List.length y2.2.2.2.2.2.2.2.1)) then (if ((List.length x.2.2.2.2.2.2.2.2.2.1) = (List.length x.2.2.2.2.2.2.2.2.2.1)) then (some (Sum.inr (Sum.inl (y2.1, (y2.2.1, (y2.2.2.1, (y2.2.2.2.1, (y2.2.2.2.2.1, (y2.2.2.2.2.2.1, (y2.2.2.2.2.2.2.1, (x.2.2.2.2.2.2.1, (x.2.2.2.2.2.2.2.1, (x.2.2.2.2.2.2.2.2.1, (x.2.2.2.2.2.2.2.2.2.1, (y2.2.2.2.2.2.2.2.1, Unit.unit)))))))))))))))
   else none)
   else none)
   else (if ((List.length y2.2.2.2.2.2.2.2.1) = (List.length y2.2.2.2.2.2.2.2.1)) then (if ((List.length x.2.2.2.2.2.2.2.2.2.1) = (List.length x.2.2.2.2.2.2.2.2.2.1)) then (some (Sum.inl (y2.2.1, (y2.2.2.1, (y2.2.2.2.1, (y2.2.2.2.2.1, (y2.2.2.2.2.2.1, (y2.2.2.2.2.2.2.1, (x.2.2.2.2.2.2.1, (x.2.2.2.2.2.2.2.1, (x.2.2.2.2.2.2.2.2.1, (x.2.2.2.2.2.2.2.2.2.1, (y2.2.2.2.2.2.2.2.1, Unit.unit)))))))))))))
   else none)
   else none))))
   else none)
   else (Option.bind (Go.Ev.Zlib.f87 (y1.1, Unit.unit)) (fun y2 => (Option.bind (Go.Ev.Zlib.f72 (y2.2.1, (y1.2.2.1, (y1.2.2.2.1, (y1.2.2.2.2.1, (y1.2.2.2.2.2.1, Unit.unit)))))) (fun y3 => (if ((y3.2.1 != (0 : Int)) = true) then (if ((List.length x.2.2.2.2.2.2.2.2.2.2.1) = (List.length x.2.2.2.2.2.2.2.2.2.2.1)) then (if ((List.length x.2.2.2.2.2.2.2.2.2.1) = (List.length x.2.2.2.2.2.2.2.2.2.1)) then (some (Sum.inr (Sum.inl (y3.2.1, (x.1, (x.2.1, (y3.2.2.1, (y3.2.2.2.1, (y3.2.2.2.2.1, (y3.2.2.2.2.2.1, (x.2.2.2.2.2.2.1, (x.2.2.2.2.2.2.2.1, (x.2.2.2.2.2.2.2.2.1, (x.2.2.2.2.2.2.2.2.2.1, (x.2.2.2.2.2.2.2.2.2.2.1, Unit.unit)))))))))))))))
   else none)
   else none)
   else (if ((List.length x.2.2.2.2.2.2.2.2.2.1) = (List.length x.2.2.2.2.2.2.2.2.2.1)) then (Option.bind (Go.Ev.Zlib.f86_b (x.2.2.2.2.2.2.1, (x.2.2.2.2.2.2.2.1, (x.2.2.2.2.2.2.2.2.1, (x.2.2.2.2.2.2.2.2.2.1, (y3.2.2.1, (y3.2.2.2.1, (y3.2.2.2.2.1, (y3.2.2.2.2.2.1, Unit.unit))))))))) (fun y4 => (if ((y4.2.1 != (0 : Int)) = true) then (if ((List.length x.2.2.2.2.2.2.2.2.2.2.1) = (List.length x.2.2.2.2.2.2.2.2.2.2.1)) then (if ((List.length y4.2.2.2.2.2.1) = (List.length y4.2.2.2.2.2.1)) then (some (Sum.inr (Sum.inl (y4.2.1, (x.1, (x.2.1, (y4.2.2.2.2.2.2.1, (y4.2.2.2.2.2.2.2.1, (y4.2.2.2.2.2.2.2.2.1, (y4.2.2.2.2.2.2.2.2.2.1, (y4.2.2.1, (y4.2.2.2.1, (y4.2.2.2.2.1, (y4.2.2.2.2.2.1, (x.2.2.2.2.2.2.2.2.2.2.1, Unit.unit)))))))))))))))
   else none)
   else none)
   else (if ((decide (y4.1 ≥ (30 : Int))) = true) then (if ((List.length x.2.2.2.2.2.2.2.2.2.2.1) = (List.length x.2.2.2.2.2.2.2.2.2.2.1)) then (if ((List.length y4.2.2.2.2.2.1) = (List.length y4.2.2.2.2.2.1)) then (some (Sum.inr (Sum.inl ((4 : Int), (x.1, (x.2.1, (y4.2.2.2.2.2.2.1, (y4.2.2.2.2.2.2.2.1, (y4.2.2.2.2.2.2.2.2.1, (y4.2.2.2.2.2.2.2.2.2.1, (y4.2.2.1, (y4.2.2.2.1, (y4.2.2.2.2.1, (y4.2.2.2.2.2.1, (x.2.2.2.2.2.2.2.2.2.2.1, Unit.unit)))))))))))))))
   else none)
   else none)
   else (Option.bind (Go.Ev.Zlib.f88 (y4.1, Unit.unit)) (fun y5 => (Option.bind (Go.Ev.Zlib.f72 (y5.2.1, (y4.2.2.2.2.2.2.1, (y4.2.2.2.2.2.2.2.1, (y4.2.2.2.2.2.2.2.2.1, (y4.2.2.2.2.2.2.2.2.2.1, Unit.unit)))))) (fun y6 => (if ((y6.2.1 != (0 : Int)) = true) then (if ((List.length x.2.2.2.2.2.2.2.2.2.2.1) = (List.length x.2.2.2.2.2.2.2.2.2.2.1)) then (if ((List.length y4.2.2.2.2.2.1) = (List.length y4.2.2.2.2.2.1)) then (some (Sum.inr (Sum.inl (y6.2.1, (x.1, (x.2.1, (y6.2.2.1, (y6.2.2.2.1, (y6.2.2.2.2.1, (y6.2.2.2.2.2.1, (y4.2.2.1, (y4.2.2.2.1, (y4.2.2.2.2.1, (y4.2.2.2.2.2.1, (x.2.2.2.2.2.2.2.2.2.2.1, Unit.unit)))))))))))))))
   else none)
   else none)
   else (if ((List.length x.2.2.2.2.2.2.2.2.2.2.1) = (List.length x.2.2.2.2.2.2.2.2.2.2.1)) then (Option.bind (Go.Ev.Zlib.f75 ((0 : Int), ((Go.IntKind.wrap Go.IntKind.i64 (y2.1 + y3.1)), ((Go.IntKind.wrap Go.IntKind.i64 (y5.1 + y6.1)), (x.1, (x.2.1, (y6.2.2.1, (y6.2.2.2.1, (y6.2.2.2.2.1, (y6.2.2.2.2.2.1, (x.2.2.2.2.2.2.2.2.2.2.1, Unit.unit))))))))))) (fun y7 => (if ((y7.1 != (0 : Int)) = true) then (if ((List.length y7.2.2.2.2.2.2.2.1) = (List.length y7.2.2.2.2.2.2.2.1)) then (if ((List.length y4.2.2.2.2.2.1) = (List.length y4.2.2.2.2.2.1)) then (some (Sum.inr (Sum.inl (y7.1, (y7.2.1, (y7.2.2.1, (y7.2.2.2.1, (y7.2.2.2.2.1, (y7.2.2.2.2.2.1, (y7.2.2.2.2.2.2.1, (y4.2.2.1, (y4.2.2.2.1, (y4.2.2.2.2.1, (y4.2.2.2.2.2.1, (y7.2.2.2.2.2.2.2.1, Unit.unit)))))))))))))))
   else none)
   else none)
   else (if ((List.length y7.2.2.2.2.2.2.2.1) = (List.length y7.2.2.2.2.2.2.2.1)) then (if ((List.length y4.2.2.2.2.2.1) = (List.length y4.2.2.2.2.2.1)) then (some (Sum.inl (y7.2.1, (y7.2.2.1, (y7.2.2.2.1, (y7.2.2.2.2.1, (y7.2.2.2.2.2.1, (y7.2.2.2.2.2.2.1, (y4.2.2.1, (y4.2.2.2.1, (y4.2.2.2.2.1, (y4.2.2.2.2.2.1, (y7.2.2.2.2.2.2.2.1, Unit.unit)))))))))))))
   else none)
   else none))))
   else none))))))))))
   else none))))))))))))
theorem b76_b_1_eq (x : g76_b_1.D) : b76_b_1 x = evF P (T88.orc _) Go.Proofs.Try.f76.ntmps fx76_b (Code.at [true, false, false] c76) (planAt 64 []) g76_b_1 x (injK fx76_b ((.normal, g76_b_1) :: o76_b_1) some) := by kernel_rfl
noncomputable def l76_b_1 : g76_b_1.D → Option (outD o76_b_1) := loopN g76_b_1 o76_b_1 b76_b_1 18446744073709551616
theorem at76_b_1 : Code.at [true, false] c76 = .loop (Code.at [true, false, false] c76) := by kernel_rfl
theorem s76_b_1_ok : SubOk P Go.Proofs.Try.f76.ntmps fx76_b (Code.at [true, false] c76) ⟨g76_b_1, o76_b_1, l76_b_1⟩ := by
  rw [at76_b_1]
  exact loop_ok (sub_ok (g := g76_b_1) (outs := ((.normal, g76_b_1) :: o76_b_1)) (f := b76_b_1) (Table.ok T88_ok _) hmix (planAt_ok (P := P) (n := Go.Proofs.Try.f76.ntmps) (fx := fx76_b) (c := (Code.at [true, false, false] c76)) (d := 64) (l := []) trivial) b76_b_1_eq) rfl _
noncomputable def f76_b (x : gi76_b.D) : Option go76_b.D :=
  (if ((List.length x.2.2.2.2.2.2.1) = (List.length x.2.2.2.2.2.2.1)) then (if ((List.length x.2.2.2.2.2.2.2.2.2.2.1) = (List.length x.2.2.2.2.2.2.2.2.2.2.1)) then (Option.bind (Go.Ev.Zlib.l76_b_1 (x.1, (x.2.1, (x.2.2.1, (x.2.2.2.1, (x.2.2.2.2.1, (x.2.2.2.2.2.1, (x.2.2.2.2.2.2.2.1, (x.2.2.2.2.2.2.2.2.1, (x.2.2.2.2.2.2.2.2.2.1, (x.2.2.2.2.2.2.2.2.2.2.1, (x.2.2.2.2.2.2.1, Unit.unit)))))))))))) (Sum.elim (fun y1 => (if ((List.length y1.2.2.2.2.2.2.2.2.2.2.2.1) = (List.length y1.2.2.2.2.2.2.2.2.2.2.2.1)) then (if ((List.length y1.2.2.2.2.2.2.2.2.2.2.1) = (List.length y1.2.2.2.2.2.2.2.2.2.2.1)) then (some (y1.1, (y1.2.1, (y1.2.2.1, (y1.2.2.2.1, (y1.2.2.2.2.1, (y1.2.2.2.2.2.1, (y1.2.2.2.2.2.2.1, (y1.2.2.2.2.2.2.2.1, (y1.2.2.2.2.2.2.2.2.1, (y1.2.2.2.2.2.2.2.2.2.1, (y1.2.2.2.2.2.2.2.2.2.2.1, (y1.2.2.2.2.2.2.2.2.2.2.2.1, Unit.unit)))))))))))))
   else none)
   else none)) Empty.elim))
   else none)
   else none)
theorem f76_b_eq (x : gi76_b.D) : f76_b x = evF P (T88.orc _) Go.Proofs.Try.f76.ntmps fx76_b c76 (planAt 64 [([true, false], ⟨g76_b_1, o76_b_1, l76_b_1⟩)]) gi76_b x (fnK fx76_b [go76_b]) := by kernel_rfl
theorem pf76_b : AllSub P Go.Proofs.Try.f76.ntmps fx76_b c76 [([true, false], ⟨g76_b_1, o76_b_1, l76_b_1⟩)] := And.intro s76_b_1_ok (trivial)
theorem qf76_b : PlanOk P Go.Proofs.Try.f76.ntmps fx76_b (planAt 64 [([true, false], ⟨g76_b_1, o76_b_1, l76_b_1⟩)]) c76 := planAt_ok pf76_b
theorem f76_b_ok : EntOk P 76 ⟨gi76_b, [go76_b], f76_b⟩ :=
  ent_ok (fn := Go.Proofs.Try.f76) (gi := gi76_b) (gos := [go76_b]) (f := f76_b) (c := c76) (fx := fx76_b) ⟨Go.Proofs.Try.func76, by kernel_rfl, rfl, by decide +kernel, rfl, rfl⟩ (by kernel_rfl) (Table.ok T88_ok _) hmix (qf76_b) f76_b_eq
abbrev gi76_c : Sg := ⟨[0, 1, 2], [.lf (.ptr 0 0), .lf (.ptr 3 0), .lf .nilp], [some (.box true [.lf (.ptr 1 0), .lf (.gr (.pair (.int .i64) (.pair (.int .i64) (.int .i64))) 2), .lf (.int .i64), .lf (.int .i64)]), some (.box true [.lf (.sl (.int .u8)), .lf (.int .i64), .lf (.int .i64), .lf (.int .i64)]), some (.arr true (.pair (.int .i64) (.pair (.int .i64) (.int .i64)))), some (.box true [.many (.int .i64) 16, .lf (.sl (.int .i64)), .lf (.sl (.int .i64)), .lf (.gr (.int .i64) 4)]), some (.arr true (.int .i64))]⟩
abbrev go76_c : Sg := ⟨[6], [.lf (.int .i64)], [some (.box true [.lf (.ptr 1 0), .lf (.gr (.pair (.int .i64) (.pair (.int .i64) (.int .i64))) 5), .lf (.int .i64), .lf (.int .i64)]), some (.box true [.lf (.sl (.int .u8)), .lf (.int .i64), .lf (.int .i64), .lf (.int .i64)]), none, some (.box true [.many (.int .i64) 16, .lf (.sl (.int .i64)), .lf (.sl (.int .i64)), .lf (.gr (.int .i64) 4)]), some (.arr true (.int .i64)), some (.arr true (.pair (.int .i64) (.pair (.int .i64) (.int .i64))))]⟩
def fx76_c : List Bool := [true, true, false, true, true]
abbrev g76_c_1 : Sg := ⟨[0, 1, 2], [.lf (.ptr 0 0), .lf (.ptr 3 0), .lf .nilp], [some (.box true [.lf (.ptr 1 0), .lf (.gr (.pair (.int .i64) (.pair (.int .i64) (.int .i64))) 5), .lf (.int .i64), .lf (.int .i64)]), some (.box true [.lf (.sl (.int .u8)), .lf (.int .i64), .lf (.int .i64), .lf (.int .i64)]), none, some (.box true [.many (.int .i64) 16, .lf (.sl (.int .i64)), .lf (.sl (.int .i64)), .lf (.gr (.int .i64) 4)]), some (.arr true (.int .i64)), some (.arr true (.pair (.int .i64) (.pair (.int .i64) (.int .i64))))]⟩
abbrev o76_c_1 : Outs := [(.ret, ⟨[6], [.lf (.int .i64)], [some (.box true [.lf (.ptr 1 0), .lf (.gr (.pair (.int .i64) (.pair (.int .i64) (.int .i64))) 5), .lf (.int .i64), .lf (.int .i64)]), some (.box true [.lf (.sl (.int .u8)), .lf (.int .i64), .lf (.int .i64), .lf (.int .i64)]), none, some (.box true [.many (.int .i64) 16, .lf (.sl (.int .i64)), .lf (.sl (.int .i64)), .lf (.gr (.int .i64) 4)]), some (.arr true (.int .i64)), some (.arr true (.pair (.int .i64) (.pair (.int .i64) (.int .i64))))]⟩)]
noncomputable def b76_c_1 (x : g76_c_1.D) : Option (outD ((.normal, g76_c_1) :: o76_c_1)) :=
  (if ((List.length x.2.2.2.2.2.2.2.2.2.1) = (List.length x.2.2.2.2.2.2.2.2.2.1)) then (Option.bind (Go.Ev.Zlib.f86_b (x.2.2.2.2.2.2.1, (x.2.2.2.2.2.2.2.1, (x.2.2.2.2.2.2.2.2.1, (x.2.2.2.2.2.2.2.2.2.1, (x.2.2.1, (x.2.2.2.1, (x.2.2.2.2.1, (x.2.2.2.2.2.1, Unit.unit))))))))) (fun y1 => (if ((y1.2.1 != (0 : Int)) = true) then (if ((List.length x.2.2.2.2.2.2.2.2.2.2.1) = (List.length x.2.2.2.2.2.2.2.2.2.2.1)) then (if ((List.length y1.2.2.2.2.2.1) = (List.length y1.2.2.2.2.2.1)) then (some (Sum.inr (Sum.inl (y1.2.1, (x.1, (x.2.1, (y1.2.2.2.2.2.2.1, (y1.2.2.2.2.2.2.2.1, (y1.2.2.2.2.2.2.2.2.1, (y1.2.2.2.2.2.2.2.2.2.1, (y1.2.2.1, (y1.2.2.2.1, (y1.2.2.2.2.1, (y1.2.2.2.2.2.1, (x.2.2.2.2.2.2.2.2.2.2.1, Unit.unit)))))))))))))))
   else none)
   else none)
   else (if ((y1.1 == (256 : Int)) = true) then (if ((List.length x.2.2.2.2.2.2.2.2.2.2.1) = (List.length x.2.2.2.2.2.2.2.2.2.2.1)) then (if ((List.length y1.2.2.2.2.2.1) = (List.length y1.2.2.2.2.2.1)) then (some (Sum.inr (Sum.inl ((0 : Int), (x.1, (x.2.1, (y1.2.2.2.2.2.2.1, (y1.2.2.2.2.2.2.2.1, (y1.2.2.2.2.2.2.2.2.1, (y1.2.2.2.2.2.2.2.2.2.1, (y1.2.2.1, (y1.2.2.2.1, (y1.2.2.2.2.1, (y1.2.2.2.2.2.1, (x.2.2.2.2.2.2.2.2.2.2.1, Unit.unit)))))))))))))))
   else none)
   else none)
   else (if ((decide (y1.1 > (285 : Int))) = true) then (if ((List.length x.2.2.2.2.2.2.2.2.2.2.1) = (List.length x.2.2.2.2.2.2.2.2.2.2.1)) then (if ((List.length y1.2.2.2.2.2.1) = (List.length y1.2.2.2.2.2.1)) then (some (Sum.inr (Sum.inl ((4 : Int), (x.1, (x.2.1, (y1.2.2.2.2.2.2.1, (y1.2.2.2.2.2.2.2.1, (y1.2.2.2.2.2.2.2.2.1, (y1.2.2.2.2.2.2.2.2.2.1, (y1.2.2.1, (y1.2.2.2.1, (y1.2.2.2.2.1, (y1.2.2.2.2.2.1, (x.2.2.2.2.2.2.2.2.2.2.1, Unit.unit)))))))))))))))
   else none)
   else none)
   else (if ((decide (y1.1 < (256 : Int))) = true) then (if ((List.length x.2.2.2.2.2.2.2.2.2.2.1) = (List.length x.2.2.2.2.2.2.2.2.2.2.1)) then (Option.bind (Go.Ev.Zlib.f75 (y1.1, ((0 : Int), ((0 : Int), (x.1, (x.2.1, (y1.2.2.2.2.2.2.1, (y1.2.2.2.2.2.2.2.1, (y1.2.2.2.2.2.2.2.2.1, (y1.2.2.2.2.2.2.2.2.2.1, (x.2.2.2.2.2.2.2.2.2.2.1, Unit.unit))))))))))) (fun y2 => (if ((y2.1 != (0 : Int)) = true) then (if ((List.length y2.2.2.2.2.2.2.2.1) = (List.length y2.2.2.2.2.2.2.2.1)) then (if ((List.length y1.2.2.2.2.2.1) = (List.length y1.2.2.2.2.2.1)) then (some (Sum.inr (Sum.inl (y2.1, (y2.2.1, (y2.2.2.1, (y2.2.2.2.1, (y2.2.2.2.2.1, (y2.2.2.2.2.2.1, (y2.2.2.2.2.2.2.1, (y1.2.2.1, (y1.2.2.2.1, (y1.2.2.2.2.1, (y1.2.2.2.2.2.1, (y2.2.2.2.2.2.2.2.1, Unit.unit)))))))))))))))
   else none)
   else none)
   else (if ((List.length y2.2.2.2.2.2.2.2.1) = (List.length y2.2.2.2.2.2.2.2.1)) then (if ((List.length y1.2.2.2.2.2.1) = (List.length y1.2.2.2.2.2.1)) then (some (Sum.inl (y2.2.1, (y2.2.2.1, (y2.2.2.2.1, (y2.2.2.2.2.1, (y2.2.2.2.2.2.1, (y2.2.2.2.2.2.2.1, (y1.2.2.1, (y1.2.2.2.1, (y1.2.2.2.2.1, (y1.2.2.2.2.2.1, (y2.2.2.2.2.2.2.2.1, Unit.unit)))))))))))))
   else none)
   else none))))
   else none)
   else (Option.bind (Go.Ev.Zlib.f87 (y1.1, Unit.unit)) (fun y2 => (Option.bind (Go.Ev.Zlib.f72 (y2.2.1, (y1.2.2.2.2.2.2.1, (y1.2.2.2.2.2.2.2.1, (y1.2.2.2.2.2.2.2.2.1, (y1.2.2.2.2.2.2.2.2.2.1, Unit.unit)))))) (fun y3 => (if ((y3.2.1 != (0 : Int)) = true) then (if ((List.length x.2.2.2.2.2.2.2.2.2.2.1) = (List.length x.2.2.2.2.2.2.2.2.2.2.1)) then (if ((List.length y1.2.2.2.2.2.1) = (List.length y1.2.2.2.2.2.1)) then (some (Sum.inr (Sum.inl (y3.2.1, (x.1, (x.2.1, (y3.2.2.1, (y3.2.2.2.1, (y3.2.2.2.2.1, (y3.2.2.2.2.2.1, (y1.2.2.1, (y1.2.2.2.1, (y1.2.2.2.2.1, (y1.2.2.2.2.2.1, (x.2.2.2.2.2.2.2.2.2.2.1, Unit.unit)))))))))))))))
   else none)
   else none)
   else (Option.bind (Go.Ev.Zlib.f86 (y3.2.2.1, (y3.2.2.2.1, (y3.2.2.2.2.1, (y3.2.2.2.2.2.1, Unit.unit))))) (fun y4 => (if ((y4.2.1 != (0 : Int)) = true) then (if ((List.length x.2.2.2.2.2.2.2.2.2.2.1) = (List.length x.2.2.2.2.2.2.2.2.2.2.1)) then (if ((List.length y1.2.2.2.2.2.1) = (List.length y1.2.2.2.2.2.1)) then (some (Sum.inr (Sum.inl (y4.2.1, (x.1, (x.2.1, (y4.2.2.1, (y4.2.2.2.1, (y4.2.2.2.2.1, (y4.2.2.2.2.2.1, (y1.2.2.1, (y1.2.2.2.1, (y1.2.2.2.2.1, (y1.2.2.2.2.2.1, (x.2.2.2.2.2.2.2.2.2.2.1, Unit.unit)))))))))))))))
   else none)
   else none)
   else (if ((decide (y4.1 ≥ (30 : Int))) = true) then (if ((List.length x.2.2.2.2.2.2.2.2.2.2.1) = (List.length x.2.2.2.2.2.2.2.2.2.2.1)) then (if ((List.length y1.2.2.2.2.2.1) = (List.length y1.2.2.2.2.2.1)) then (some (Sum.inr (Sum.inl ((4 : Int), (x.1, (x.2.1, (y4.2.2.1, (y4.2.2.2.1, (y4.2.2.2.2.1, (y4.2.2.2.2.2.1, (y1.2.2.1, (y1.2.2.2.1, (y1.2.2.2.2.1, (y1.2.2.2.2.2.1, (x.2.2.2.2.2.2.2.2.2.2.1, Unit.unit)))))))))))))))
   else none)
   else none)
   else (Option.bind (Go.Ev.Zlib.f88 (y4.1, Unit.unit)) (fun y5 => (Option.bind (Go.Ev.Zlib.f72 (y5.2.1, (y4.2.2.1, (y4.2.2.2.1, (y4.2.2.2.2.1, (y4.2.2.2.2.2.1, Unit.unit)))))) (fun y6 => (if ((y6.2.1 != (0 : Int)) = true) then (if ((List.length x.2.2.2.2.2.2.2.2.2.2.1) = (List.length x.2.2.2.2.2.2.2.2.2.2.1)) then (if ((List.length y1.2.2.2.2.2.1) = (List.length y1.2.2.2.2.2.1)) then (some (Sum.inr (Sum.inl (y6.2.1, (x.1, (x.2.1, (y6.2.2.1, (y6.2.2.2.1, (y6.2.2.2.2.1, (y6.2.2.2.2.2.1, (y1.2.2.1, (y1.2.2.2.1, (y1.2.2.2.2.1, (y1.2.2.2.2.2.1, (x.2.2.2.2.2.2.2.2.2.2.1, Unit.unit)))))))))))))))
   else none)
   else none)
   else (if ((List.length x.2.2.2.2.2.2.2.2.2.2.1) = (List.length x.2.2.2.2.2.2.2.2.2.2.1)) then (Option.bind (Go.Ev.Zlib.f75 ((0 : Int), ((Go.IntKind.wrap Go.IntKind.i64 (y2.1 + y3.1)), ((Go.IntKind.wrap Go.IntKind.i64 (y5.1 + y6.1)), (x.1, (x.2.1, (y6.2.2.1, (y6.2.2.2.1, (y6.2.2.2.2.1, (y6.2.2.2.2.2.1, (x.2.2.2.2.2.2.2.2.2.2.1, Unit.unit))))))))))) (fun y7 => (if ((y7.1 != (0 : Int)) = true) then (if ((List.length y7.2.2.2.2.2.2.2.1) = (List.length y7.2.2.2.2.2.2.2.1)) then (if ((List.length y1.2.2.2.2.2.1) = (List.length y1.2.2.2.2.2.1)) then (some (Sum.inr (Sum.inl (y7.1, (y7.2.1, (y7.2.2.1, (y7.2.2.2.1, (y7.2.2.2.2.1, (y7.2.2.2.2.2.1, (y7.2.2.2.2.2.2.1, (y1.2.2.1, (y1.2.2.2.1, (y1.2.2.2.2.1, (y1.2.2.2.2.2.1, (y7.2.2.2.2.2.2.2.1, Unit.unit)))))))))))))))
   else none)
   else none)
   else (if ((List.length y7.2.2.2.2.2.2.2.1) = (List.length y7.2.2.2.2.2.2.2.1)) then (if ((List.length y1.2.2.2.2.2.1) = (List.length y1.2.2.2.2.2.1)) then (some (Sum.inl (y7.2.1, (y7.2.2.1, (y7.2.2.2.1, (y7.2.2.2.2.1, (y7.2.2.2.2.2.1, (y7.2.2.2.2.2.2.1, (y1.2.2.1, (y1.2.2.2.1, (y1.2.2.2.2.1, (y1.2.2.2.2.2.1, (y7.2.2.2.2.2.2.2.1, Unit.unit)))))))))))))
   else none)
   else none))))
   else none)))))))))))))))))))))
   else none)
theorem b76_c_1_eq (x : g76_c_1.D) : b76_c_1 x = evF P (T88.orc _) Go.Proofs.Try.f76.ntmps fx76_c (Code.at [true, false, false] c76) (planAt 64 []) g76_c_1 x (injK fx76_c ((.normal, g76_c_1) :: o76_c_1) some) := by kernel_rfl
noncomputable def l76_c_1 : g76_c_1.D → Option (outD o76_c_1) := loopN g76_c_1 o76_c_1 b76_c_1 18446744073709551616
theorem at76_c_1 : Code.at [true, false] c76 = .loop (Code.at [true, false, false] c76) := by kernel_rfl
theorem s76_c_1_ok : SubOk P Go.Proofs.Try.f76.ntmps fx76_c (Code.at [true, false] c76) ⟨g76_c_1, o76_c_1, l76_c_1⟩ := by
  rw [at76_c_1]
  exact loop_ok (sub_ok (g := g76_c_1) (outs := ((.normal, g76_c_1) :: o76_c_1)) (f := b76_c_1) (Table.ok T88_ok _) hmix (planAt_ok (P := P) (n := Go.Proofs.Try.f76.ntmps) (fx := fx76_c) (c := (Code.at [true, false, false] c76)) (d := 64) (l := []) trivial) b76_c_1_eq) rfl _
noncomputable def f76_c (x : gi76_c.D) : Option go76_c.D :=
  (if ((List.length x.2.2.2.2.2.2.1) = (List.length x.2.2.2.2.2.2.1)) then (if ((List.length x.2.2.2.2.2.2.2.2.2.2.1) = (List.length x.2.2.2.2.2.2.2.2.2.2.1)) then (Option.bind (Go.Ev.Zlib.l76_c_1 (x.1, (x.2.1, (x.2.2.1, (x.2.2.2.1, (x.2.2.2.2.1, (x.2.2.2.2.2.1, (x.2.2.2.2.2.2.2.1, (x.2.2.2.2.2.2.2.2.1, (x.2.2.2.2.2.2.2.2.2.1, (x.2.2.2.2.2.2.2.2.2.2.1, (x.2.2.2.2.2.2.1, Unit.unit)))))))))))) (Sum.elim (fun y1 => (if ((List.length y1.2.2.2.2.2.2.2.2.2.2.2.1) = (List.length y1.2.2.2.2.2.2.2.2.2.2.2.1)) then (if ((List.length y1.2.2.2.2.2.2.2.2.2.2.1) = (List.length y1.2.2.2.2.2.2.2.2.2.2.1)) then (some (y1.1, (y1.2.1, (y1.2.2.1, (y1.2.2.2.1, (y1.2.2.2.2.1, (y1.2.2.2.2.2.1, (y1.2.2.2.2.2.2.1, (y1.2.2.2.2.2.2.2.1, (y1.2.2.2.2.2.2.2.2.1, (y1.2.2.2.2.2.2.2.2.2.1, (y1.2.2.2.2.2.2.2.2.2.2.1, (y1.2.2.2.2.2.2.2.2.2.2.2.1, Unit.unit)))))))))))))
   else none)
   else none)) Empty.elim))
   else none)
   else none)
theorem f76_c_eq (x : gi76_c.D) : f76_c x = evF P (T88.orc _) Go.Proofs.Try.f76.ntmps fx76_c c76 (planAt 64 [([true, false], ⟨g76_c_1, o76_c_1, l76_c_1⟩)]) gi76_c x (fnK fx76_c [go76_c]) := by kernel_rfl
theorem pf76_c : AllSub P Go.Proofs.Try.f76.ntmps fx76_c c76 [([true, false], ⟨g76_c_1, o76_c_1, l76_c_1⟩)] := And.intro s76_c_1_ok (trivial)
theorem qf76_c : PlanOk P Go.Proofs.Try.f76.ntmps fx76_c (planAt 64 [([true, false], ⟨g76_c_1, o76_c_1, l76_c_1⟩)]) c76 := planAt_ok pf76_c
theorem f76_c_ok : EntOk P 76 ⟨gi76_c, [go76_c], f76_c⟩ :=
  ent_ok (fn := Go.Proofs.Try.f76) (gi := gi76_c) (gos := [go76_c]) (f := f76_c) (c := c76) (fx := fx76_c) ⟨Go.Proofs.Try.func76, by kernel_rfl, rfl, by decide +kernel, rfl, rfl⟩ (by kernel_rfl) (Table.ok T88_ok _) hmix (qf76_c) f76_c_eq
abbrev gi76_d : Sg := ⟨[0, 1, 2], [.lf (.ptr 0 0), .lf (.ptr 3 0), .lf (.ptr 5 0)], [some (.box true [.lf (.ptr 1 0), .lf (.gr (.pair (.int .i64) (.pair (.int .i64) (.int .i64))) 2), .lf (.int .i64), .lf (.int .i64)]), some (.box true [.lf (.sl (.int .u8)), .lf (.int .i64), .lf (.int .i64), .lf (.int .i64)]), some (.arr true (.pair (.int .i64) (.pair (.int .i64) (.int .i64)))), some (.box true [.many (.int .i64) 16, .lf (.sl (.int .i64)), .lf (.sl (.int .i64)), .lf (.gr (.int .i64) 4)]), some (.arr true (.int .i64)), some (.box true [.many (.int .i64) 16, .lf (.sl (.int .i64)), .lf (.sl (.int .i64)), .lf (.gr (.int .i64) 6)]), some (.arr true (.int .i64))]⟩
abbrev go76_d : Sg := ⟨[6], [.lf (.int .i64)], [some (.box true [.lf (.ptr 1 0), .lf (.gr (.pair (.int .i64) (.pair (.int .i64) (.int .i64))) 7), .lf (.int .i64), .lf (.int .i64)]), some (.box true [.lf (.sl (.int .u8)), .lf (.int .i64), .lf (.int .i64), .lf (.int .i64)]), none, some (.box true [.many (.int .i64) 16, .lf (.sl (.int .i64)), .lf (.sl (.int .i64)), .lf (.gr (.int .i64) 4)]), some (.arr true (.int .i64)), some (.box true [.many (.int .i64) 16, .lf (.sl (.int .i64)), .lf (.sl (.int .i64)), .lf (.gr (.int .i64) 6)]), some (.arr true (.int .i64)), some (.arr true (.pair (.int .i64) (.pair (.int .i64) (.int .i64))))]⟩
def fx76_d : List Bool := [true, true, false, true, true, true, true]
abbrev g76_d_1 : Sg := ⟨[0, 1, 2], [.lf (.ptr 0 0), .lf (.ptr 3 0), .lf (.ptr 5 0)], [some (.box true [.lf (.ptr 1 0), .lf (.gr (.pair (.int .i64) (.pair (.int .i64) (.int .i64))) 7), .lf (.int .i64), .lf (.int .i64)]), some (.box true [.lf (.sl (.int .u8)), .lf (.int .i64), .lf (.int .i64), .lf (.int .i64)]), none, some (.box true [.many (.int .i64) 16, .lf (.sl (.int .i64)), .lf (.sl (.int .i64)), .lf (.gr (.int .i64) 4)]), some (.arr true (.int .i64)), some (.box true [.many (.int .i64) 16, .lf (.sl (.int .i64)), .lf (.sl (.int .i64)), .lf (.gr (.int .i64) 6)]), some (.arr true (.int .i64)), some (.arr true (.pair (.int .i64) (.pair (.int .i64) (.int .i64))))]⟩
abbrev o76_d_1 : Outs := [(.ret, ⟨[6], [.lf (.int .i64)], [some (.box true [.lf (.ptr 1 0), .lf (.gr (.pair (.int .i64) (.pair (.int .i64) (.int .i64))) 7), .lf (.int .i64), .lf (.int .i64)]), some (.box true [.lf (.sl (.int .u8)), .lf (.int .i64), .lf (.int .i64), .lf (.int .i64)]), none, some (.box true [.many (.int .i64) 16, .lf (.sl (.int .i64)), .lf (.sl (.int .i64)), .lf (.gr (.int .i64) 4)]), some (.arr true (.int .i64)), some (.box true [.many (.int .i64) 16, .lf (.sl (.int .i64)), .lf (.sl (.int .i64)), .lf (.gr (.int .i64) 6)]), some (.arr true (.int .i64)), some (.arr true (.pair (.int .i64) (.pair (.int .i64) (.int .i64))))]⟩)]
noncomputable def b76_d_1 (x : g76_d_1.D) : Option (outD ((.normal, g76_d_1) :: o76_d_1)) :=
  (if ((List.length x.2.2.2.2.2.2.2.2.2.1) = (List.length x.2.2.2.2.2.2.2.2.2.1)) then (Option.bind (Go.Ev.Zlib.f86_b (x.2.2.2.2.2.2.1, (x.2.2.2.2.2.2.2.1, (x.2.2.2.2.2.2.2.2.1, (x.2.2.2.2.2.2.2.2.2.1, (x.2.2.1, (x.2.2.2.1, (x.2.2.2.2.1, (x.2.2.2.2.2.1, Unit.unit))))))))) (fun y1 => (if ((y1.2.1 != (0 : Int)) = true) then (if ((List.length x.2.2.2.2.2.2.2.2.2.2.2.2.2.2.1) = (List.length x.2.2.2.2.2.2.2.2.2.2.2.2.2.2.1)) then (if ((List.length y1.2.2.2.2.2.1) = (List.length y1.2.2.2.2.2.1)) then (if ((List.length x.2.2.2.2.2.2.2.2.2.2.2.2.2.1) = (List.length x.2.2.2.2.2.2.2.2.2.2.2.2.2.1)) then (some (Sum.inr (Sum.inl (y1.2.1, (x.1, (x.2.1, (y1.2.2.2.2.2.2.1, (y1.2.2.2.2.2.2.2.1, (y1.2.2.2.2.2.2.2.2.1, (y1.2.2.2.2.2.2.2.2.2.1, (y1.2.2.1, (y1.2.2.2.1, (y1.2.2.2.2.1, (y1.2.2.2.2.2.1, (x.2.2.2.2.2.2.2.2.2.2.1, (x.2.2.2.2.2.2.2.2.2.2.2.1, (x.2.2.2.2.2.2.2.2.2.2.2.2.1, (x.2.2.2.2.2.2.2.2.2.2.2.2.2.1, (x.2.2.2.2.2.2.2.2.2.2.2.2.2.2.1, Unit.unit)))))))))))))))))))
   else none)
   else none)
   else none)
   else (if ((y1.1 == (256 : Int)) = true) then (if ((List.length x.2.2.2.2.2.2.2.2.2.2.2.2.2.2.1) = (List.length x.2.2.2.2.2.2.2.2.2.2.2.2.2.2.1)) then (if ((List.length y1.2.2.2.2.2.1) = (List.length y1.2.2.2.2.2.1)) then (if ((List.length x.2.2.2.2.2.2.2.2.2.2.2.2.2.1) = (List.length x.2.2.2.2.2.2.2.2.2.2.2.2.2.1)) then (some (Sum.inr (Sum.inl ((0 : Int), (x.1, (x.2.1, (y1.2.2.2.2.2.2.1, (y1.2.2.2.2.2.2.2.1, (y1.2.2.2.2.2.2.2.2.1, (y1.2.2.2.2.2.2.2.2.2.1, (y1.2.2.1, (y1.2.2.2.1, (y1.2.2.2.2.1, (y1.2.2.2.2.2.1, (x.2.2.2.2.2.2.2.2.2.2.1, (x.2.2.2.2.2.2.2.2.2.2.2.1, (x.2.2.2.2.2.2.2.2.2.2.2.2.1, (x.2.2.2.2.2.2.2.2.2.2.2.2.2.1, (x.2.2.2.2.2.2.2.2.2.2.2.2.2.2.1, Unit.unit)))))))))))))))))))
   else none)
   else none)
   else none)
   else (if ((decide (y1.1 > (285 : Int))) = true) then (if ((List.length x.2.2.2.2.2.2.2.2.2.2.2.2.2.2.1) = (List.length x.2.2.2.2.2.2.2.2.2.2.2.2.2.2.1)) then (if ((List.length y1.2.2.2.2.2.1) = (List.length y1.2.2.2.2.2.1)) then (if ((List.length x.2.2.2.2.2.2.2.2.2.2.2.2.2.1) = (List.length x.2.2.2.2.2.2.2.2.2.2.2.2.2.1)) then (some (Sum.inr (Sum.inl ((4 : Int), (x.1, (x.2.1, (y1.2.2.2.2.2.2.1, (y1.2.2.2.2.2.2.2.1, (y1.2.2.2.2.2.2.2.2.1, (y1.2.2.2.2.2.2.2.2.2.1, (y1.2.2.1, (y1.2.2.2.1, (y1.2.2.2.2.1, (y1.2.2.2.2.2.1, (x.2.2.2.2.2.2.2.2.2.2.1, (x.2.2.2.2.2.2.2.2.2.2.2.1, (x.2.2.2.2.2.2.2.2.2.2.2.2.1, (x.2.2.2.2.2.2.2.2.2.2.2.2.2.1, (x.2.2.2.2.2.2.2.2.2.2.2.2.2.2.1, Unit.unit)))))))))))))))))))
   else none)
   else none)
   else none)
   else (if ((decide (y1.1 < (256 : Int))) = true) then (if ((List.length x.2.2.2.2.2.2.2.2.2.2.2.2.2.2.1) = (List.length x.2.2.2.2.2.2.2.2.2.2.2.2.2.2.1)) then (Option.bind (Go.Ev.Zlib.f75 (y1.1, ((0 : Int), ((0 : Int), (x.1, (x.2.1, (y1.2.2.2.2.2.2.1, (y1.2.2.2.2.2.2.2.1, (y1.2.2.2.2.2.2.2.2.1, (y1.2.2.2.2.2.2.2.2.2.1, (x.2.2.2.2.2.2.2.2.2.2.2.2.2.2.1, Unit.unit))))))))))) (fun y2 => (if ((y2.1 != (0 : Int)) = true) then (if ((List.length y2.2.2.2.2.2.2.2.1) = (List.length y2.2.2.2.2.2.2.2.1)) then (if ((List.length y1.2.2.2.2.2.1) = (List.length y1.2.2.2.2.2.1)) then (if ((List.length x.2.2.2.2.2.2.2.2.2.2.2.2.2.1) = (List.length x.2.2.2.2.2.2.2.2.2.2.2.2.2.1)) then (some (Sum.inr (Sum.inl (y2.1, (y2.2.1, (y2.2.2.1, (y2.2.2.2.1, (y2.2.2.2.2.1, (y2.2.2.2.2.2.1, (y2.2.2.2.2.2.2.1, (y1.2.2.1, (y1.2.2.2.1, (y1.2.2.2.2.1, (y1.2.2.2.2.2.1, (x.2.2.2.2.2.2.2.2.2.2.1, (x.2.2.2.2.2.2.2.2.2.2.2.1, (x.2.2.2.2.2.2.2.2.2.2.2.2.1, (x.2.2.2.2.2.2.2.2.2.2.2.2.2.1, (y2.2.2.2.2.2.2.2.1, Unit.unit)))))))))))))))))))
   else none)
   else none)
   else none)
   else (if ((List.length y2.2.2.2.2.2.2.2.1) = (List.length y2.2.2.2.2.2.2.2.1)) then (if ((List.length y1.2.2.2.2.2.1) = (List.length y1.2.2.2.2.2.1)) then (if ((List.length x.2.2.2.2.2.2.2.2.2.2.2.2.2.1) = (List.length x.2.2.2.2.2.2.2.2.2.2.2.2.2.1)) then (some (Sum.inl (y2.2.1, (y2.2.2.1, (y2.2.2.2.1, (y2.2.2.2.2.1, (y2.2.2.2.2.2.1, (y2.2.2.2.2.2.2.1, (y1.2.2.1, (y1.2.2.2.1, (y1.2.2.2.2.1, (y1.2.2.2.2.2.1, (x.2.2.2.2.2.2.2.2.2.2.1, (x.2.2.2.2.2.2.2.2.2.2.2.1, (x.2.2.2.2.2.2.2.2.2.2.2.2.1, (x.2.2.2.2.2.2.2.2.2.2.2.2.2.1, (y2.2.2.2.2.2.2.2.1, Unit.unit)))))))))))))))))
   else none)
   else none)
   else none))))
   else none)
   else (Option.bind (Go.Ev.Zlib.f87 (y1.1, Unit.unit)) (fun y2 => (Option.bind (Go.Ev.Zlib.f72 (y2.2.1, (y1.2.2.2.2.2.2.1, (y1.2.2.2.2.2.2.2.1, (y1.2.2.2.2.2.2.2.2.1, (y1.2.2.2.2.2.2.2.2.2.1, Unit.unit)))))) (fun y3 => (if ((y3.2.1 != (0 : Int)) = true) then (if ((List.length x.2.2.2.2.2.2.2.2.2.2.2.2.2.2.1) = (List.length x.2.2.2.2.2.2.2.2.2.2.2.2.2.2.1)) then (if ((List.length y1.2.2.2.2.2.1) = (List.length y1.2.2.2.2.2.1)) then (if ((List.length x.2.2.2.2.2.2.2.2.2.2.2.2.2.1) = (List.length x.2.2.2.2.2.2.2.2.2.2.2.2.2.1)) then (some (Sum.inr (Sum.inl (y3.2.1, (x.1, (x.2.1, (y3.2.2.1, (y3.2.2.2.1, (y3.2.2.2.2.1, (y3.2.2.2.2.2.1, (y1.2.2.1, (y1.2.2.2.1, (y1.2.2.2.2.1, (y1.2.2.2.2.2.1, (x.2.2.2.2.2.2.2.2.2.2.1, (x.2.2.2.2.2.2.2.2.2.2.2.1, (x.2.2.2.2.2.2.2.2.2.2.2.2.1, (x.2.2.2.2.2.2.2.2.2.2.2.2.2.1, (x.2.2.2.2.2.2.2.2.2.2.2.2.2.2.1, Unit.unit)))))))))))))))))))
   else none)
   else none)
   else none)
   else (if ((List.length x.2.2.2.2.2.2.2.2.2.2.2.2.2.1) = (List.length x.2.2.2.2.2.2.2.2.2.2.2.2.2.1)) then (Option.bind (Go.Ev.Zlib.f86_b (x.2.2.2.2.2.2.2.2.2.2.1, (x.2.2.2.2.2.2.2.2.2.2.2.1, (x.2.2.2.2.2.2.2.2.2.2.2.2.1, (x.2.2.2.2.2.2.2.2.2.2.2.2.2.1, (y3.2.2.1, (y3.2.2.2.1, (y3.2.2.2.2.1, (y3.2.2.2.2.2.1, Unit.unit))))))))) (fun y4 => (if ((y4.2.1 != (0 : Int)) = true) then (if ((List.length x.2.2.2.2.2.2.2.2.2.2.2.2.2.2.1) = (List.length x.2.2.2.2.2.2.2.2.2.2.2.2.2.2.1)) then (if ((List.length y1.2.2.2.2.2.1) = (List.length y1.2.2.2.2.2.1)) then (if ((List.length y4.2.2.2.2.2.1) = (List.length y4.2.2.2.2.2.1)) then (some (Sum.inr (Sum.inl (y4.2.1, (x.1, (x.2.1, (y4.2.2.2.2.2.2.1, (y4.2.2.2.2.2.2.2.1, (y4.2.2.2.2.2.2.2.2.1, (y4.2.2.2.2.2.2.2.2.2.1, (y1.2.2.1, (y1.2.2.2.1, (y1.2.2.2.2.1, (y1.2.2.2.2.2.1, (y4.2.2.1, (y4.2.2.2.1, (y4.2.2.2.2.1, (y4.2.2.2.2.2.1, (x.2.2.2.2.2.2.2.2.2.2.2.2.2.2.1, Unit.unit)))))))))))))))))))
   else none)
   else none)
   else none)
   else (if ((decide (y4.1 ≥ (30 : Int))) = true) then (if ((List.length x.2.2.2.2.2.2.2.2.2.2.2.2.2.2.1) = (List.length x.2.2.2.2.2.2.2.2.2.2.2.2.2.2.1)) then (if ((List.length y1.2.2.2.2.2.1) = (List.length y1.2.2.2.2.2.1)) then (if ((List.length y4.2.2.2.2.2.1) = (List.length y4.2.2.2.2.2.1)) then (some (Sum.inr (Sum.inl ((4 : Int), (x.1, (x.2.1, (y4.2.2.2.2.2.2.1, (y4.2.2.2.2.2.2.2.1, (y4.2.2.2.2.2.2.2.2.1, (y4.2.2.2.2.2.2.2.2.2.1, (y1.2.2.1, (y1.2.2.2.1, (y1.2.2.2.2.1, (y1.2.2.2.2.2.1, (y4.2.2.1, (y4.2.2.2.1, (y4.2.2.2.2.1, (y4.2.2.2.2.2.1, (x.2.2.2.2.2.2.2.2.2.2.2.2.2.2.1, Unit.unit)))))))))))))))))))
   else none)
   else none)
   else none)
   else (Option.bind (Go.Ev.Zlib.f88 (y4.1, Unit.unit)) (fun y5 => (Option.bind (Go.Ev.Zlib.f72 (y5.2.1, (y4.2.2.2.2.2.2.1, (y4.2.2.2.2.2.2.2.1, (y4.2.2.2.2.2.2.2.2.1, (y4.2.2.2.2.2.2.2.2.2.1, Unit.unit)))))) (fun y6 => (if ((y6.2.1 != (0 : Int)) = true) then (if ((List.length x.2.2.2.2.2.2.2.2.2.2.2.2.2.2.1) = (List.length x.2.2.2.2.2.2.2.2.2.2.2.2.2.2.1)) then (if ((List.length y1.2.2.2.2.2.1) = (List.length y1.2.2.2.2.2.1)) then (if ((List.length y4.2.2.2.2.2.1) = (List.length y4.2.2.2.2.2.1)) then (some (Sum.inr (Sum.inl (y6.2.1, (x.1, (x.2.1, (y6.2.2.1, (y6.2.2.2.1, (y6.2.2.2.2.1, (y6.2.2.2.2.2.1, (y1.2.2.1, (y1.2.2.2.1, (y1.2.2.2.2.1, (y1.2.2.2.2.2.1, (y4.2.2.1, (y4.2.2.2.1, (y4.2.2.2.2.1, (y4.2.2.2.2.2.1, (x.2.2.2.2.2.2.2.2.2.2.2.2.2.2.1, Unit.unit)))))))))))))))))))
   else none)
   else none)
   else none)
   else (if ((List.length x.2.2.2.2.2.2.2.2.2.2.2.2.2.2.1) = (List.length x.2.2.2.2.2.2.2.2.2.2.2.2.2.2.1)) then (Option.bind (Go.Ev.Zlib.f75 ((0 : Int), ((Go.IntKind.wrap Go.IntKind.i64 (y2.1 + y3.1)), ((Go.IntKind.wrap Go.IntKind.i64 (y5.1 + y6.1)), (x.1, (x.2.1, (y6.2.2.1, (y6.2.2.2.1, (y6.2.2.2.2.1, (y6.2.2.2.2.2.1, (x.2.2.2.2.2.2.2.2.2.2.2.2.2.2.1, Unit.unit))))))))))) (fun y7 => (if ((y7.1 != (0 : Int)) = true) then (if ((List.length y7.2.2.2.2.2.2.2.1) = (List.length y7.2.2.2.2.2.2.2.1)) then (if ((List.length y1.2.2.2.2.2.1) = (List.length y1.2.2.2.2.2.1)) then (if ((List.length y4.2.2.2.2.2.1) = (List.length y4.2.2.2.2.2.1)) then (some (Sum.inr (Sum.inl (y7.1, (y7.2.1, (y7.2.2.1, (y7.2.2.2.1, (y7.2.2.2.2.1, (y7.2.2.2.2.2.1, (y7.2.2.2.2.2.2.1, (y1.2.2.1, (y1.2.2.2.1, (y1.2.2.2.2.1, (y1.2.2.2.2.2.1, (y4.2.2.1, (y4.2.2.2.1, (y4.2.2.2.2.1, (y4.2.2.2.2.2.1, (y7.2.2.2.2.2.2.2.1, Unit.unit)))))))))))))))))))
   else none)
   else none)
   else none)
   else (if ((List.length y7.2.2.2.2.2.2.2.1) = (List.length y7.2.2.2.2.2.2.2.1)) then (if ((List.length y1.2.2.2.2.2.1) = (List.length y1.2.2.2.2.2.1)) then (if ((List.length y4.2.2.2.2.2.1) = (List.length y4.2.2.2.2.2.1)) then (some (Sum.inl (y7.2.1, (y7.2.2.1, (y7.2.2.2.1, (y7.2.2.2.2.1, (y7.2.2.2.2.2.1, (y7.2.2.2.2.2.2.1, (y1.2.2.1, (y1.2.2.2.1, (y1.2.2.2.2.1, (y1.2.2.2.2.2.1, (y4.2.2.1, (y4.2.2.2.1, (y4.2.2.2.2.1, (y4.2.2.2.2.2.1, (y7.2.2.2.2.2.2.2.1, Unit.unit)))))))))))))))))
   else none)
   else none)
   else none))))
   else none))))))))))
   else none))))))))))))
   else none)
theorem b76_d_1_eq (x : g76_d_1.D) : b76_d_1 x = evF P (T88.orc _) Go.Proofs.Try.f76.ntmps fx76_d (Code.at [true, false, false] c76) (planAt 64 []) g76_d_1 x (injK fx76_d ((.normal, g76_d_1) :: o76_d_1) some) := by kernel_rfl
noncomputable def l76_d_1 : g76_d_1.D → Option (outD o76_d_1) := loopN g76_d_1 o76_d_1 b76_d_1 18446744073709551616
theorem at76_d_1 : Code.at [true, false] c76 = .loop (Code.at [true, false, false] c76) := by kernel_rfl
theorem s76_d_1_ok : SubOk P Go.Proofs.Try.f76.ntmps fx76_d (Code.at [true, false] c76) ⟨g76_d_1, o76_d_1, l76_d_1⟩ := by
  rw [at76_d_1]
  exact loop_ok (sub_ok (g := g76_d_1) (outs := ((.normal, g76_d_1) :: o76_d_1)) (f := b76_d_1) (Table.ok T88_ok _) hmix (planAt_ok (P := P) (n := Go.Proofs.Try.f76.ntmps) (fx := fx76_d) (c := (Code.at [true, false, false] c76)) (d := 64) (l := []) trivial) b76_d_1_eq) rfl _
noncomputable def f76_d (x : gi76_d.D) : Option go76_d.D :=
  (if ((List.length x.2.2.2.2.2.2.1) = (List.length x.2.2.2.2.2.2.1)) then (if ((List.length x.2.2.2.2.2.2.2.2.2.2.1) = (List.length x.2.2.2.2.2.2.2.2.2.2.1)) then (if ((List.length x.2.2.2.2.2.2.2.2.2.2.2.2.2.2.1) = (List.length x.2.2.2.2.2.2.2.2.2.2.2.2.2.2.1)) then (Option.bind (Go.Ev.Zlib.l76_d_1 (x.1, (x.2.1, (x.2.2.1, (x.2.2.2.1, (x.2.2.2.2.1, (x.2.2.2.2.2.1, (x.2.2.2.2.2.2.2.1, (x.2.2.2.2.2.2.2.2.1, (x.2.2.2.2.2.2.2.2.2.1, (x.2.2.2.2.2.2.2.2.2.2.1, (x.2.2.2.2.2.2.2.2.2.2.2.1, (x.2.2.2.2.2.2.2.2.2.2.2.2.1, (x.2.2.2.2.2.2.2.2.2.2.2.2.2.1, (x.2.2.2.2.2.2.2.2.2.2.2.2.2.2.1, (x.2.2.2.2.2.2.1, Unit.unit)))))))))))))))) (Sum.elim (fun y1 => (if ((List.length y1.2.2.2.2.2.2.2.2.2.2.2.2.2.2.2.1) = (List.length y1.2.2.2.2.2.2.2.2.2.2.2.2.2.2.2.1)) then (if ((List.length y1.2.2.2.2.2.2.2.2.2.2.1) = (List.length y1.2.2.2.2.2.2.2.2.2.2.1)) then (if ((List.length y1.2.2.2.2.2.2.2.2.2.2.2.2.2.2.1) = (List.length y1.2.2.2.2.2.2.2.2.2.2.2.2.2.2.1)) then (some (y1.1, (y1.2.1, (y1.2.2.1, (y1.2.2.2.1, (y1.2.2.2.2.1, (y1.2.2.2.2.2.1, (y1.2.2.2.2.2.2.1, (y1.2.2.2.2.2.2.2.1, (y1.2.2.2.2.2.2.2.2.1, (y1.2.2.2.2.2.2.2.2.2.1, (y1.2.2.2.2.2.2.2.2.2.2.1, (y1.2.2.2.2.2.2.2.2.2.2.2.1, (y1.2.2.2.2.2.2.2.2.2.2.2.2.1, (y1.2.2.2.2.2.2.2.2.2.2.2.2.2.1, (y1.2.2.2.2.2.2.2.2.2.2.2.2.2.2.1, (y1.2.2.2.2.2.2.2.2.2.2.2.2.2.2.2.1, Unit.unit)))))))))))))))))
   else none)
   else none)
   else none)) Empty.elim))
   else none)
   else none)
   else none)
theorem f76_d_eq (x : gi76_d.D) : f76_d x = evF P (T88.orc _) Go.Proofs.Try.f76.ntmps fx76_d c76 (planAt 64 [([true, false], ⟨g76_d_1, o76_d_1, l76_d_1⟩)]) gi76_d x (fnK fx76_d [go76_d]) := by kernel_rfl
theorem pf76_d : AllSub P Go.Proofs.Try.f76.ntmps fx76_d c76 [([true, false], ⟨g76_d_1, o76_d_1, l76_d_1⟩)] := And.intro s76_d_1_ok (trivial)
theorem qf76_d : PlanOk P Go.Proofs.Try.f76.ntmps fx76_d (planAt 64 [([true, false], ⟨g76_d_1, o76_d_1, l76_d_1⟩)]) c76 := planAt_ok pf76_d
theorem f76_d_ok : EntOk P 76 ⟨gi76_d, [go76_d], f76_d⟩ :=
  ent_ok (fn := Go.Proofs.Try.f76) (gi := gi76_d) (gos := [go76_d]) (f := f76_d) (c := c76) (fx := fx76_d) ⟨Go.Proofs.Try.func76, by kernel_rfl, rfl, by decide +kernel, rfl, rfl⟩ (by kernel_rfl) (Table.ok T88_ok _) hmix (qf76_d) f76_d_eq
noncomputable def T76 : Table := T88.add 76 [⟨gi76, [go76], f76⟩, ⟨gi76_b, [go76_b], f76_b⟩, ⟨gi76_c, [go76_c], f76_c⟩, ⟨gi76_d, [go76_d], f76_d⟩] []
theorem T76_ok : TableOk P T76 := Table.plus T88_ok (es := [⟨gi76, [go76], f76⟩, ⟨gi76_b, [go76_b], f76_b⟩, ⟨gi76_c, [go76_c], f76_c⟩, ⟨gi76_d, [go76_d], f76_d⟩]) ⟨f76_ok, f76_b_ok, f76_c_ok, f76_d_ok, trivial⟩ []

/-! ## 53: (*erasure/inflate.work).fixed -/
noncomputable def c53 : Code := Func.code Go.Proofs.Try.f53
abbrev gi53 : Sg := ⟨[0], [.lf (.ptr 0 0)], [some (.box true [.lf (.ptr 1 0), .lf (.gr (.pair (.int .i64) (.pair (.int .i64) (.int .i64))) 2), .lf (.int .i64), .lf (.int .i64)]), some (.box true [.lf (.sl (.int .u8)), .lf (.int .i64), .lf (.int .i64), .lf (.int .i64)]), some (.arr true (.pair (.int .i64) (.pair (.int .i64) (.int .i64))))]⟩
abbrev go53 : Sg := ⟨[2], [.lf (.int .i64)], [some (.box true [.lf (.ptr 1 0), .lf (.gr (.pair (.int .i64) (.pair (.int .i64) (.int .i64))) 3), .lf (.int .i64), .lf (.int .i64)]), some (.box true [.lf (.sl (.int .u8)), .lf (.int .i64), .lf (.int .i64), .lf (.int .i64)]), none, some (.arr true (.pair (.int .i64) (.pair (.int .i64) (.int .i64))))]⟩
def fx53 : List Bool := [true, true, false]
noncomputable def f53 (x : gi53.D) : Option go53.D :=
  (Option.bind (Go.Ev.Zlib.f33 Unit.unit) (fun y1 => (Option.bind (Go.Ev.Zlib.f32 ((List.take (List.length y1.1) (List.drop (0 : Nat) y1.1)), Unit.unit)) (Sum.elim (fun y2 => (if ((y2.1 != (0 : Int)) = true) then (if ((List.length x.2.2.2.2.2.2.1) = (List.length x.2.2.2.2.2.2.1)) then (some (y2.1, (x.1, (x.2.1, (x.2.2.1, (x.2.2.2.1, (x.2.2.2.2.1, (x.2.2.2.2.2.1, (x.2.2.2.2.2.2.1, Unit.unit)))))))))
   else none)
   else (Option.bind (Go.Ev.Zlib.f34 ((List.take (1 : Nat) (List.drop (0 : Nat) (List.set (List.replicate (1 : Nat) (0 : Int)) (0 : Nat) (5 : Int)))), ((32 : Int), Unit.unit))) (fun y3 => (Option.bind (Go.Ev.Zlib.f32 ((List.take (List.length y3.1) (List.drop (0 : Nat) y3.1)), Unit.unit)) (Sum.elim (fun y4 => (if ((y4.1 != (0 : Int)) = true) then (if ((List.length x.2.2.2.2.2.2.1) = (List.length x.2.2.2.2.2.2.1)) then (some (y4.1, (x.1, (x.2.1, (x.2.2.1, (x.2.2.2.1, (x.2.2.2.2.1, (x.2.2.2.2.2.1, (x.2.2.2.2.2.2.1, Unit.unit)))))))))
   else none)
   else (if ((List.length x.2.2.2.2.2.2.1) = (List.length x.2.2.2.2.2.2.1)) then (Option.bind (Go.Ev.Zlib.f76 (x.1, (x.2.1, (x.2.2.1, (x.2.2.2.1, (x.2.2.2.2.1, (x.2.2.2.2.2.1, (x.2.2.2.2.2.2.1, Unit.unit)))))))) (fun y5 => (if ((List.length y5.2.2.2.2.2.2.2.1) = (List.length y5.2.2.2.2.2.2.2.1)) then (some (y5.1, (y5.2.1, (y5.2.2.1, (y5.2.2.2.1, (y5.2.2.2.2.1, (y5.2.2.2.2.2.1, (y5.2.2.2.2.2.2.1, (y5.2.2.2.2.2.2.2.1, Unit.unit)))))))))
   else none)))
   else none))) (fun y4 => (if ((y4.1 != (0 : Int)) = true) then (if ((List.length x.2.2.2.2.2.2.1) = (List.length x.2.2.2.2.2.2.1)) then (some (y4.1, (x.1, (x.2.1, (x.2.2.1, (x.2.2.2.1, (x.2.2.2.2.1, (x.2.2.2.2.2.1, (x.2.2.2.2.2.2.1, Unit.unit)))))))))
   else none)
   else (if ((List.length x.2.2.2.2.2.2.1) = (List.length x.2.2.2.2.2.2.1)) then (if ((List.length y4.2.2.2.2.1) = (List.length y4.2.2.2.2.1)) then (Option.bind (Go.Ev.Zlib.f76_b (x.1, (x.2.1, (x.2.2.1, (x.2.2.2.1, (x.2.2.2.2.1, (x.2.2.2.2.2.1, (x.2.2.2.2.2.2.1, (y4.2.1, (y4.2.2.1, (y4.2.2.2.1, (y4.2.2.2.2.1, Unit.unit)))))))))))) (fun y5 => (if ((List.length y5.2.2.2.2.2.2.2.2.2.2.2.1) = (List.length y5.2.2.2.2.2.2.2.2.2.2.2.1)) then (some (y5.1, (y5.2.1, (y5.2.2.1, (y5.2.2.2.1, (y5.2.2.2.2.1, (y5.2.2.2.2.2.1, (y5.2.2.2.2.2.2.1, (y5.2.2.2.2.2.2.2.2.2.2.2.1, Unit.unit)))))))))
   else none)))
   else none)
   else none))))))))) (fun y2 => (if ((y2.1 != (0 : Int)) = true) then (if ((List.length x.2.2.2.2.2.2.1) = (List.length x.2.2.2.2.2.2.1)) then (some (y2.1, (x.1, (x.2.1, (x.2.2.1, (x.2.2.2.1, (x.2.2.2.2.1, (x.2.2.2.2.2.1, (x.2.2.2.2.2.2.1, Unit.unit)))))))))
   else none)
   else (Option.bind (Go.Ev.Zlib.f34 ((List.take (1 : Nat) (List.drop (0 : Nat) (List.set (List.replicate (1 : Nat) (0 : Int)) (0 : Nat) (5 : Int)))), ((32 : Int), Unit.unit))) (fun y3 => (Option.bind (Go.Ev.Zlib.f32 ((List.take (List.length y3.1) (List.drop (0 : Nat) y3.1)), Unit.unit)) (Sum.elim (fun y4 => (if ((y4.1 != (0 : Int)) = true) then (if ((List.length x.2.2.2.2.2.2.1) = (List.length x.2.2.2.2.2.2.1)) then (some (y4.1, (x.1, (x.2.1, (x.2.2.1, (x.2.2.2.1, (x.2.2.2.2.1, (x.2.2.2.2.2.1, (x.2.2.2.2.2.2.1, Unit.unit)))))))))
   else none)
   else (if ((List.length x.2.2.2.2.2.2.1) = (List.length x.2.2.2.2.2.2.1)) then (if ((List.length y2.2.2.2.2.1) = (List.length y2.2.2.2.2.1)) then (Option.bind (Go.Ev.Zlib.f76_c (x.1, (x.2.1, (x.2.2.1, (x.2.2.2.1, (x.2.2.2.2.1, (x.2.2.2.2.2.1, (x.2.2.2.2.2.2.1, (y2.2.1, (y2.2.2.1, (y2.2.2.2.1, (y2.2.2.2.2.1, Unit.unit)))))))))))) (fun y5 => (if ((List.length y5.2.2.2.2.2.2.2.2.2.2.2.1) = (List.length y5.2.2.2.2.2.2.2.2.2.2.2.1)) then (some (y5.1, (y5.2.1, (y5.2.2.1, (y5.2.2.2.1, (y5.2.2.2.2.1, (y5.2.2.2.2.2.1, (y5.2.2.2.2.2.2.1, (y5.2.2.2.2.2.2.2.2.2.2.2.1, Unit.unit)))))))))
   else none)))
   else none)
   else none))) (fun y4 => (if ((y4.1 != (0 : Int)) = true) then (if ((List.length x.2.2.2.2.2.2.1) = (List.length x.2.2.2.2.2.2.1)) then (some (y4.1, (x.1, (x.2.1, (x.2.2.1, (x.2.2.2.1, (x.2.2.2.2.1, (x.2.2.2.2.2.1, (x.2.2.2.2.2.2.1, Unit.unit)))))))))
   else none)
   else (if ((List.length x.2.2.2.2.2.2.1) = (List.length x.2.2.2.2.2.2.1)) then (if ((List.length y2.2.2.2.2.1) = (List.length y2.2.2.2.2.1)) then (if ((List.length y4.2.2.2.2.1) = (List.length y4.2.2.2.2.1)) then (Option.bind (Go.Ev.Zlib.f76_d (x.1, (x.2.1, (x.2.2.1, (x.2.2.2.1, (x.2.2.2.2.1, (x.2.2.2.2.2.1, (x.2.2.2.2.2.2.1, (y2.2.1, (y2.2.2.1, (y2.2.2.2.1, (y2.2.2.2.2.1, (y4.2.1, (y4.2.2.1, (y4.2.2.2.1, (y4.2.2.2.2.1, Unit.unit)))))))))))))))) (fun y5 => (if ((List.length y5.2.2.2.2.2.2.2.2.2.2.2.2.2.2.2.1) = (List.length y5.2.2.2.2.2.2.2.2.2.2.2.2.2.2.2.1)) then (some (y5.1, (y5.2.1, (y5.2.2.1, (y5.2.2.2.1, (y5.2.2.2.2.1, (y5.2.2.2.2.2.1, (y5.2.2.2.2.2.2.1, (y5.2.2.2.2.2.2.2.2.2.2.2.2.2.2.2.1, Unit.unit)))))))))
   else none)))
   else none)
   else none)
   else none)))))))))))))
theorem f53_eq (x : gi53.D) : f53 x = evF P (T76.orc _) Go.Proofs.Try.f53.ntmps fx53 c53 (planAt 64 []) gi53 x (fnK fx53 [go53]) := by kernel_rfl
theorem f53_ok : EntOk P 53 ⟨gi53, [go53], f53⟩ :=
  ent_ok (fn := Go.Proofs.Try.f53) (gi := gi53) (gos := [go53]) (f := f53) (c := c53) (fx := fx53) ⟨Go.Proofs.Try.func53, by kernel_rfl, rfl, by decide +kernel, rfl, rfl⟩ (by kernel_rfl) (Table.ok T76_ok _) hmix (planAt_ok (P := P) (n := Go.Proofs.Try.f53.ntmps) (fx := fx53) (c := c53) (d := 64) (l := []) trivial) f53_eq
noncomputable def T53 : Table := T76.add 53 [⟨gi53, [go53], f53⟩] []
theorem T53_ok : TableOk P T53 := Table.plus T76_ok (es := [⟨gi53, [go53], f53⟩]) ⟨f53_ok, trivial⟩ []

/-! ## 89: erasure/inflate.repeat -/
noncomputable def c89 : Code := Func.code Go.Proofs.Try.f89
abbrev gi89 : Sg := ⟨[0], [.lf (.int .i64)], []⟩
abbrev go89 : Sg := ⟨[2, 3, 4], [.lf (.int .i64), .lf (.int .i64), .lf .bool], []⟩
def fx89 : List Bool := []
noncomputable def f89 (x : gi89.D) : Option go89.D :=
  (if ((x.1 == (16 : Int)) = true) then (some ((2 : Int), ((3 : Int), (true, Unit.unit))))
   else (if ((x.1 == (17 : Int)) = true) then (some ((3 : Int), ((3 : Int), (false, Unit.unit))))
   else (some ((7 : Int), ((11 : Int), (false, Unit.unit))))))
theorem f89_eq (x : gi89.D) : f89 x = evF P (T53.orc _) Go.Proofs.Try.f89.ntmps fx89 c89 (planAt 64 []) gi89 x (fnK fx89 [go89]) := by kernel_rfl
theorem f89_ok : EntOk P 89 ⟨gi89, [go89], f89⟩ :=
  ent_ok (fn := Go.Proofs.Try.f89) (gi := gi89) (gos := [go89]) (f := f89) (c := c89) (fx := fx89) ⟨Go.Proofs.Try.func89, by kernel_rfl, rfl, by decide +kernel, rfl, rfl⟩ (by kernel_rfl) (Table.ok T53_ok _) hmix (planAt_ok (P := P) (n := Go.Proofs.Try.f89.ntmps) (fx := fx89) (c := c89) (d := 64) (l := []) trivial) f89_eq
noncomputable def T89 : Table := T53.add 89 [⟨gi89, [go89], f89⟩] []
theorem T89_ok : TableOk P T89 := Table.plus T53_ok (es := [⟨gi89, [go89], f89⟩]) ⟨f89_ok, trivial⟩ []

/-! ## 77: (*erasure/inflate.work).lengths -/
noncomputable def c77 : Code := Func.code Go.Proofs.Try.f77
abbrev gi77 : Sg := ⟨[0, 1, 2], [.lf (.ptr 0 0), .lf .nilp, .lf (.int .i64)], [some (.box true [.lf (.ptr 1 0), .lf (.gr (.pair (.int .i64) (.pair (.int .i64) (.int .i64))) 2), .lf (.int .i64), .lf (.int .i64)]), some (.box true [.lf (.sl (.int .u8)), .lf (.int .i64), .lf (.int .i64), .lf (.int .i64)]), some (.arr true (.pair (.int .i64) (.pair (.int .i64) (.int .i64))))]⟩
abbrev go77 : Sg := ⟨[6, 7], [.lf (.sl (.int .i64)), .lf (.int .i64)], [some (.box true [.lf (.ptr 1 0), .lf (.gr (.pair (.int .i64) (.pair (.int .i64) (.int .i64))) 2), .lf (.int .i64), .lf (.int .i64)]), some (.box true [.lf (.sl (.int .u8)), .lf (.int .i64), .lf (.int .i64), .lf (.int .i64)]), some (.arr true (.pair (.int .i64) (.pair (.int .i64) (.int .i64))))]⟩
def fx77 : List Bool := [true, true, true]
abbrev g77_2 : Sg := ⟨[0, 1, 2, 8, 11, 12, 13, 14], [.lf (.ptr 0 0), .lf .nilp, .lf (.int .i64), .lf (.gr (.int .i64) 3), .lf (.int .i64), .lf (.int .i64), .lf .bool, .lf (.int .i64)], [some (.box true [.lf (.ptr 1 0), .lf (.gr (.pair (.int .i64) (.pair (.int .i64) (.int .i64))) 2), .lf (.int .i64), .lf (.int .i64)]), some (.box true [.lf (.sl (.int .u8)), .lf (.int .i64), .lf (.int .i64), .lf (.int .i64)]), some (.arr true (.pair (.int .i64) (.pair (.int .i64) (.int .i64)))), some (.arr true (.int .i64))]⟩
abbrev o77_2 : Outs := [(.normal, ⟨[0, 1, 2, 8, 11, 12, 13, 14, 51], [.lf (.ptr 0 0), .lf .nilp, .lf (.int .i64), .lf (.gr (.int .i64) 3), .lf (.int .i64), .lf (.int .i64), .lf .bool, .lf (.int .i64), .lf .bool], [some (.box true [.lf (.ptr 1 0), .lf (.gr (.pair (.int .i64) (.pair (.int .i64) (.int .i64))) 2), .lf (.int .i64), .lf (.int .i64)]), some (.box true [.lf (.sl (.int .u8)), .lf (.int .i64), .lf (.int .i64), .lf (.int .i64)]), some (.arr true (.pair (.int .i64) (.pair (.int .i64) (.int .i64)))), some (.arr true (.int .i64))]⟩)]
noncomputable def b77_2 (x : g77_2.D) : Option (outD o77_2) :=
  (if (x.2.2.2.1 = true) then (if ((List.length x.2.2.2.2.2.2.2.2.2.2.2.2.1) = (List.length x.2.2.2.2.2.2.2.2.2.2.2.2.1)) then (if ((List.length x.2.2.2.2.2.2.2.2.2.2.2.1) = (List.length x.2.2.2.2.2.2.2.2.2.2.2.1)) then (some (Sum.inl (x.1, (x.2.1, (x.2.2.1, (x.2.2.2.1, (x.2.2.2.2.1, (((((List.length x.2.2.2.2.2.2.2.2.2.2.2.2.1) : Nat) : Int) == (0 : Int)), (x.2.2.2.2.2.1, (x.2.2.2.2.2.2.1, (x.2.2.2.2.2.2.2.1, (x.2.2.2.2.2.2.2.2.1, (x.2.2.2.2.2.2.2.2.2.1, (x.2.2.2.2.2.2.2.2.2.2.1, (x.2.2.2.2.2.2.2.2.2.2.2.1, (x.2.2.2.2.2.2.2.2.2.2.2.2.1, Unit.unit))))))))))))))))
   else none)
   else none)
   else (if ((List.length x.2.2.2.2.2.2.2.2.2.2.2.2.1) = (List.length x.2.2.2.2.2.2.2.2.2.2.2.2.1)) then (if ((List.length x.2.2.2.2.2.2.2.2.2.2.2.1) = (List.length x.2.2.2.2.2.2.2.2.2.2.2.1)) then (some (Sum.inl (x.1, (x.2.1, (x.2.2.1, (x.2.2.2.1, (x.2.2.2.2.1, (false, (x.2.2.2.2.2.1, (x.2.2.2.2.2.2.1, (x.2.2.2.2.2.2.2.1, (x.2.2.2.2.2.2.2.2.1, (x.2.2.2.2.2.2.2.2.2.1, (x.2.2.2.2.2.2.2.2.2.2.1, (x.2.2.2.2.2.2.2.2.2.2.2.1, (x.2.2.2.2.2.2.2.2.2.2.2.2.1, Unit.unit))))))))))))))))
   else none)
   else none))
theorem b77_2_eq (x : g77_2.D) : b77_2 x = evF P (T89.orc _) Go.Proofs.Try.f77.ntmps fx77 (Code.at [true, false, true, true, false, false, false, true, false, true, true, true, true, false, false] c77) (planAt 64 []) g77_2 x (injK fx77 o77_2 some) := by kernel_rfl
theorem s77_2_ok : SubOk P Go.Proofs.Try.f77.ntmps fx77 (Code.at [true, false, true, true, false, false, false, true, false, true, true, true, true, false, false] c77) ⟨g77_2, o77_2, b77_2⟩ :=
  sub_ok (g := g77_2) (outs := o77_2) (f := b77_2) (Table.ok T89_ok _) hmix (planAt_ok (P := P) (n := Go.Proofs.Try.f77.ntmps) (fx := fx77) (c := (Code.at [true, false, true, true, false, false, false, true, false, true, true, true, true, false, false] c77)) (d := 64) (l := []) trivial) b77_2_eq
abbrev g77_3 : Sg := ⟨[0, 1, 2, 8, 11, 12, 13, 14], [.lf (.ptr 0 0), .lf .nilp, .lf (.int .i64), .lf (.gr (.int .i64) 3), .lf (.int .i64), .lf (.int .i64), .lf .bool, .lf (.int .i64)], [some (.box true [.lf (.ptr 1 0), .lf (.gr (.pair (.int .i64) (.pair (.int .i64) (.int .i64))) 2), .lf (.int .i64), .lf (.int .i64)]), some (.box true [.lf (.sl (.int .u8)), .lf (.int .i64), .lf (.int .i64), .lf (.int .i64)]), some (.arr true (.pair (.int .i64) (.pair (.int .i64) (.int .i64)))), some (.arr true (.int .i64))]⟩
abbrev o77_3 : Outs := [(.normal, ⟨[0, 1, 2, 8, 11, 12, 14], [.lf (.ptr 0 0), .lf .nilp, .lf (.int .i64), .lf (.gr (.int .i64) 3), .lf (.int .i64), .lf (.int .i64), .lf (.int .i64)], [some (.box true [.lf (.ptr 1 0), .lf (.gr (.pair (.int .i64) (.pair (.int .i64) (.int .i64))) 2), .lf (.int .i64), .lf (.int .i64)]), some (.box true [.lf (.sl (.int .u8)), .lf (.int .i64), .lf (.int .i64), .lf (.int .i64)]), some (.arr true (.pair (.int .i64) (.pair (.int .i64) (.int .i64)))), some (.arr true (.int .i64))]⟩)]
noncomputable def b77_3 (x : g77_3.D) : Option (outD o77_3) :=
  (if (x.2.2.2.1 = true) then (if ((0 : Int) ≤ (Go.IntKind.wrap Go.IntKind.i64 ((((List.length x.2.2.2.2.2.2.2.2.2.2.2.2.1) : Nat) : Int) - (1 : Int)))) then (if ((Go.IntKind.wrap Go.IntKind.i64 ((((List.length x.2.2.2.2.2.2.2.2.2.2.2.2.1) : Nat) : Int) - (1 : Int))) < (((List.length x.2.2.2.2.2.2.2.2.2.2.2.2.1) : Nat) : Int)) then (if ((List.length x.2.2.2.2.2.2.2.2.2.2.2.2.1) = (List.length x.2.2.2.2.2.2.2.2.2.2.2.2.1)) then (if ((List.length x.2.2.2.2.2.2.2.2.2.2.2.1) = (List.length x.2.2.2.2.2.2.2.2.2.2.2.1)) then (some (Sum.inl (x.1, (x.2.1, (x.2.2.1, ((List.getD x.2.2.2.2.2.2.2.2.2.2.2.2.1 ((0 : Nat) + (Int.toNat (Go.IntKind.wrap Go.IntKind.i64 ((((List.length x.2.2.2.2.2.2.2.2.2.2.2.2.1) : Nat) : Int) - (1 : Int))))) (0 : Int)), (x.2.2.2.2.2.1, (x.2.2.2.2.2.2.1, (x.2.2.2.2.2.2.2.1, (x.2.2.2.2.2.2.2.2.1, (x.2.2.2.2.2.2.2.2.2.1, (x.2.2.2.2.2.2.2.2.2.2.1, (x.2.2.2.2.2.2.2.2.2.2.2.1, (x.2.2.2.2.2.2.2.2.2.2.2.2.1, Unit.unit))))))))))))))
   else none)
   else none)
   else none)
   else none)
   else (if ((List.length x.2.2.2.2.2.2.2.2.2.2.2.2.1) = (List.length x.2.2.2.2.2.2.2.2.2.2.2.2.1)) then (if ((List.length x.2.2.2.2.2.2.2.2.2.2.2.1) = (List.length x.2.2.2.2.2.2.2.2.2.2.2.1)) then (some (Sum.inl (x.1, (x.2.1, (x.2.2.1, (x.2.2.2.2.1, (x.2.2.2.2.2.1, (x.2.2.2.2.2.2.1, (x.2.2.2.2.2.2.2.1, (x.2.2.2.2.2.2.2.2.1, (x.2.2.2.2.2.2.2.2.2.1, (x.2.2.2.2.2.2.2.2.2.2.1, (x.2.2.2.2.2.2.2.2.2.2.2.1, (x.2.2.2.2.2.2.2.2.2.2.2.2.1, Unit.unit))))))))))))))
   else none)
   else none))
theorem b77_3_eq (x : g77_3.D) : b77_3 x = evF P (T89.orc _) Go.Proofs.Try.f77.ntmps fx77 (Code.at [true, false, true, true, false, false, false, true, false, true, true, true, true, true, false] c77) (planAt 64 []) g77_3 x (injK fx77 o77_3 some) := by kernel_rfl
theorem s77_3_ok : SubOk P Go.Proofs.Try.f77.ntmps fx77 (Code.at [true, false, true, true, false, false, false, true, false, true, true, true, true, true, false] c77) ⟨g77_3, o77_3, b77_3⟩ :=
  sub_ok (g := g77_3) (outs := o77_3) (f := b77_3) (Table.ok T89_ok _) hmix (planAt_ok (P := P) (n := Go.Proofs.Try.f77.ntmps) (fx := fx77) (c := (Code.at [true, false, true, true, false, false, false, true, false, true, true, true, true, true, false] c77)) (d := 64) (l := []) trivial) b77_3_eq
abbrev g77_1 : Sg := ⟨[0, 1, 2, 8], [.lf (.ptr 0 0), .lf .nilp, .lf (.int .i64), .lf (.gr (.int .i64) 3)], [some (.box true [.lf (.ptr 1 0), .lf (.gr (.pair (.int .i64) (.pair (.int .i64) (.int .i64))) 2), .lf (.int .i64), .lf (.int .i64)]), some (.box true [.lf (.sl (.int .u8)), .lf (.int .i64), .lf (.int .i64), .lf (.int .i64)]), some (.arr true (.pair (.int .i64) (.pair (.int .i64) (.int .i64)))), some (.arr true (.int .i64))]⟩
abbrev o77_1 : Outs := [(.exit 0, ⟨[8], [.lf (.gr (.int .i64) 3)], [some (.box true [.lf (.ptr 1 0), .lf (.gr (.pair (.int .i64) (.pair (.int .i64) (.int .i64))) 2), .lf (.int .i64), .lf (.int .i64)]), some (.box true [.lf (.sl (.int .u8)), .lf (.int .i64), .lf (.int .i64), .lf (.int .i64)]), some (.arr true (.pair (.int .i64) (.pair (.int .i64) (.int .i64)))), some (.arr true (.int .i64))]⟩), (.ret, ⟨[6, 7], [.lf (.sl (.int .i64)), .lf (.int .i64)], [some (.box true [.lf (.ptr 1 0), .lf (.gr (.pair (.int .i64) (.pair (.int .i64) (.int .i64))) 2), .lf (.int .i64), .lf (.int .i64)]), some (.box true [.lf (.sl (.int .u8)), .lf (.int .i64), .lf (.int .i64), .lf (.int .i64)]), some (.arr true (.pair (.int .i64) (.pair (.int .i64) (.int .i64))))]⟩)]
noncomputable def b77_1 (x : g77_1.D) : Option (outD ((.normal, g77_1) :: o77_1)) :=
  (if ((decide ((((List.length x.2.2.2.2.2.2.2.2.1) : Nat) : Int) < x.1)) = true) then (Option.bind (Go.Ev.Zlib.f86 (x.2.2.2.1, (x.2.2.2.2.1, (x.2.2.2.2.2.1, (x.2.2.2.2.2.2.1, Unit.unit))))) (fun y1 => (if ((y1.2.1 != (0 : Int)) = true) then (if ((List.length x.2.2.2.2.2.2.2.1) = (List.length x.2.2.2.2.2.2.2.1)) then (some (Sum.inr (Sum.inr (Sum.inl ([], (y1.2.1, (x.2.1, (x.2.2.1, (y1.2.2.1, (y1.2.2.2.1, (y1.2.2.2.2.1, (y1.2.2.2.2.2.1, (x.2.2.2.2.2.2.2.1, Unit.unit)))))))))))))
   else none)
   else (if ((decide (y1.1 < (16 : Int))) = true) then (if (((List.length (List.take (List.length x.2.2.2.2.2.2.2.2.1) (List.drop (0 : Nat) x.2.2.2.2.2.2.2.2.1))) + (List.length (List.take (1 : Nat) (List.drop (0 : Nat) (List.set (List.replicate (1 : Nat) (0 : Int)) (0 : Nat) y1.1))))) ≤ (17592186044416 : Nat)) then (if ((List.length ((List.take (List.length x.2.2.2.2.2.2.2.2.1) (List.drop (0 : Nat) x.2.2.2.2.2.2.2.2.1)) ++ (List.take (1 : Nat) (List.drop (0 : Nat) (List.set (List.replicate (1 : Nat) (0 : Int)) (0 : Nat) y1.1))))) = (List.length ((List.take (List.length x.2.2.2.2.2.2.2.2.1) (List.drop (0 : Nat) x.2.2.2.2.2.2.2.2.1)) ++ (List.take (1 : Nat) (List.drop (0 : Nat) (List.set (List.replicate (1 : Nat) (0 : Int)) (0 : Nat) y1.1)))))) then (if ((List.length x.2.2.2.2.2.2.2.1) = (List.length x.2.2.2.2.2.2.2.1)) then (some (Sum.inl (x.1, (x.2.1, (x.2.2.1, (y1.2.2.1, (y1.2.2.2.1, (y1.2.2.2.2.1, (y1.2.2.2.2.2.1, (x.2.2.2.2.2.2.2.1, (((List.take (List.length x.2.2.2.2.2.2.2.2.1) (List.drop (0 : Nat) x.2.2.2.2.2.2.2.2.1)) ++ (List.take (1 : Nat) (List.drop (0 : Nat) (List.set (List.replicate (1 : Nat) (0 : Int)) (0 : Nat) y1.1)))), Unit.unit)))))))))))
   else none)
   else none)
   else none)
   else (Option.bind (Go.Ev.Zlib.f89 (y1.1, Unit.unit)) (fun y2 => (if ((List.length x.2.2.2.2.2.2.2.2.1) = (List.length x.2.2.2.2.2.2.2.2.1)) then (if ((List.length x.2.2.2.2.2.2.2.1) = (List.length x.2.2.2.2.2.2.2.1)) then (Option.bind (Go.Ev.Zlib.b77_2 (x.1, (y2.1, (y2.2.1, (y2.2.2.1, ((0 : Int), (x.2.1, (x.2.2.1, (y1.2.2.1, (y1.2.2.2.1, (y1.2.2.2.2.1, (y1.2.2.2.2.2.1, (x.2.2.2.2.2.2.2.1, (x.2.2.2.2.2.2.2.2.1, Unit.unit)))))))))))))) (Sum.elim (fun y3 => (if (y3.2.2.2.2.2.1 = true) then (if ((List.length y3.2.2.2.2.2.2.2.2.2.2.2.2.1) = (List.length y3.2.2.2.2.2.2.2.2.2.2.2.2.1)) then (some (Sum.inr (Sum.inr (Sum.inl ([], ((4 : Int), (y3.2.2.2.2.2.2.1, (y3.2.2.2.2.2.2.2.1, (y3.2.2.2.2.2.2.2.2.1, (y3.2.2.2.2.2.2.2.2.2.1, (y3.2.2.2.2.2.2.2.2.2.2.1, (y3.2.2.2.2.2.2.2.2.2.2.2.1, (y3.2.2.2.2.2.2.2.2.2.2.2.2.1, Unit.unit)))))))))))))
   else none)
   else (if ((List.length y3.2.2.2.2.2.2.2.2.2.2.2.2.2.1) = (List.length y3.2.2.2.2.2.2.2.2.2.2.2.2.2.1)) then (if ((List.length y3.2.2.2.2.2.2.2.2.2.2.2.2.1) = (List.length y3.2.2.2.2.2.2.2.2.2.2.2.2.1)) then (Option.bind (Go.Ev.Zlib.b77_3 (y3.1, (y3.2.1, (y3.2.2.1, (y3.2.2.2.1, (y3.2.2.2.2.1, (y3.2.2.2.2.2.2.1, (y3.2.2.2.2.2.2.2.1, (y3.2.2.2.2.2.2.2.2.1, (y3.2.2.2.2.2.2.2.2.2.1, (y3.2.2.2.2.2.2.2.2.2.2.1, (y3.2.2.2.2.2.2.2.2.2.2.2.1, (y3.2.2.2.2.2.2.2.2.2.2.2.2.1, (y3.2.2.2.2.2.2.2.2.2.2.2.2.2.1, Unit.unit)))))))))))))) (Sum.elim (fun y4 => (Option.bind (Go.Ev.Zlib.f72 (y4.2.1, (y4.2.2.2.2.2.2.1, (y4.2.2.2.2.2.2.2.1, (y4.2.2.2.2.2.2.2.2.1, (y4.2.2.2.2.2.2.2.2.2.1, Unit.unit)))))) (fun y5 => (if ((y5.2.1 != (0 : Int)) = true) then (if ((List.length y4.2.2.2.2.2.2.2.2.2.2.1) = (List.length y4.2.2.2.2.2.2.2.2.2.2.1)) then (some (Sum.inr (Sum.inr (Sum.inl ([], (y5.2.1, (y4.2.2.2.2.1, (y4.2.2.2.2.2.1, (y5.2.2.1, (y5.2.2.2.1, (y5.2.2.2.2.1, (y5.2.2.2.2.2.1, (y4.2.2.2.2.2.2.2.2.2.2.1, Unit.unit)))))))))))))
   else none)
   else (if ((decide ((Go.IntKind.wrap Go.IntKind.i64 ((Go.IntKind.wrap Go.IntKind.i64 ((((List.length y4.2.2.2.2.2.2.2.2.2.2.2.1) : Nat) : Int) + y4.2.2.1)) + y5.1)) > y4.1)) = true) then (if ((List.length y4.2.2.2.2.2.2.2.2.2.2.1) = (List.length y4.2.2.2.2.2.2.2.2.2.2.1)) then (some (Sum.inr (Sum.inr (Sum.inl ([], ((4 : Int), (y4.2.2.2.2.1, (y4.2.2.2.2.2.1, (y5.2.2.1, (y5.2.2.2.1, (y5.2.2.2.2.1, (y5.2.2.2.2.2.1, (y4.2.2.2.2.2.2.2.2.2.2.1, Unit.unit)))))))))))))
   else none)
   else (Option.bind (Go.Ev.Zlib.f34 ((List.take (1 : Nat) (List.drop (0 : Nat) (List.set (List.replicate (1 : Nat) (0 : Int)) (0 : Nat) y4.2.2.2.1))), ((Go.IntKind.wrap Go.IntKind.i64 (y4.2.2.1 + y5.1)), Unit.unit))) (fun y6 => (if (((List.length (List.take (List.length y4.2.2.2.2.2.2.2.2.2.2.2.1) (List.drop (0 : Nat) y4.2.2.2.2.2.2.2.2.2.2.2.1))) + (List.length (List.take (List.length y6.1) (List.drop (0 : Nat) y6.1)))) ≤ (17592186044416 : Nat)) then (if ((List.length ((List.take (List.length y4.2.2.2.2.2.2.2.2.2.2.2.1) (List.drop (0 : Nat) y4.2.2.2.2.2.2.2.2.2.2.2.1)) ++ (List.take (List.length y6.1) (List.drop (0 : Nat) y6.1)))) = (List.length ((List.take (List.length y4.2.2.2.2.2.2.2.2.2.2.2.1) (List.drop (0 : Nat) y4.2.2.2.2.2.2.2.2.2.2.2.1)) ++ (List.take (List.length y6.1) (List.drop (0 : Nat) y6.1))))) then (if ((List.length y4.2.2.2.2.2.2.2.2.2.2.1) = (List.length y4.2.2.2.2.2.2.2.2.2.2.1)) then (some (Sum.inl (y4.1, (y4.2.2.2.2.1, (y4.2.2.2.2.2.1, (y5.2.2.1, (y5.2.2.2.1, (y5.2.2.2.2.1, (y5.2.2.2.2.2.1, (y4.2.2.2.2.2.2.2.2.2.2.1, (((List.take (List.length y4.2.2.2.2.2.2.2.2.2.2.2.1) (List.drop (0 : Nat) y4.2.2.2.2.2.2.2.2.2.2.2.1)) ++ (List.take (List.length y6.1) (List.drop (0 : Nat) y6.1))), Unit.unit)))))))))))
   else none)
   else none)
   else none)))))))) Empty.elim))
   else none)
   else none))) Empty.elim))
   else none)
   else none)))))))
   else (if ((List.length x.2.2.2.2.2.2.2.2.1) = (List.length x.2.2.2.2.2.2.2.2.1)) then (if ((List.length x.2.2.2.2.2.2.2.1) = (List.length x.2.2.2.2.2.2.2.1)) then (some (Sum.inr (Sum.inl (x.2.1, (x.2.2.1, (x.2.2.2.1, (x.2.2.2.2.1, (x.2.2.2.2.2.1, (x.2.2.2.2.2.2.1, (x.2.2.2.2.2.2.2.1, (x.2.2.2.2.2.2.2.2.1, Unit.unit)))))))))))
   else none)
   else none))
theorem b77_1_eq (x : g77_1.D) : b77_1 x = evF P (T89.orc _) Go.Proofs.Try.f77.ntmps fx77 (Code.at [true, false, true, true, false, false, false] c77) (planAt 64 [([true, false, true, true, true, true, false, false], ⟨g77_2, o77_2, b77_2⟩), ([true, false, true, true, true, true, true, false], ⟨g77_3, o77_3, b77_3⟩)]) g77_1 x (injK fx77 ((.normal, g77_1) :: o77_1) some) := by kernel_rfl
noncomputable def l77_1 : g77_1.D → Option (outD o77_1) := loopN g77_1 o77_1 b77_1 18446744073709551616
theorem p77_1 : AllSub P Go.Proofs.Try.f77.ntmps fx77 (Code.at [true, false, true, true, false, false, false] c77) [([true, false, true, true, true, true, false, false], ⟨g77_2, o77_2, b77_2⟩), ([true, false, true, true, true, true, true, false], ⟨g77_3, o77_3, b77_3⟩)] := And.intro s77_2_ok (And.intro s77_3_ok (trivial))
theorem q77_1 : PlanOk P Go.Proofs.Try.f77.ntmps fx77 (planAt 64 [([true, false, true, true, true, true, false, false], ⟨g77_2, o77_2, b77_2⟩), ([true, false, true, true, true, true, true, false], ⟨g77_3, o77_3, b77_3⟩)]) (Code.at [true, false, true, true, false, false, false] c77) := planAt_ok p77_1
theorem at77_1 : Code.at [true, false, true, true, false, false] c77 = .loop (Code.at [true, false, true, true, false, false, false] c77) := by kernel_rfl
theorem s77_1_ok : SubOk P Go.Proofs.Try.f77.ntmps fx77 (Code.at [true, false, true, true, false, false] c77) ⟨g77_1, o77_1, l77_1⟩ := by
  rw [at77_1]
  exact loop_ok (sub_ok (g := g77_1) (outs := ((.normal, g77_1) :: o77_1)) (f := b77_1) (Table.ok T89_ok _) hmix (q77_1) b77_1_eq) rfl _
noncomputable def f77 (x : gi77.D) : Option go77.D :=
  (if ((List.length x.2.2.2.2.2.2.2.1) = (List.length x.2.2.2.2.2.2.2.1)) then (Option.bind (Go.Ev.Zlib.l77_1 (x.1, (x.2.1, (x.2.2.1, (x.2.2.2.1, (x.2.2.2.2.1, (x.2.2.2.2.2.1, (x.2.2.2.2.2.2.1, (x.2.2.2.2.2.2.2.1, ([], Unit.unit)))))))))) (Sum.elim (fun y1 => (if ((List.length y1.2.2.2.2.2.2.1) = (List.length y1.2.2.2.2.2.2.1)) then (some ((List.take (List.length y1.2.2.2.2.2.2.2.1) (List.drop (0 : Nat) y1.2.2.2.2.2.2.2.1)), ((0 : Int), (y1.1, (y1.2.1, (y1.2.2.1, (y1.2.2.2.1, (y1.2.2.2.2.1, (y1.2.2.2.2.2.1, (y1.2.2.2.2.2.2.1, Unit.unit))))))))))
   else none)) (Sum.elim (fun y1 => (if ((List.length y1.2.2.2.2.2.2.2.2.1) = (List.length y1.2.2.2.2.2.2.2.2.1)) then (some (y1.1, (y1.2.1, (y1.2.2.1, (y1.2.2.2.1, (y1.2.2.2.2.1, (y1.2.2.2.2.2.1, (y1.2.2.2.2.2.2.1, (y1.2.2.2.2.2.2.2.1, (y1.2.2.2.2.2.2.2.2.1, Unit.unit))))))))))
   else none)) Empty.elim)))
   else none)
theorem f77_eq (x : gi77.D) : f77 x = evF P (T89.orc _) Go.Proofs.Try.f77.ntmps fx77 c77 (planAt 64 [([true, false, true, true, false, false], ⟨g77_1, o77_1, l77_1⟩)]) gi77 x (fnK fx77 [go77]) := by kernel_rfl
theorem pf77 : AllSub P Go.Proofs.Try.f77.ntmps fx77 c77 [([true, false, true, true, false, false], ⟨g77_1, o77_1, l77_1⟩)] := And.intro s77_1_ok (trivial)
theorem qf77 : PlanOk P Go.Proofs.Try.f77.ntmps fx77 (planAt 64 [([true, false, true, true, false, false], ⟨g77_1, o77_1, l77_1⟩)]) c77 := planAt_ok pf77
theorem f77_ok : EntOk P 77 ⟨gi77, [go77], f77⟩ :=
  ent_ok (fn := Go.Proofs.Try.f77) (gi := gi77) (gos := [go77]) (f := f77) (c := c77) (fx := fx77) ⟨Go.Proofs.Try.func77, by kernel_rfl, rfl, by decide +kernel, rfl, rfl⟩ (by kernel_rfl) (Table.ok T89_ok _) hmix (qf77) f77_eq
abbrev gi77_b : Sg := ⟨[0, 1, 2], [.lf (.ptr 0 0), .lf (.ptr 3 0), .lf (.int .i64)], [some (.box true [.lf (.ptr 1 0), .lf (.gr (.pair (.int .i64) (.pair (.int .i64) (.int .i64))) 2), .lf (.int .i64), .lf (.int .i64)]), some (.box true [.lf (.sl (.int .u8)), .lf (.int .i64), .lf (.int .i64), .lf (.int .i64)]), some (.arr true (.pair (.int .i64) (.pair (.int .i64) (.int .i64)))), some (.box true [.many (.int .i64) 16, .lf (.sl (.int .i64)), .lf (.sl (.int .i64)), .lf (.gr (.int .i64) 4)]), some (.arr true (.int .i64))]⟩
abbrev go77_b : Sg := ⟨[6, 7], [.lf (.sl (.int .i64)), .lf (.int .i64)], [some (.box true [.lf (.ptr 1 0), .lf (.gr (.pair (.int .i64) (.pair (.int .i64) (.int .i64))) 2), .lf (.int .i64), .lf (.int .i64)]), some (.box true [.lf (.sl (.int .u8)), .lf (.int .i64), .lf (.int .i64), .lf (.int .i64)]), some (.arr true (.pair (.int .i64) (.pair (.int .i64) (.int .i64)))), some (.box true [.many (.int .i64) 16, .lf (.sl (.int .i64)), .lf (.sl (.int .i64)), .lf (.gr (.int .i64) 4)]), some (.arr true (.int .i64))]⟩
def fx77_b : List Bool := [true, true, true, true, true]
abbrev g77_b_2 : Sg := ⟨[0, 1, 2, 8, 11, 12, 13, 14], [.lf (.ptr 0 0), .lf (.ptr 3 0), .lf (.int .i64), .lf (.gr (.int .i64) 5), .lf (.int .i64), .lf (.int .i64), .lf .bool, .lf (.int .i64)], [some (.box true [.lf (.ptr 1 0), .lf (.gr (.pair (.int .i64) (.pair (.int .i64) (.int .i64))) 2), .lf (.int .i64), .lf (.int .i64)]), some (.box true [.lf (.sl (.int .u8)), .lf (.int .i64), .lf (.int .i64), .lf (.int .i64)]), some (.arr true (.pair (.int .i64) (.pair (.int .i64) (.int .i64)))), some (.box true [.many (.int .i64) 16, .lf (.sl (.int .i64)), .lf (.sl (.int .i64)), .lf (.gr (.int .i64) 4)]), some (.arr true (.int .i64)), some (.arr true (.int .i64))]⟩
abbrev o77_b_2 : Outs := [(.normal, ⟨[0, 1, 2, 8, 11, 12, 13, 14, 51], [.lf (.ptr 0 0), .lf (.ptr 3 0), .lf (.int .i64), .lf (.gr (.int .i64) 5), .lf (.int .i64), .lf (.int .i64), .lf .bool, .lf (.int .i64), .lf .bool], [some (.box true [.lf (.ptr 1 0), .lf (.gr (.pair (.int .i64) (.pair (.int .i64) (.int .i64))) 2), .lf (.int .i64), .lf (.int .i64)]), some (.box true [.lf (.sl (.int .u8)), .lf (.int .i64), .lf (.int .i64), .lf (.int .i64)]), some (.arr true (.pair (.int .i64) (.pair (.int .i64) (.int .i64)))), some (.box true [.many (.int .i64) 16, .lf (.sl (.int .i64)), .lf (.sl (.int .i64)), .lf (.gr (.int .i64) 4)]), some (.arr true (.int .i64)), some (.arr true (.int .i64))]⟩)]
noncomputable def b77_b_2 (x : g77_b_2.D) : Option (outD o77_b_2) :=
  (if (x.2.2.2.1 = true) then (if ((List.length x.2.2.2.2.2.2.2.2.2.2.2.2.2.2.2.2.1) = (List.length x.2.2.2.2.2.2.2.2.2.2.2.2.2.2.2.2.1)) then (if ((List.length x.2.2.2.2.2.2.2.2.2.2.2.1) = (List.length x.2.2.2.2.2.2.2.2.2.2.2.1)) then (if ((List.length x.2.2.2.2.2.2.2.2.2.2.2.2.2.2.2.1) = (List.length x.2.2.2.2.2.2.2.2.2.2.2.2.2.2.2.1)) then (some (Sum.inl (x.1, (x.2.1, (x.2.2.1, (x.2.2.2.1, (x.2.2.2.2.1, (((((List.length x.2.2.2.2.2.2.2.2.2.2.2.2.2.2.2.2.1) : Nat) : Int) == (0 : Int)), (x.2.2.2.2.2.1, (x.2.2.2.2.2.2.1, (x.2.2.2.2.2.2.2.1, (x.2.2.2.2.2.2.2.2.1, (x.2.2.2.2.2.2.2.2.2.1, (x.2.2.2.2.2.2.2.2.2.2.1, (x.2.2.2.2.2.2.2.2.2.2.2.1, (x.2.2.2.2.2.2.2.2.2.2.2.2.1, (x.2.2.2.2.2.2.2.2.2.2.2.2.2.1, (x.2.2.2.2.2.2.2.2.2.2.2.2.2.2.1, (x.2.2.2.2.2.2.2.2.2.2.2.2.2.2.2.1, (x.2.2.2.2.2.2.2.2.2.2.2.2.2.2.2.2.1, Unit.unit))))))))))))))))))))
   else none)
   else none)
   else none)
   else (if ((List.length x.2.2.2.2.2.2.2.2.2.2.2.2.2.2.2.2.1) = (List.length x.2.2.2.2.2.2.2.2.2.2.2.2.2.2.2.2.1)) then (if ((List.length x.2.2.2.2.2.2.2.2.2.2.2.1) = (List.length x.2.2.2.2.2.2.2.2.2.2.2.1)) then (if ((List.length x.2.2.2.2.2.2.2.2.2.2.2.2.2.2.2.1) = (List.length x.2.2.2.2.2.2.2.2.2.2.2.2.2.2.2.1)) then (some (Sum.inl (x.1, (x.2.1, (x.2.2.1, (x.2.2.2.1, (x.2.2.2.2.1, (false, (x.2.2.2.2.2.1, (x.2.2.2.2.2.2.1, (x.2.2.2.2.2.2.2.1, (x.2.2.2.2.2.2.2.2.1, (x.2.2.2.2.2.2.2.2.2.1, (x.2.2.2.2.2.2.2.2.2.2.1, (x.2.2.2.2.2.2.2.2.2.2.2.1, (x.2.2.2.2.2.2.2.2.2.2.2.2.1, (x.2.2.2.2.2.2.2.2.2.2.2.2.2.1, (x.2.2.2.2.2.2.2.2.2.2.2.2.2.2.1, (x.2.2.2.2.2.2.2.2.2.2.2.2.2.2.2.1, (x.2.2.2.2.2.2.2.2.2.2.2.2.2.2.2.2.1, Unit.unit))))))))))))))))))))
   else none)
   else none)
   else none))
theorem b77_b_2_eq (x : g77_b_2.D) : b77_b_2 x = evF P (T89.orc _) Go.Proofs.Try.f77.ntmps fx77_b (Code.at [true, false, true, true, false, false, false, true, false, true, true, true, true, false, false] c77) (planAt 64 []) g77_b_2 x (injK fx77_b o77_b_2 some) := by kernel_rfl
theorem s77_b_2_ok : SubOk P Go.Proofs.Try.f77.ntmps fx77_b (Code.at [true, false, true, true, false, false, false, true, false, true, true, true, true, false, false] c77) ⟨g77_b_2, o77_b_2, b77_b_2⟩ :=
  sub_ok (g := g77_b_2) (outs := o77_b_2) (f := b77_b_2) (Table.ok T89_ok _) hmix (planAt_ok (P := P) (n := Go.Proofs.Try.f77.ntmps) (fx := fx77_b) (c := (Code.at [true, false, true, true, false, false, false, true, false, true, true, true, true, false, false] c77)) (d := 64) (l := []) trivial) b77_b_2_eq
abbrev g77_b_3 : Sg := ⟨[0, 1, 2, 8, 11, 12, 13, 14], [.lf (.ptr 0 0), .lf (.ptr 3 0), .lf (.int .i64), .lf (.gr (.int .i64) 5), .lf (.int .i64), .lf (.int .i64), .lf .bool, .lf (.int .i64)], [some (.box true [.lf (.ptr 1 0), .lf (.gr (.pair (.int .i64) (.pair (.int .i64) (.int .i64))) 2), .lf (.int .i64), .lf (.int .i64)]), some (.box true [.lf (.sl (.int .u8)), .lf (.int .i64), .lf (.int .i64), .lf (.int .i64)]), some (.arr true (.pair (.int .i64) (.pair (.int .i64) (.int .i64)))), some (.box true [.many (.int .i64) 16, .lf (.sl (.int .i64)), .lf (.sl (.int .i64)), .lf (.gr (.int .i64) 4)]), some (.arr true (.int .i64)), some (.arr true (.int .i64))]⟩
abbrev o77_b_3 : Outs := [(.normal, ⟨[0, 1, 2, 8, 11, 12, 14], [.lf (.ptr 0 0), .lf (.ptr 3 0), .lf (.int .i64), .lf (.gr (.int .i64) 5), .lf (.int .i64), .lf (.int .i64), .lf (.int .i64)], [some (.box true [.lf (.ptr 1 0), .lf (.gr (.pair (.int .i64) (.pair (.int .i64) (.int .i64))) 2), .lf (.int .i64), .lf (.int .i64)]), some (.box true [.lf (.sl (.int .u8)), .lf (.int .i64), .lf (.int .i64), .lf (.int .i64)]), some (.arr true (.pair (.int .i64) (.pair (.int .i64) (.int .i64)))), some (.box true [.many (.int .i64) 16, .lf (.sl (.int .i64)), .lf (.sl (.int .i64)), .lf (.gr (.int .i64) 4)]), some (.arr true (.int .i64)), some (.arr true (.int .i64))]⟩)]
noncomputable def b77_b_3 (x : g77_b_3.D) : Option (outD o77_b_3) :=
  (if (x.2.2.2.1 = true) then (if ((0 : Int) ≤ (Go.IntKind.wrap Go.IntKind.i64 ((((List.length x.2.2.2.2.2.2.2.2.2.2.2.2.2.2.2.2.1) : Nat) : Int) - (1 : Int)))) then (if ((Go.IntKind.wrap Go.IntKind.i64 ((((List.length x.2.2.2.2.2.2.2.2.2.2.2.2.2.2.2.2.1) : Nat) : Int) - (1 : Int))) < (((List.length x.2.2.2.2.2.2.2.2.2.2.2.2.2.2.2.2.1) : Nat) : Int)) then (if ((List.length x.2.2.2.2.2.2.2.2.2.2.2.2.2.2.2.2.1) = (List.length x.2.2.2.2.2.2.2.2.2.2.2.2.2.2.2.2.1)) then (if ((List.length x.2.2.2.2.2.2.2.2.2.2.2.1) = (List.length x.2.2.2.2.2.2.2.2.2.2.2.1)) then (if ((List.length x.2.2.2.2.2.2.2.2.2.2.2.2.2.2.2.1) = (List.length x.2.2.2.2.2.2.2.2.2.2.2.2.2.2.2.1)) then (some (Sum.inl (x.1, (x.2.1, (x.2.2.1, ((List.getD x.2.2.2.2.2.2.2.2.2.2.2.2.2.2.2.2.1 ((0 : Nat) + (Int.toNat (Go.IntKind.wrap Go.IntKind.i64 ((((List.length x.2.2.2.2.2.2.2.2.2.2.2.2.2.2.2.2.1) : Nat) : Int) - (1 : Int))))) (0 : Int)), (x.2.2.2.2.2.1, (x.2.2.2.2.2.2.1, (x.2.2.2.2.2.2.2.1, (x.2.2.2.2.2.2.2.2.1, (x.2.2.2.2.2.2.2.2.2.1, (x.2.2.2.2.2.2.2.2.2.2.1, (x.2.2.2.2.2.2.2.2.2.2.2.1, (x.2.2.2.2.2.2.2.2.2.2.2.2.1, (x.2.2.2.2.2.2.2.2.2.2.2.2.2.1, (x.2.2.2.2.2.2.2.2.2.2.2.2.2.2.1, (x.2.2.2.2.2.2.2.2.2.2.2.2.2.2.2.1, (x.2.2.2.2.2.2.2.2.2.2.2.2.2.2.2.2.1, Unit.unit))))))))))))))))))
   else none)
   else none)
   else none)
   else none)
   else none)
   else (if ((List.length x.2.2.2.2.2.2.2.2.2.2.2.2.2.2.2.2.1) = (List.length x.2.2.2.2.2.2.2.2.2.2.2.2.2.2.2.2.1)) then (if ((List.length x.2.2.2.2.2.2.2.2.2.2.2.1) = (List.length x.2.2.2.2.2.2.2.2.2.2.2.1)) then (if ((List.length x.2.2.2.2.2.2.2.2.2.2.2.2.2.2.2.1) = (List.length x.2.2.2.2.2.2.2.2.2.2.2.2.2.2.2.1)) then (some (Sum.inl (x.1, (x.2.1, (x.2.2.1, (x.2.2.2.2.1, (x.2.2.2.2.2.1, (x.2.2.2.2.2.2.1, (x.2.2.2.2.2.2.2.1, (x.2.2.2.2.2.2.2.2.1, (x.2.2.2.2.2.2.2.2.2.1, (x.2.2.2.2.2.2.2.2.2.2.1, (x.2.2.2.2.2.2.2.2.2.2.2.1, (x.2.2.2.2.2.2.2.2.2.2.2.2.1, (x.2.2.2.2.2.2.2.2.2.2.2.2.2.1, (x.2.2.2.2.2.2.2.2.2.2.2.2.2.2.1, (x.2.2.2.2.2.2.2.2.2.2.2.2.2.2.2.1, (x.2.2.2.2.2.2.2.2.2.2.2.2.2.2.2.2.1, Unit.unit))))))))))))))))))
   else none)
   else none)
   else none))
theorem b77_b_3_eq (x : g77_b_3.D) : b77_b_3 x = evF P (T89.orc _) Go.Proofs.Try.f77.ntmps fx77_b (Code.at [true, false, true, true, false, false, false, true, false, true, true, true, true, true, false] c77) (planAt 64 []) g77_b_3 x (injK fx77_b o77_b_3 some) := by kernel_rfl
theorem s77_b_3_ok : SubOk P Go.Proofs.Try.f77.ntmps fx77_b (Code.at [true, false, true, true, false, false, false, true, false, true, true, true, true, true, false] c77) ⟨g77_b_3, o77_b_3, b77_b_3⟩ :=
  sub_ok (g := g77_b_3) (outs := o77_b_3) (f := b77_b_3) (Table.ok T89_ok _) hmix (planAt_ok (P := P) (n := Go.Proofs.Try.f77.ntmps) (fx := fx77_b) (c := (Code.at [true, false, true, true, false, false, false, true, false, true, true, true, true, true, false] c77)) (d := 64) (l := []) trivial) b77_b_3_eq
abbrev g77_b_1 : Sg := ⟨[0, 1, 2, 8], [.lf (.ptr 0 0), .lf (.ptr 3 0), .lf (.int .i64), .lf (.gr (.int .i64) 5)], [some (.box true [.lf (.ptr 1 0), .lf (.gr (.pair (.int .i64) (.pair (.int .i64) (.int .i64))) 2), .lf (.int .i64), .lf (.int .i64)]), some (.box true [.lf (.sl (.int .u8)), .lf (.int .i64), .lf (.int .i64), .lf (.int .i64)]), some (.arr true (.pair (.int .i64) (.pair (.int .i64) (.int .i64)))), some (.box true [.many (.int .i64) 16, .lf (.sl (.int .i64)), .lf (.sl (.int .i64)), .lf (.gr (.int .i64) 4)]), some (.arr true (.int .i64)), some (.arr true (.int .i64))]⟩
abbrev o77_b_1 : Outs := [(.exit 0, ⟨[8], [.lf (.gr (.int .i64) 5)], [some (.box true [.lf (.ptr 1 0), .lf (.gr (.pair (.int .i64) (.pair (.int .i64) (.int .i64))) 2), .lf (.int .i64), .lf (.int .i64)]), some (.box true [.lf (.sl (.int .u8)), .lf (.int .i64), .lf (.int .i64), .lf (.int .i64)]), some (.arr true (.pair (.int .i64) (.pair (.int .i64) (.int .i64)))), some (.box true [.many (.int .i64) 16, .lf (.sl (.int .i64)), .lf (.sl (.int .i64)), .lf (.gr (.int .i64) 4)]), some (.arr true (.int .i64)), some (.arr true (.int .i64))]⟩), (.ret, ⟨[6, 7], [.lf (.sl (.int .i64)), .lf (.int .i64)], [some (.box true [.lf (.ptr 1 0), .lf (.gr (.pair (.int .i64) (.pair (.int .i64) (.int .i64))) 2), .lf (.int .i64), .lf (.int .i64)]), some (.box true [.lf (.sl (.int .u8)), .lf (.int .i64), .lf (.int .i64), .lf (.int .i64)]), some (.arr true (.pair (.int .i64) (.pair (.int .i64) (.int .i64)))), some (.box true [.many (.int .i64) 16, .lf (.sl (.int .i64)), .lf (.sl (.int .i64)), .lf (.gr (.int .i64) 4)]), some (.arr true (.int .i64))]⟩)]
noncomputable def b77_b_1 (x : g77_b_1.D) : Option (outD ((.normal, g77_b_1) :: o77_b_1)) :=
  (if ((decide ((((List.length x.2.2.2.2.2.2.2.2.2.2.2.2.1) : Nat) : Int) < x.1)) = true) then (if ((List.length x.2.2.2.2.2.2.2.2.2.2.2.1) = (List.length x.2.2.2.2.2.2.2.2.2.2.2.1)) then (Option.bind (Go.Ev.Zlib.f86_b (x.2.2.2.2.2.2.2.2.1, (x.2.2.2.2.2.2.2.2.2.1, (x.2.2.2.2.2.2.2.2.2.2.1, (x.2.2.2.2.2.2.2.2.2.2.2.1, (x.2.2.2.1, (x.2.2.2.2.1, (x.2.2.2.2.2.1, (x.2.2.2.2.2.2.1, Unit.unit))))))))) (fun y1 => (if ((y1.2.1 != (0 : Int)) = true) then (if ((List.length x.2.2.2.2.2.2.2.1) = (List.length x.2.2.2.2.2.2.2.1)) then (if ((List.length y1.2.2.2.2.2.1) = (List.length y1.2.2.2.2.2.1)) then (some (Sum.inr (Sum.inr (Sum.inl ([], (y1.2.1, (x.2.1, (x.2.2.1, (y1.2.2.2.2.2.2.1, (y1.2.2.2.2.2.2.2.1, (y1.2.2.2.2.2.2.2.2.1, (y1.2.2.2.2.2.2.2.2.2.1, (x.2.2.2.2.2.2.2.1, (y1.2.2.1, (y1.2.2.2.1, (y1.2.2.2.2.1, (y1.2.2.2.2.2.1, Unit.unit)))))))))))))))))
   else none)
   else none)
   else (if ((decide (y1.1 < (16 : Int))) = true) then (if (((List.length (List.take (List.length x.2.2.2.2.2.2.2.2.2.2.2.2.1) (List.drop (0 : Nat) x.2.2.2.2.2.2.2.2.2.2.2.2.1))) + (List.length (List.take (1 : Nat) (List.drop (0 : Nat) (List.set (List.replicate (1 : Nat) (0 : Int)) (0 : Nat) y1.1))))) ≤ (17592186044416 : Nat)) then (if ((List.length ((List.take (List.length x.2.2.2.2.2.2.2.2.2.2.2.2.1) (List.drop (0 : Nat) x.2.2.2.2.2.2.2.2.2.2.2.2.1)) ++ (List.take (1 : Nat) (List.drop (0 : Nat) (List.set (List.replicate (1 : Nat) (0 : Int)) (0 : Nat) y1.1))))) = (List.length ((List.take (List.length x.2.2.2.2.2.2.2.2.2.2.2.2.1) (List.drop (0 : Nat) x.2.2.2.2.2.2.2.2.2.2.2.2.1)) ++ (List.take (1 : Nat) (List.drop (0 : Nat) (List.set (List.replicate (1 : Nat) (0 : Int)) (0 : Nat) y1.1)))))) then (if ((List.length x.2.2.2.2.2.2.2.1) = (List.length x.2.2.2.2.2.2.2.1)) then (if ((List.length y1.2.2.2.2.2.1) = (List.length y1.2.2.2.2.2.1)) then (some (Sum.inl (x.1, (x.2.1, (x.2.2.1, (y1.2.2.2.2.2.2.1, (y1.2.2.2.2.2.2.2.1, (y1.2.2.2.2.2.2.2.2.1, (y1.2.2.2.2.2.2.2.2.2.1, (x.2.2.2.2.2.2.2.1, (y1.2.2.1, (y1.2.2.2.1, (y1.2.2.2.2.1, (y1.2.2.2.2.2.1, (((List.take (List.length x.2.2.2.2.2.2.2.2.2.2.2.2.1) (List.drop (0 : Nat) x.2.2.2.2.2.2.2.2.2.2.2.2.1)) ++ (List.take (1 : Nat) (List.drop (0 : Nat) (List.set (List.replicate (1 : Nat) (0 : Int)) (0 : Nat) y1.1)))), Unit.unit)))))))))))))))
   else none)
   else none)
   else none)
   else none)
   else (Option.bind (Go.Ev.Zlib.f89 (y1.1, Unit.unit)) (fun y2 => (if ((List.length x.2.2.2.2.2.2.2.2.2.2.2.2.1) = (List.length x.2.2.2.2.2.2.2.2.2.2.2.2.1)) then (if ((List.length x.2.2.2.2.2.2.2.1) = (List.length x.2.2.2.2.2.2.2.1)) then (if ((List.length y1.2.2.2.2.2.1) = (List.length y1.2.2.2.2.2.1)) then (Option.bind (Go.Ev.Zlib.b77_b_2 (x.1, (y2.1, (y2.2.1, (y2.2.2.1, ((0 : Int), (x.2.1, (x.2.2.1, (y1.2.2.2.2.2.2.1, (y1.2.2.2.2.2.2.2.1, (y1.2.2.2.2.2.2.2.2.1, (y1.2.2.2.2.2.2.2.2.2.1, (x.2.2.2.2.2.2.2.1, (y1.2.2.1, (y1.2.2.2.1, (y1.2.2.2.2.1, (y1.2.2.2.2.2.1, (x.2.2.2.2.2.2.2.2.2.2.2.2.1, Unit.unit)))))))))))))))))) (Sum.elim (fun y3 => (if (y3.2.2.2.2.2.1 = true) then (if ((List.length y3.2.2.2.2.2.2.2.2.2.2.2.2.1) = (List.length y3.2.2.2.2.2.2.2.2.2.2.2.2.1)) then (if ((List.length y3.2.2.2.2.2.2.2.2.2.2.2.2.2.2.2.2.1) = (List.length y3.2.2.2.2.2.2.2.2.2.2.2.2.2.2.2.2.1)) then (some (Sum.inr (Sum.inr (Sum.inl ([], ((4 : Int), (y3.2.2.2.2.2.2.1, (y3.2.2.2.2.2.2.2.1, (y3.2.2.2.2.2.2.2.2.1, (y3.2.2.2.2.2.2.2.2.2.1, (y3.2.2.2.2.2.2.2.2.2.2.1, (y3.2.2.2.2.2.2.2.2.2.2.2.1, (y3.2.2.2.2.2.2.2.2.2.2.2.2.1, (y3.2.2.2.2.2.2.2.2.2.2.2.2.2.1, (y3.2.2.2.2.2.2.2.2.2.2.2.2.2.2.1, (y3.2.2.2.2.2.2.2.2.2.2.2.2.2.2.2.1, (y3.2.2.2.2.2.2.2.2.2.2.2.2.2.2.2.2.1, Unit.unit)))))))))))))))))
   else none)
   else none)
   else (if ((List.length y3.2.2.2.2.2.2.2.2.2.2.2.2.2.2.2.2.2.1) = (List.length y3.2.2.2.2.2.2.2.2.2.2.2.2.2.2.2.2.2.1)) then (if ((List.length y3.2.2.2.2.2.2.2.2.2.2.2.2.1) = (List.length y3.2.2.2.2.2.2.2.2.2.2.2.2.1)) then (if ((List.length y3.2.2.2.2.2.2.2.2.2.2.2.2.2.2.2.2.1) = (List.length y3.2.2.2.2.2.2.2.2.2.2.2.2.2.2.2.2.1)) then (Option.bind (Go.Ev.Zlib.b77_b_3 (y3.1, (y3.2.1, (y3.2.2.1, (y3.2.2.2.1, (y3.2.2.2.2.1, (y3.2.2.2.2.2.2.1, (y3.2.2.2.2.2.2.2.1, (y3.2.2.2.2.2.2.2.2.1, (y3.2.2.2.2.2.2.2.2.2.1, (y3.2.2.2.2.2.2.2.2.2.2.1, (y3.2.2.2.2.2.2.2.2.2.2.2.1, (y3.2.2.2.2.2.2.2.2.2.2.2.2.1, (y3.2.2.2.2.2.2.2.2.2.2.2.2.2.1, (y3.2.2.2.2.2.2.2.2.2.2.2.2.2.2.1, (y3.2.2.2.2.2.2.2.2.2.2.2.2.2.2.2.1, (y3.2.2.2.2.2.2.2.2.2.2.2.2.2.2.2.2.1, (y3.2.2.2.2.2.2.2.2.2.2.2.2.2.2.2.2.2.1, Unit.unit)))))))))))))))))) (Sum.elim (fun y4 => (Option.bind (Go.Ev.Zlib.f72 (y4.2.1, (y4.2.2.2.2.2.2.1, (y4.2.2.2.2.2.2.2.1, (y4.2.2.2.2.2.2.2.2.1, (y4.2.2.2.2.2.2.2.2.2.1, Unit.unit)))))) (fun y5 => (if ((y5.2.1 != (0 : Int)) = true) then (if ((List.length y4.2.2.2.2.2.2.2.2.2.2.1) = (List.length y4.2.2.2.2.2.2.2.2.2.2.1)) then (if ((List.length y4.2.2.2.2.2.2.2.2.2.2.2.2.2.2.1) = (List.length y4.2.2.2.2.2.2.2.2.2.2.2.2.2.2.1)) then (some (Sum.inr (Sum.inr (Sum.inl ([], (y5.2.1, (y4.2.2.2.2.1, (y4.2.2.2.2.2.1, (y5.2.2.1, (y5.2.2.2.1, (y5.2.2.2.2.1, (y5.2.2.2.2.2.1, (y4.2.2.2.2.2.2.2.2.2.2.1, (y4.2.2.2.2.2.2.2.2.2.2.2.1, (y4.2.2.2.2.2.2.2.2.2.2.2.2.1, (y4.2.2.2.2.2.2.2.2.2.2.2.2.2.1, (y4.2.2.2.2.2.2.2.2.2.2.2.2.2.2.1, Unit.unit)))))))))))))))))
   else none)
   else none)
   else (if ((decide ((Go.IntKind.wrap Go.IntKind.i64 ((Go.IntKind.wrap Go.IntKind.i64 ((((List.length y4.2.2.2.2.2.2.2.2.2.2.2.2.2.2.2.1) : Nat) : Int) + y4.2.2.1)) + y5.1)) > y4.1)) = true) then (if ((List.length y4.2.2.2.2.2.2.2.2.2.2.1) = (List.length y4.2.2.2.2.2.2.2.2.2.2.1)) then (if ((List.length y4.2.2.2.2.2.2.2.2.2.2.2.2.2.2.1) = (List.length y4.2.2.2.2.2.2.2.2.2.2.2.2.2.2.1)) then (some (Sum.inr (Sum.inr (Sum.inl ([], ((4 : Int), (y4.2.2.2.2.1, (y4.2.2.2.2.2.1, (y5.2.2.1, (y5.2.2.2.1, (y5.2.2.2.2.1, (y5.2.2.2.2.2.1, (y4.2.2.2.2.2.2.2.2.2.2.1, (y4.2.2.2.2.2.2.2.2.2.2.2.1, (y4.2.2.2.2.2.2.2.2.2.2.2.2.1, (y4.2.2.2.2.2.2.2.2.2.2.2.2.2.1, (y4.2.2.2.2.2.2.2.2.2.2.2.2.2.2.1, Unit.unit)))))))))))))))))
   else none)
   else none)
   else (Option.bind (Go.Ev.Zlib.f34 ((List.take (1 : Nat) (List.drop (0 : Nat) (List.set (List.replicate (1 : Nat) (0 : Int)) (0 : Nat) y4.2.2.2.1))), ((Go.IntKind.wrap Go.IntKind.i64 (y4.2.2.1 + y5.1)), Unit.unit))) (fun y6 => (if (((List.length (List.take (List.length y4.2.2.2.2.2.2.2.2.2.2.2.2.2.2.2.1) (List.drop (0 : Nat) y4.2.2.2.2.2.2.2.2.2.2.2.2.2.2.2.1))) + (List.length (List.take (List.length y6.1) (List.drop (0 : Nat) y6.1)))) ≤ (17592186044416 : Nat)) then (if ((List.length ((List.take (List.length y4.2.2.2.2.2.2.2.2.2.2.2.2.2.2.2.1) (List.drop (0 : Nat) y4.2.2.2.2.2.2.2.2.2.2.2.2.2.2.2.1)) ++ (List.take (List.length y6.1) (List.drop (0 : Nat) y6.1)))) = (List.length ((List.take (List.length y4.2.2.2.2.2.2.2.2.2.2.2.2.2.2.2.1) (List.drop (0 : Nat) y4.2.2.2.2.2.2.2.2.2.2.2.2.2.2.2.1)) ++ (List.take (List.length y6.1) (List.drop (0 : Nat) y6.1))))) then (if ((List.length y4.2.2.2.2.2.2.2.2.2.2.1) = (List.length y4.2.2.2.2.2.2.2.2.2.2.1)) then (if ((List.length y4.2.2.2.2.2.2.2.2.2.2.2.2.2.2.1) = (List.length y4.2.2.2.2.2.2.2.2.2.2.2.2.2.2.1)) then (some (Sum.inl (y4.1, (y4.2.2.2.2.1, (y4.2.2.2.2.2.1, (y5.2.2.1, (y5.2.2.2.1, (y5.2.2.2.2.1, (y5.2.2.2.2.2.1, (y4.2.2.2.2.2.2.2.2.2.2.1, (y4.2.2.2.2.2.2.2.2.2.2.2.1, (y4.2.2.2.2.2.2.2.2.2.2.2.2.1, (y4.2.2.2.2.2.2.2.2.2.2.2.2.2.1, (y4.2.2.2.2.2.2.2.2.2.2.2.2.2.2.1, (((List.take (List.length y4.2.2.2.2.2.2.2.2.2.2.2.2.2.2.2.1) (List.drop (0 : Nat) y4.2.2.2.2.2.2.2.2.2.2.2.2.2.2.2.1)) ++ (List.take (List.length y6.1) (List.drop (0 : Nat) y6.1))), Unit.unit)))))))))))))))
   else none)
   else none)
   else none)
   else none)))))))) Empty.elim))
   else none)
   else none)
   else none))) Empty.elim))
   else none)
   else none)
   else none)))))))
   else none)
   else (if ((List.length x.2.2.2.2.2.2.2.2.2.2.2.2.1) = (List.length x.2.2.2.2.2.2.2.2.2.2.2.2.1)) then (if ((List.length x.2.2.2.2.2.2.2.1) = (List.length x.2.2.2.2.2.2.2.1)) then (if ((List.length x.2.2.2.2.2.2.2.2.2.2.2.1) = (List.length x.2.2.2.2.2.2.2.2.2.2.2.1)) then (some (Sum.inr (Sum.inl (x.2.1, (x.2.2.1, (x.2.2.2.1, (x.2.2.2.2.1, (x.2.2.2.2.2.1, (x.2.2.2.2.2.2.1, (x.2.2.2.2.2.2.2.1, (x.2.2.2.2.2.2.2.2.1, (x.2.2.2.2.2.2.2.2.2.1, (x.2.2.2.2.2.2.2.2.2.2.1, (x.2.2.2.2.2.2.2.2.2.2.2.1, (x.2.2.2.2.2.2.2.2.2.2.2.2.1, Unit.unit)))))))))))))))
   else none)
   else none)
   else none))
theorem b77_b_1_eq (x : g77_b_1.D) : b77_b_1 x = evF P (T89.orc _) Go.Proofs.Try.f77.ntmps fx77_b (Code.at [true, false, true, true, false, false, false] c77) (planAt 64 [([true, false, true, true, true, true, false, false], ⟨g77_b_2, o77_b_2, b77_b_2⟩), ([true, false, true, true, true, true, true, false], ⟨g77_b_3, o77_b_3, b77_b_3⟩)]) g77_b_1 x (injK fx77_b ((.normal, g77_b_1) :: o77_b_1) some) := by kernel_rfl
noncomputable def l77_b_1 : g77_b_1.D → Option (outD o77_b_1) := loopN g77_b_1 o77_b_1 b77_b_1 18446744073709551616
theorem p77_b_1 : AllSub P Go.Proofs.Try.f77.ntmps fx77_b (Code.at [true, false, true, true, false, false, false] c77) [([true, false, true, true, true, true, false, false], ⟨g77_b_2, o77_b_2, b77_b_2⟩), ([true, false, true, true, true, true, true, false], ⟨g77_b_3, o77_b_3, b77_b_3⟩)] := And.intro s77_b_2_ok (And.intro s77_b_3_ok (trivial))
theorem q77_b_1 : PlanOk P Go.Proofs.Try.f77.ntmps fx77_b (planAt 64 [([true, false, true, true, true, true, false, false], ⟨g77_b_2, o77_b_2, b77_b_2⟩), ([true, false, true, true, true, true, true, false], ⟨g77_b_3, o77_b_3, b77_b_3⟩)]) (Code.at [true, false, true, true, false, false, false] c77) := planAt_ok p77_b_1
theorem at77_b_1 : Code.at [true, false, true, true, false, false] c77 = .loop (Code.at [true, false, true, true, false, false, false] c77) := by kernel_rfl
theorem s77_b_1_ok : SubOk P Go.Proofs.Try.f77.ntmps fx77_b (Code.at [true, false, true, true, false, false] c77) ⟨g77_b_1, o77_b_1, l77_b_1⟩ := by
  rw [at77_b_1]
  exact loop_ok (sub_ok (g := g77_b_1) (outs := ((.normal, g77_b_1) :: o77_b_1)) (f := b77_b_1) (Table.ok T89_ok _) hmix (q77_b_1) b77_b_1_eq) rfl _
noncomputable def f77_b (x : gi77_b.D) : Option go77_b.D :=
  (if ((List.length x.2.2.2.2.2.2.2.1) = (List.length x.2.2.2.2.2.2.2.1)) then (if ((List.length x.2.2.2.2.2.2.2.2.2.2.2.1) = (List.length x.2.2.2.2.2.2.2.2.2.2.2.1)) then (Option.bind (Go.Ev.Zlib.l77_b_1 (x.1, (x.2.1, (x.2.2.1, (x.2.2.2.1, (x.2.2.2.2.1, (x.2.2.2.2.2.1, (x.2.2.2.2.2.2.1, (x.2.2.2.2.2.2.2.1, (x.2.2.2.2.2.2.2.2.1, (x.2.2.2.2.2.2.2.2.2.1, (x.2.2.2.2.2.2.2.2.2.2.1, (x.2.2.2.2.2.2.2.2.2.2.2.1, ([], Unit.unit)))))))))))))) (Sum.elim (fun y1 => (if ((List.length y1.2.2.2.2.2.2.1) = (List.length y1.2.2.2.2.2.2.1)) then (if ((List.length y1.2.2.2.2.2.2.2.2.2.2.1) = (List.length y1.2.2.2.2.2.2.2.2.2.2.1)) then (some ((List.take (List.length y1.2.2.2.2.2.2.2.2.2.2.2.1) (List.drop (0 : Nat) y1.2.2.2.2.2.2.2.2.2.2.2.1)), ((0 : Int), (y1.1, (y1.2.1, (y1.2.2.1, (y1.2.2.2.1, (y1.2.2.2.2.1, (y1.2.2.2.2.2.1, (y1.2.2.2.2.2.2.1, (y1.2.2.2.2.2.2.2.1, (y1.2.2.2.2.2.2.2.2.1, (y1.2.2.2.2.2.2.2.2.2.1, (y1.2.2.2.2.2.2.2.2.2.2.1, Unit.unit))))))))))))))
   else none)
   else none)) (Sum.elim (fun y1 => (if ((List.length y1.2.2.2.2.2.2.2.2.1) = (List.length y1.2.2.2.2.2.2.2.2.1)) then (if ((List.length y1.2.2.2.2.2.2.2.2.2.2.2.2.1) = (List.length y1.2.2.2.2.2.2.2.2.2.2.2.2.1)) then (some (y1.1, (y1.2.1, (y1.2.2.1, (y1.2.2.2.1, (y1.2.2.2.2.1, (y1.2.2.2.2.2.1, (y1.2.2.2.2.2.2.1, (y1.2.2.2.2.2.2.2.1, (y1.2.2.2.2.2.2.2.2.1, (y1.2.2.2.2.2.2.2.2.2.1, (y1.2.2.2.2.2.2.2.2.2.2.1, (y1.2.2.2.2.2.2.2.2.2.2.2.1, (y1.2.2.2.2.2.2.2.2.2.2.2.2.1, Unit.unit))))))))))))))
   else none)
   else none)) Empty.elim)))
   else none)
   else none)
theorem f77_b_eq (x : gi77_b.D) : f77_b x = evF P (T89.orc _) Go.Proofs.Try.f77.ntmps fx77_b c77 (planAt 64 [([true, false, true, true, false, false], ⟨g77_b_1, o77_b_1, l77_b_1⟩)]) gi77_b x (fnK fx77_b [go77_b]) := by kernel_rfl
theorem pf77_b : AllSub P Go.Proofs.Try.f77.ntmps fx77_b c77 [([true, false, true, true, false, false], ⟨g77_b_1, o77_b_1, l77_b_1⟩)] := And.intro s77_b_1_ok (trivial)
theorem qf77_b : PlanOk P Go.Proofs.Try.f77.ntmps fx77_b (planAt 64 [([true, false, true, true, false, false], ⟨g77_b_1, o77_b_1, l77_b_1⟩)]) c77 := planAt_ok pf77_b
theorem f77_b_ok : EntOk P 77 ⟨gi77_b, [go77_b], f77_b⟩ :=
  ent_ok (fn := Go.Proofs.Try.f77) (gi := gi77_b) (gos := [go77_b]) (f := f77_b) (c := c77) (fx := fx77_b) ⟨Go.Proofs.Try.func77, by kernel_rfl, rfl, by decide +kernel, rfl, rfl⟩ (by kernel_rfl) (Table.ok T89_ok _) hmix (qf77_b) f77_b_eq
noncomputable def T77 : Table := T89.add 77 [⟨gi77, [go77], f77⟩, ⟨gi77_b, [go77_b], f77_b⟩] []
theorem T77_ok : TableOk P T77 := Table.plus T89_ok (es := [⟨gi77, [go77], f77⟩, ⟨gi77_b, [go77_b], f77_b⟩]) ⟨f77_ok, f77_b_ok, trivial⟩ []

/-! ## 54: (*erasure/inflate.work).own -/
noncomputable def c54 : Code := Func.code Go.Proofs.Try.f54
abbrev gi54 : Sg := ⟨[0], [.lf (.ptr 0 0)], [some (.box true [.lf (.ptr 1 0), .lf (.gr (.pair (.int .i64) (.pair (.int .i64) (.int .i64))) 2), .lf (.int .i64), .lf (.int .i64)]), some (.box true [.lf (.sl (.int .u8)), .lf (.int .i64), .lf (.int .i64), .lf (.int .i64)]), some (.arr true (.pair (.int .i64) (.pair (.int .i64) (.int .i64))))]⟩
abbrev go54 : Sg := ⟨[2], [.lf (.int .i64)], [some (.box true [.lf (.ptr 1 0), .lf (.gr (.pair (.int .i64) (.pair (.int .i64) (.int .i64))) 3), .lf (.int .i64), .lf (.int .i64)]), some (.box true [.lf (.sl (.int .u8)), .lf (.int .i64), .lf (.int .i64), .lf (.int .i64)]), none, some (.arr true (.pair (.int .i64) (.pair (.int .i64) (.int .i64))))]⟩
def fx54 : List Bool := [true, true, false]
abbrev g54_2 : Sg := ⟨[0, 5, 6, 7, 46, 47, 48], [.lf (.ptr 0 0), .lf (.int .i64), .lf (.int .i64), .lf (.gr (.int .i64) 3), .lf (.sl (.int .i64)), .lf (.int .i64), .lf (.int .i64)], [some (.box true [.lf (.ptr 1 0), .lf (.gr (.pair (.int .i64) (.pair (.int .i64) (.int .i64))) 4), .lf (.int .i64), .lf (.int .i64)]), some (.box true [.lf (.sl (.int .u8)), .lf (.int .i64), .lf (.int .i64), .lf (.int .i64)]), none, some (.arr true (.int .i64)), some (.arr true (.pair (.int .i64) (.pair (.int .i64) (.int .i64))))]⟩
abbrev o54_2 : Outs := [(.exit 0, ⟨[0, 5, 6, 7], [.lf (.ptr 0 0), .lf (.int .i64), .lf (.int .i64), .lf (.gr (.int .i64) 3)], [some (.box true [.lf (.ptr 1 0), .lf (.gr (.pair (.int .i64) (.pair (.int .i64) (.int .i64))) 4), .lf (.int .i64), .lf (.int .i64)]), some (.box true [.lf (.sl (.int .u8)), .lf (.int .i64), .lf (.int .i64), .lf (.int .i64)]), none, some (.arr true (.int .i64)), some (.arr true (.pair (.int .i64) (.pair (.int .i64) (.int .i64))))]⟩), (.ret, ⟨[2], [.lf (.int .i64)], [some (.box true [.lf (.ptr 1 0), .lf (.gr (.pair (.int .i64) (.pair (.int .i64) (.int .i64))) 3), .lf (.int .i64), .lf (.int .i64)]), some (.box true [.lf (.sl (.int .u8)), .lf (.int .i64), .lf (.int .i64), .lf (.int .i64)]), none, some (.arr true (.pair (.int .i64) (.pair (.int .i64) (.int .i64))))]⟩)]
noncomputable def b54_2 (x : g54_2.D) : Option (outD ((.normal, g54_2) :: o54_2)) :=
  (if ((decide (x.2.2.2.2.1 < x.2.2.2.1)) = true) then (if ((0 : Int) ≤ x.2.2.2.2.1) then (if (x.2.2.2.2.1 < (((List.length x.2.2.1) : Nat) : Int)) then (Option.bind (Go.Ev.Zlib.f72 ((3 : Int), (x.2.2.2.2.2.2.2.1, (x.2.2.2.2.2.2.2.2.1, (x.2.2.2.2.2.2.2.2.2.1, (x.2.2.2.2.2.2.2.2.2.2.1, Unit.unit)))))) (fun y1 => (if ((y1.2.1 != (0 : Int)) = true) then (if ((List.length x.2.2.2.2.2.2.2.2.2.2.2.2.1) = (List.length x.2.2.2.2.2.2.2.2.2.2.2.2.1)) then (some (Sum.inr (Sum.inr (Sum.inl (y1.2.1, (x.2.2.2.2.2.1, (x.2.2.2.2.2.2.1, (y1.2.2.1, (y1.2.2.2.1, (y1.2.2.2.2.1, (y1.2.2.2.2.2.1, (x.2.2.2.2.2.2.2.2.2.2.2.2.1, Unit.unit))))))))))))
   else none)
   else (if ((0 : Int) ≤ (List.getD x.2.2.1 (Int.toNat x.2.2.2.2.1) (0 : Int))) then (if ((List.getD x.2.2.1 (Int.toNat x.2.2.2.2.1) (0 : Int)) < (((List.length x.2.2.2.2.2.2.2.2.2.2.2.1) : Nat) : Int)) then (if ((List.length x.2.2.2.2.2.2.2.2.2.2.2.1) = (List.length (List.set x.2.2.2.2.2.2.2.2.2.2.2.1 ((0 : Nat) + (Int.toNat (List.getD x.2.2.1 (Int.toNat x.2.2.2.2.1) (0 : Int)))) y1.1))) then (if ((List.length x.2.2.2.2.2.2.2.2.2.2.2.2.1) = (List.length x.2.2.2.2.2.2.2.2.2.2.2.2.1)) then (some (Sum.inl (x.1, (x.2.1, (x.2.2.1, (x.2.2.2.1, ((Go.IntKind.wrap Go.IntKind.i64 (x.2.2.2.2.1 + (1 : Int))), (x.2.2.2.2.2.1, (x.2.2.2.2.2.2.1, (y1.2.2.1, (y1.2.2.2.1, (y1.2.2.2.2.1, (y1.2.2.2.2.2.1, ((List.set x.2.2.2.2.2.2.2.2.2.2.2.1 ((0 : Nat) + (Int.toNat (List.getD x.2.2.1 (Int.toNat x.2.2.2.2.1) (0 : Int)))) y1.1), (x.2.2.2.2.2.2.2.2.2.2.2.2.1, Unit.unit)))))))))))))))
   else none)
   else none)
   else none)
   else none))))
   else none)
   else none)
   else (if ((List.length x.2.2.2.2.2.2.2.2.2.2.2.1) = (List.length x.2.2.2.2.2.2.2.2.2.2.2.1)) then (if ((List.length x.2.2.2.2.2.2.2.2.2.2.2.2.1) = (List.length x.2.2.2.2.2.2.2.2.2.2.2.2.1)) then (some (Sum.inr (Sum.inl (x.1, (x.2.1, (x.2.2.2.2.2.1, (x.2.2.2.2.2.2.1, (x.2.2.2.2.2.2.2.1, (x.2.2.2.2.2.2.2.2.1, (x.2.2.2.2.2.2.2.2.2.1, (x.2.2.2.2.2.2.2.2.2.2.1, (x.2.2.2.2.2.2.2.2.2.2.2.1, (x.2.2.2.2.2.2.2.2.2.2.2.2.1, Unit.unit)))))))))))))
   else none)
   else none))
theorem b54_2_eq (x : g54_2.D) : b54_2 x = evF P (T77.orc _) Go.Proofs.Try.f54.ntmps fx54 (Code.at [true, true, true, true, true, true, false, true, false, false] c54) (planAt 64 []) g54_2 x (injK fx54 ((.normal, g54_2) :: o54_2) some) := by kernel_rfl
noncomputable def l54_2 : g54_2.D → Option (outD o54_2) := loopN g54_2 o54_2 b54_2 18446744073709551616
theorem at54_2 : Code.at [true, true, true, true, true, true, false, true, false] c54 = .loop (Code.at [true, true, true, true, true, true, false, true, false, false] c54) := by kernel_rfl
theorem s54_2_ok : SubOk P Go.Proofs.Try.f54.ntmps fx54 (Code.at [true, true, true, true, true, true, false, true, false] c54) ⟨g54_2, o54_2, l54_2⟩ := by
  rw [at54_2]
  exact loop_ok (sub_ok (g := g54_2) (outs := ((.normal, g54_2) :: o54_2)) (f := b54_2) (Table.ok T77_ok _) hmix (planAt_ok (P := P) (n := Go.Proofs.Try.f54.ntmps) (fx := fx54) (c := (Code.at [true, true, true, true, true, true, false, true, false, false] c54)) (d := 64) (l := []) trivial) b54_2_eq) rfl _
abbrev g54_1 : Sg := ⟨[0, 5, 6, 7], [.lf (.ptr 0 0), .lf (.int .i64), .lf (.int .i64), .lf (.gr (.int .i64) 3)], [some (.box true [.lf (.ptr 1 0), .lf (.gr (.pair (.int .i64) (.pair (.int .i64) (.int .i64))) 4), .lf (.int .i64), .lf (.int .i64)]), some (.box true [.lf (.sl (.int .u8)), .lf (.int .i64), .lf (.int .i64), .lf (.int .i64)]), none, some (.arr true (.int .i64)), some (.arr true (.pair (.int .i64) (.pair (.int .i64) (.int .i64))))]⟩
abbrev o54_1 : Outs := [(.normal, ⟨[0, 4, 5, 6, 12], [.lf (.ptr 0 0), .lf (.int .i64), .lf (.int .i64), .lf (.int .i64), .lf .nilp], [some (.box true [.lf (.ptr 1 0), .lf (.gr (.pair (.int .i64) (.pair (.int .i64) (.int .i64))) 3), .lf (.int .i64), .lf (.int .i64)]), some (.box true [.lf (.sl (.int .u8)), .lf (.int .i64), .lf (.int .i64), .lf (.int .i64)]), none, some (.arr true (.pair (.int .i64) (.pair (.int .i64) (.int .i64))))]⟩), (.normal, ⟨[0, 4, 5, 6, 12], [.lf (.ptr 0 0), .lf (.int .i64), .lf (.int .i64), .lf (.int .i64), .lf (.ptr 3 0)], [some (.box true [.lf (.ptr 1 0), .lf (.gr (.pair (.int .i64) (.pair (.int .i64) (.int .i64))) 4), .lf (.int .i64), .lf (.int .i64)]), some (.box true [.lf (.sl (.int .u8)), .lf (.int .i64), .lf (.int .i64), .lf (.int .i64)]), none, some (.box true [.many (.int .i64) 16, .lf (.sl (.int .i64)), .lf (.sl (.int .i64)), .lf (.gr (.int .i64) 5)]), some (.arr true (.pair (.int .i64) (.pair (.int .i64) (.int .i64)))), some (.arr true (.int .i64))]⟩)]
noncomputable def b54_1 (x : g54_1.D) : Option (outD o54_1) :=
  (Option.bind (Go.Ev.Zlib.f32 ((List.take (List.length x.2.2.2.2.2.2.2.2.1) (List.drop (0 : Nat) x.2.2.2.2.2.2.2.2.1)), Unit.unit)) (Sum.elim (fun y1 => (if ((List.length x.2.2.2.2.2.2.2.2.2.1) = (List.length x.2.2.2.2.2.2.2.2.2.1)) then (some (Sum.inl (y1.1, (x.1, (x.2.1, (x.2.2.1, (x.2.2.2.1, (x.2.2.2.2.1, (x.2.2.2.2.2.1, (x.2.2.2.2.2.2.1, (x.2.2.2.2.2.2.2.1, (x.2.2.2.2.2.2.2.2.2.1, Unit.unit))))))))))))
   else none)) (fun y1 => (if ((List.length x.2.2.2.2.2.2.2.2.2.1) = (List.length x.2.2.2.2.2.2.2.2.2.1)) then (if ((List.length y1.2.2.2.2.1) = (List.length y1.2.2.2.2.1)) then (some (Sum.inr (Sum.inl (y1.1, (x.1, (x.2.1, (x.2.2.1, (x.2.2.2.1, (x.2.2.2.2.1, (x.2.2.2.2.2.1, (x.2.2.2.2.2.2.1, (x.2.2.2.2.2.2.2.1, (y1.2.1, (y1.2.2.1, (y1.2.2.2.1, (x.2.2.2.2.2.2.2.2.2.1, (y1.2.2.2.2.1, Unit.unit)))))))))))))))))
   else none)
   else none))))
theorem b54_1_eq (x : g54_1.D) : b54_1 x = evF P (T77.orc _) Go.Proofs.Try.f54.ntmps fx54 (Code.at [true, true, true, true, true, true, true, false] c54) (planAt 64 []) g54_1 x (injK fx54 o54_1 some) := by kernel_rfl
theorem s54_1_ok : SubOk P Go.Proofs.Try.f54.ntmps fx54 (Code.at [true, true, true, true, true, true, true, false] c54) ⟨g54_1, o54_1, b54_1⟩ :=
  sub_ok (g := g54_1) (outs := o54_1) (f := b54_1) (Table.ok T77_ok _) hmix (planAt_ok (P := P) (n := Go.Proofs.Try.f54.ntmps) (fx := fx54) (c := (Code.at [true, true, true, true, true, true, true, false] c54)) (d := 64) (l := []) trivial) b54_1_eq
noncomputable def f54 (x : gi54.D) : Option go54.D :=
  (if ((List.length x.2.2.2.2.2.2.1) = (List.length x.2.2.2.2.2.2.1)) then (Option.bind (Go.Ev.Zlib.f51 ((List.take (3 : Nat) (List.drop (0 : Nat) (List.set (List.set (List.set (List.replicate (3 : Nat) (0 : Int)) (0 : Nat) (5 : Int)) (1 : Nat) (5 : Int)) (2 : Nat) (4 : Int)))), (x.1, (x.2.1, (x.2.2.1, (x.2.2.2.1, (x.2.2.2.2.1, (x.2.2.2.2.2.1, (x.2.2.2.2.2.2.1, Unit.unit))))))))) (fun y1 => (if ((y1.2.1 != (0 : Int)) = true) then (if ((List.length y1.2.2.2.2.2.2.2.2.1) = (List.length y1.2.2.2.2.2.2.2.2.1)) then (some (y1.2.1, (y1.2.2.1, (y1.2.2.2.1, (y1.2.2.2.2.1, (y1.2.2.2.2.2.1, (y1.2.2.2.2.2.2.1, (y1.2.2.2.2.2.2.2.1, (y1.2.2.2.2.2.2.2.2.1, Unit.unit)))))))))
   else none)
   else (if ((0 : Int) < (((List.length y1.1) : Nat) : Int)) then (if ((1 : Int) < (((List.length y1.1) : Nat) : Int)) then (if ((decide ((Go.IntKind.wrap Go.IntKind.i64 ((Go.IntKind.wrap Go.IntKind.i64 ((List.getD y1.1 (0 : Nat) (0 : Int)) + (256 : Int))) + (1 : Int))) > (286 : Int))) = true) then (if ((List.length y1.2.2.2.2.2.2.2.2.1) = (List.length y1.2.2.2.2.2.2.2.2.1)) then (some ((4 : Int), (y1.2.2.1, (y1.2.2.2.1, (y1.2.2.2.2.1, (y1.2.2.2.2.2.1, (y1.2.2.2.2.2.2.1, (y1.2.2.2.2.2.2.2.1, (y1.2.2.2.2.2.2.2.2.1, Unit.unit)))))))))
   else none)
   else (if ((decide ((Go.IntKind.wrap Go.IntKind.i64 ((List.getD y1.1 (1 : Nat) (0 : Int)) + (1 : Int))) > (30 : Int))) = true) then (if ((List.length y1.2.2.2.2.2.2.2.2.1) = (List.length y1.2.2.2.2.2.2.2.2.1)) then (some ((4 : Int), (y1.2.2.1, (y1.2.2.2.1, (y1.2.2.2.2.1, (y1.2.2.2.2.2.1, (y1.2.2.2.2.2.2.1, (y1.2.2.2.2.2.2.2.1, (y1.2.2.2.2.2.2.2.2.1, Unit.unit)))))))))
   else none)
   else (if ((2 : Int) < (((List.length y1.1) : Nat) : Int)) then (if ((0 : Int) ≤ (Go.IntKind.wrap Go.IntKind.i64 ((List.getD y1.1 (2 : Nat) (0 : Int)) + (4 : Int)))) then (if ((Go.IntKind.wrap Go.IntKind.i64 ((List.getD y1.1 (2 : Nat) (0 : Int)) + (4 : Int))) ≤ (19 : Int)) then (if ((List.length y1.2.2.2.2.2.2.2.2.1) = (List.length y1.2.2.2.2.2.2.2.2.1)) then (Option.bind (Go.Ev.Zlib.l54_2 ((Go.IntKind.wrap Go.IntKind.i64 ((Go.IntKind.wrap Go.IntKind.i64 ((List.getD y1.1 (0 : Nat) (0 : Int)) + (256 : Int))) + (1 : Int))), ((Go.IntKind.wrap Go.IntKind.i64 ((List.getD y1.1 (1 : Nat) (0 : Int)) + (1 : Int))), ((List.take ((Int.toNat (Go.IntKind.wrap Go.IntKind.i64 ((List.getD y1.1 (2 : Nat) (0 : Int)) + (4 : Int)))) - (0 : Nat)) (List.drop (0 : Nat) (List.set (List.set (List.set (List.set (List.set (List.set (List.set (List.set (List.set (List.set (List.set (List.set (List.set (List.set (List.set (List.set (List.set (List.set (List.set (List.replicate (19 : Nat) (0 : Int)) (0 : Nat) (16 : Int)) (1 : Nat) (17 : Int)) (2 : Nat) (18 : Int)) (3 : Nat) (0 : Int)) (4 : Nat) (8 : Int)) (5 : Nat) (7 : Int)) (6 : Nat) (9 : Int)) (7 : Nat) (6 : Int)) (8 : Nat) (10 : Int)) (9 : Nat) (5 : Int)) (10 : Nat) (11 : Int)) (11 : Nat) (4 : Int)) (12 : Nat) (12 : Int)) (13 : Nat) (3 : Int)) (14 : Nat) (13 : Int)) (15 : Nat) (2 : Int)) (16 : Nat) (14 : Int)) (17 : Nat) (1 : Int)) (18 : Nat) (15 : Int)))), (((((Int.toNat (Go.IntKind.wrap Go.IntKind.i64 ((List.getD y1.1 (2 : Nat) (0 : Int)) + (4 : Int)))) - (0 : Nat)) : Nat) : Int), ((0 : Int), (y1.2.2.1, (y1.2.2.2.1, (y1.2.2.2.2.1, (y1.2.2.2.2.2.1, (y1.2.2.2.2.2.2.1, (y1.2.2.2.2.2.2.2.1, ((List.replicate (19 : Nat) (0 : Int)), (y1.2.2.2.2.2.2.2.2.1, Unit.unit)))))))))))))) (Sum.elim (fun y2 => (if ((List.length y2.2.2.2.2.2.2.2.2.1) = (List.length y2.2.2.2.2.2.2.2.2.1)) then (if ((List.length y2.2.2.2.2.2.2.2.2.2.1) = (List.length y2.2.2.2.2.2.2.2.2.2.1)) then (Option.bind (Go.Ev.Zlib.b54_1 (y2.1, (y2.2.1, (y2.2.2.1, (y2.2.2.2.1, (y2.2.2.2.2.1, (y2.2.2.2.2.2.1, (y2.2.2.2.2.2.2.1, (y2.2.2.2.2.2.2.2.1, (y2.2.2.2.2.2.2.2.2.1, (y2.2.2.2.2.2.2.2.2.2.1, Unit.unit))))))))))) (Sum.elim (fun y3 => (if ((y3.1 != (0 : Int)) = true) then (if ((List.length y3.2.2.2.2.2.2.2.2.2.1) = (List.length y3.2.2.2.2.2.2.2.2.2.1)) then (some (y3.1, (y3.2.2.2.1, (y3.2.2.2.2.1, (y3.2.2.2.2.2.1, (y3.2.2.2.2.2.2.1, (y3.2.2.2.2.2.2.2.1, (y3.2.2.2.2.2.2.2.2.1, (y3.2.2.2.2.2.2.2.2.2.1, Unit.unit)))))))))
   else none)
   else (if ((List.length y3.2.2.2.2.2.2.2.2.2.1) = (List.length y3.2.2.2.2.2.2.2.2.2.1)) then (Option.bind (Go.Ev.Zlib.f77 ((Go.IntKind.wrap Go.IntKind.i64 (y3.2.1 + y3.2.2.1)), (y3.2.2.2.1, (y3.2.2.2.2.1, (y3.2.2.2.2.2.1, (y3.2.2.2.2.2.2.1, (y3.2.2.2.2.2.2.2.1, (y3.2.2.2.2.2.2.2.2.1, (y3.2.2.2.2.2.2.2.2.2.1, Unit.unit))))))))) (fun y4 => (if ((y4.2.1 != (0 : Int)) = true) then (if ((List.length y4.2.2.2.2.2.2.2.2.1) = (List.length y4.2.2.2.2.2.2.2.2.1)) then (some (y4.2.1, (y4.2.2.1, (y4.2.2.2.1, (y4.2.2.2.2.1, (y4.2.2.2.2.2.1, (y4.2.2.2.2.2.2.1, (y4.2.2.2.2.2.2.2.1, (y4.2.2.2.2.2.2.2.2.1, Unit.unit)))))))))
   else none)
   else (if ((256 : Int) < (((List.length y4.1) : Nat) : Int)) then (if (((List.getD y4.1 (256 : Nat) (0 : Int)) == (0 : Int)) = true) then (if ((List.length y4.2.2.2.2.2.2.2.2.1) = (List.length y4.2.2.2.2.2.2.2.2.1)) then (some ((4 : Int), (y4.2.2.1, (y4.2.2.2.1, (y4.2.2.2.2.1, (y4.2.2.2.2.2.1, (y4.2.2.2.2.2.2.1, (y4.2.2.2.2.2.2.2.1, (y4.2.2.2.2.2.2.2.2.1, Unit.unit)))))))))
   else none)
   else (if ((0 : Int) ≤ y3.2.1) then (if (y3.2.1 ≤ (((List.length y4.1) : Nat) : Int)) then (Option.bind (Go.Ev.Zlib.f32 ((List.take (Int.toNat y3.2.1) y4.1), Unit.unit)) (Sum.elim (fun y5 => (if ((y5.1 != (0 : Int)) = true) then (if ((List.length y4.2.2.2.2.2.2.2.2.1) = (List.length y4.2.2.2.2.2.2.2.2.1)) then (some (y5.1, (y4.2.2.1, (y4.2.2.2.1, (y4.2.2.2.2.1, (y4.2.2.2.2.2.1, (y4.2.2.2.2.2.2.1, (y4.2.2.2.2.2.2.2.1, (y4.2.2.2.2.2.2.2.2.1, Unit.unit)))))))))
   else none)
   else (if ((0 : Int) ≤ y3.2.1) then (if (y3.2.1 ≤ (((List.length y4.1) : Nat) : Int)) then (Option.bind (Go.Ev.Zlib.f32 ((List.drop (Int.toNat y3.2.1) y4.1), Unit.unit)) (Sum.elim (fun y6 => (if ((y6.1 != (0 : Int)) = true) then (if ((List.length y4.2.2.2.2.2.2.2.2.1) = (List.length y4.2.2.2.2.2.2.2.2.1)) then (some (y6.1, (y4.2.2.1, (y4.2.2.2.1, (y4.2.2.2.2.1, (y4.2.2.2.2.2.1, (y4.2.2.2.2.2.2.1, (y4.2.2.2.2.2.2.2.1, (y4.2.2.2.2.2.2.2.2.1, Unit.unit)))))))))
   else none)
   else (if ((List.length y4.2.2.2.2.2.2.2.2.1) = (List.length y4.2.2.2.2.2.2.2.2.1)) then (Option.bind (Go.Ev.Zlib.f76 (y4.2.2.1, (y4.2.2.2.1, (y4.2.2.2.2.1, (y4.2.2.2.2.2.1, (y4.2.2.2.2.2.2.1, (y4.2.2.2.2.2.2.2.1, (y4.2.2.2.2.2.2.2.2.1, Unit.unit)))))))) (fun y7 => (if ((List.length y7.2.2.2.2.2.2.2.1) = (List.length y7.2.2.2.2.2.2.2.1)) then (some (y7.1, (y7.2.1, (y7.2.2.1, (y7.2.2.2.1, (y7.2.2.2.2.1, (y7.2.2.2.2.2.1, (y7.2.2.2.2.2.2.1, (y7.2.2.2.2.2.2.2.1, Unit.unit)))))))))
   else none)))
   else none))) (fun y6 => (if ((y6.1 != (0 : Int)) = true) then (if ((List.length y4.2.2.2.2.2.2.2.2.1) = (List.length y4.2.2.2.2.2.2.2.2.1)) then (some (y6.1, (y4.2.2.1, (y4.2.2.2.1, (y4.2.2.2.2.1, (y4.2.2.2.2.2.1, (y4.2.2.2.2.2.2.1, (y4.2.2.2.2.2.2.2.1, (y4.2.2.2.2.2.2.2.2.1, Unit.unit)))))))))
   else none)
   else (if ((List.length y4.2.2.2.2.2.2.2.2.1) = (List.length y4.2.2.2.2.2.2.2.2.1)) then (if ((List.length y6.2.2.2.2.1) = (List.length y6.2.2.2.2.1)) then (Option.bind (Go.Ev.Zlib.f76_b (y4.2.2.1, (y4.2.2.2.1, (y4.2.2.2.2.1, (y4.2.2.2.2.2.1, (y4.2.2.2.2.2.2.1, (y4.2.2.2.2.2.2.2.1, (y4.2.2.2.2.2.2.2.2.1, (y6.2.1, (y6.2.2.1, (y6.2.2.2.1, (y6.2.2.2.2.1, Unit.unit)))))))))))) (fun y7 => (if ((List.length y7.2.2.2.2.2.2.2.2.2.2.2.1) = (List.length y7.2.2.2.2.2.2.2.2.2.2.2.1)) then (some (y7.1, (y7.2.1, (y7.2.2.1, (y7.2.2.2.1, (y7.2.2.2.2.1, (y7.2.2.2.2.2.1, (y7.2.2.2.2.2.2.1, (y7.2.2.2.2.2.2.2.2.2.2.2.1, Unit.unit)))))))))
   else none)))
   else none)
   else none)))))
   else none)
   else none))) (fun y5 => (if ((y5.1 != (0 : Int)) = true) then (if ((List.length y4.2.2.2.2.2.2.2.2.1) = (List.length y4.2.2.2.2.2.2.2.2.1)) then (some (y5.1, (y4.2.2.1, (y4.2.2.2.1, (y4.2.2.2.2.1, (y4.2.2.2.2.2.1, (y4.2.2.2.2.2.2.1, (y4.2.2.2.2.2.2.2.1, (y4.2.2.2.2.2.2.2.2.1, Unit.unit)))))))))
   else none)
   else (if ((0 : Int) ≤ y3.2.1) then (if (y3.2.1 ≤ (((List.length y4.1) : Nat) : Int)) then (Option.bind (Go.Ev.Zlib.f32 ((List.drop (Int.toNat y3.2.1) y4.1), Unit.unit)) (Sum.elim (fun y6 => (if ((y6.1 != (0 : Int)) = true) then (if ((List.length y4.2.2.2.2.2.2.2.2.1) = (List.length y4.2.2.2.2.2.2.2.2.1)) then (some (y6.1, (y4.2.2.1, (y4.2.2.2.1, (y4.2.2.2.2.1, (y4.2.2.2.2.2.1, (y4.2.2.2.2.2.2.1, (y4.2.2.2.2.2.2.2.1, (y4.2.2.2.2.2.2.2.2.1, Unit.unit)))))))))
   else none)
   else (if ((List.length y4.2.2.2.2.2.2.2.2.1) = (List.length y4.2.2.2.2.2.2.2.2.1)) then (if ((List.length y5.2.2.2.2.1) = (List.length y5.2.2.2.2.1)) then (Option.bind (Go.Ev.Zlib.f76_c (y4.2.2.1, (y4.2.2.2.1, (y4.2.2.2.2.1, (y4.2.2.2.2.2.1, (y4.2.2.2.2.2.2.1, (y4.2.2.2.2.2.2.2.1, (y4.2.2.2.2.2.2.2.2.1, (y5.2.1, (y5.2.2.1, (y5.2.2.2.1, (y5.2.2.2.2.1, Unit.unit)))))))))))) (fun y7 => (if ((List.length y7.2.2.2.2.2.2.2.2.2.2.2.1) = (List.length y7.2.2.2.2.2.2.2.2.2.2.2.1)) then (some (y7.1, (y7.2.1, (y7.2.2.1, (y7.2.2.2.1, (y7.2.2.2.2.1, (y7.2.2.2.2.2.1, (y7.2.2.2.2.2.2.1, (y7.2.2.2.2.2.2.2.2.2.2.2.1, Unit.unit)))))))))
   else none)))
   else none)
   else none))) (fun y6 => (if ((y6.1 != (0 : Int)) = true) then (if ((List.length y4.2.2.2.2.2.2.2.2.1) = (List.length y4.2.2.2.2.2.2.2.2.1)) then (some (y6.1, (y4.2.2.1, (y4.2.2.2.1, (y4.2.2.2.2.1, (y4.2.2.2.2.2.1, (y4.2.2.2.2.2.2.1, (y4.2.2.2.2.2.2.2.1, (y4.2.2.2.2.2.2.2.2.1, Unit.unit)))))))))
   else none)
   else (if ((List.length y4.2.2.2.2.2.2.2.2.1) = (List.length y4.2.2.2.2.2.2.2.2.1)) then (if ((List.length y5.2.2.2.2.1) = (List.length y5.2.2.2.2.1)) then (if ((List.length y6.2.2.2.2.1) = (List.length y6.2.2.2.2.1)) then (Option.bind (Go.Ev.Zlib.f76_d (y4.2.2.1, (y4.2.2.2.1, (y4.2.2.2.2.1, (y4.2.2.2.2.2.1, (y4.2.2.2.2.2.2.1, (y4.2.2.2.2.2.2.2.1, (y4.2.2.2.2.2.2.2.2.1, (y5.2.1, (y5.2.2.1, (y5.2.2.2.1, (y5.2.2.2.2.1, (y6.2.1, (y6.2.2.1, (y6.2.2.2.1, (y6.2.2.2.2.1, Unit.unit)))))))))))))))) (fun y7 => (if ((List.length y7.2.2.2.2.2.2.2.2.2.2.2.2.2.2.2.1) = (List.length y7.2.2.2.2.2.2.2.2.2.2.2.2.2.2.2.1)) then (some (y7.1, (y7.2.1, (y7.2.2.1, (y7.2.2.2.1, (y7.2.2.2.2.1, (y7.2.2.2.2.2.1, (y7.2.2.2.2.2.2.1, (y7.2.2.2.2.2.2.2.2.2.2.2.2.2.2.2.1, Unit.unit)))))))))
   else none)))
   else none)
   else none)
   else none)))))
   else none)
   else none)))))
   else none)
   else none))
   else none))))
   else none))) (Sum.elim (fun y3 => (if ((y3.1 != (0 : Int)) = true) then (if ((List.length y3.2.2.2.2.2.2.2.2.2.2.2.2.1) = (List.length y3.2.2.2.2.2.2.2.2.2.2.2.2.1)) then (some (y3.1, (y3.2.2.2.1, (y3.2.2.2.2.1, (y3.2.2.2.2.2.1, (y3.2.2.2.2.2.2.1, (y3.2.2.2.2.2.2.2.1, (y3.2.2.2.2.2.2.2.2.1, (y3.2.2.2.2.2.2.2.2.2.2.2.2.1, Unit.unit)))))))))
   else none)
   else (if ((List.length y3.2.2.2.2.2.2.2.2.2.2.2.2.1) = (List.length y3.2.2.2.2.2.2.2.2.2.2.2.2.1)) then (if ((List.length y3.2.2.2.2.2.2.2.2.2.2.2.2.2.1) = (List.length y3.2.2.2.2.2.2.2.2.2.2.2.2.2.1)) then (Option.bind (Go.Ev.Zlib.f77_b ((Go.IntKind.wrap Go.IntKind.i64 (y3.2.1 + y3.2.2.1)), (y3.2.2.2.1, (y3.2.2.2.2.1, (y3.2.2.2.2.2.1, (y3.2.2.2.2.2.2.1, (y3.2.2.2.2.2.2.2.1, (y3.2.2.2.2.2.2.2.2.1, (y3.2.2.2.2.2.2.2.2.2.2.2.2.1, (y3.2.2.2.2.2.2.2.2.2.1, (y3.2.2.2.2.2.2.2.2.2.2.1, (y3.2.2.2.2.2.2.2.2.2.2.2.1, (y3.2.2.2.2.2.2.2.2.2.2.2.2.2.1, Unit.unit))))))))))))) (fun y4 => (if ((y4.2.1 != (0 : Int)) = true) then (if ((List.length y4.2.2.2.2.2.2.2.2.1) = (List.length y4.2.2.2.2.2.2.2.2.1)) then (some (y4.2.1, (y4.2.2.1, (y4.2.2.2.1, (y4.2.2.2.2.1, (y4.2.2.2.2.2.1, (y4.2.2.2.2.2.2.1, (y4.2.2.2.2.2.2.2.1, (y4.2.2.2.2.2.2.2.2.1, Unit.unit)))))))))
   else none)
   else (if ((256 : Int) < (((List.length y4.1) : Nat) : Int)) then (if (((List.getD y4.1 (256 : Nat) (0 : Int)) == (0 : Int)) = true) then (if ((List.length y4.2.2.2.2.2.2.2.2.1) = (List.length y4.2.2.2.2.2.2.2.2.1)) then (some ((4 : Int), (y4.2.2.1, (y4.2.2.2.1, (y4.2.2.2.2.1, (y4.2.2.2.2.2.1, (y4.2.2.2.2.2.2.1, (y4.2.2.2.2.2.2.2.1, (y4.2.2.2.2.2.2.2.2.1, Unit.unit)))))))))
   else none)
   else (if ((0 : Int) ≤ y3.2.1) then (if (y3.2.1 ≤ (((List.length y4.1) : Nat) : Int)) then (Option.bind (Go.Ev.Zlib.f32 ((List.take (Int.toNat y3.2.1) y4.1), Unit.unit)) (Sum.elim (fun y5 => (if ((y5.1 != (0 : Int)) = true) then (if ((List.length y4.2.2.2.2.2.2.2.2.1) = (List.length y4.2.2.2.2.2.2.2.2.1)) then (some (y5.1, (y4.2.2.1, (y4.2.2.2.1, (y4.2.2.2.2.1, (y4.2.2.2.2.2.1, (y4.2.2.2.2.2.2.1, (y4.2.2.2.2.2.2.2.1, (y4.2.2.2.2.2.2.2.2.1, Unit.unit)))))))))
   else none)
   else (if ((0 : Int) ≤ y3.2.1) then (if (y3.2.1 ≤ (((List.length y4.1) : Nat) : Int)) then (Option.bind (Go.Ev.Zlib.f32 ((List.drop (Int.toNat y3.2.1) y4.1), Unit.unit)) (Sum.elim (fun y6 => (if ((y6.1 != (0 : Int)) = true) then (if ((List.length y4.2.2.2.2.2.2.2.2.1) = (List.length y4.2.2.2.2.2.2.2.2.1)) then (some (y6.1, (y4.2.2.1, (y4.2.2.2.1, (y4.2.2.2.2.1, (y4.2.2.2.2.2.1, (y4.2.2.2.2.2.2.1, (y4.2.2.2.2.2.2.2.1, (y4.2.2.2.2.2.2.2.2.1, Unit.unit)))))))))
   else none)
   else (if ((List.length y4.2.2.2.2.2.2.2.2.1) = (List.length y4.2.2.2.2.2.2.2.2.1)) then (Option.bind (Go.Ev.Zlib.f76 (y4.2.2.1, (y4.2.2.2.1, (y4.2.2.2.2.1, (y4.2.2.2.2.2.1, (y4.2.2.2.2.2.2.1, (y4.2.2.2.2.2.2.2.1, (y4.2.2.2.2.2.2.2.2.1, Unit.unit)))))))) (fun y7 => (if ((List.length y7.2.2.2.2.2.2.2.1) = (List.length y7.2.2.2.2.2.2.2.1)) then (some (y7.1, (y7.2.1, (y7.2.2.1, (y7.2.2.2.1, (y7.2.2.2.2.1, (y7.2.2.2.2.2.1, (y7.2.2.2.2.2.2.1, (y7.2.2.2.2.2.2.2.1, Unit.unit)))))))))
   else none)))
   else none))) (fun y6 => (if ((y6.1 != (0 : Int)) = true) then (if ((List.length y4.2.2.2.2.2.2.2.2.1) = (List.length y4.2.2.2.2.2.2.2.2.1)) then (some (y6.1, (y4.2.2.1, (y4.2.2.2.1, (y4.2.2.2.2.1, (y4.2.2.2.2.2.1, (y4.2.2.2.2.2.2.1, (y4.2.2.2.2.2.2.2.1, (y4.2.2.2.2.2.2.2.2.1, Unit.unit)))))))))
   else none)
   else (if ((List.length y4.2.2.2.2.2.2.2.2.1) = (List.length y4.2.2.2.2.2.2.2.2.1)) then (if ((List.length y6.2.2.2.2.1) = (List.length y6.2.2.2.2.1)) then (Option.bind (Go.Ev.Zlib.f76_b (y4.2.2.1, (y4.2.2.2.1, (y4.2.2.2.2.1, (y4.2.2.2.2.2.1, (y4.2.2.2.2.2.2.1, (y4.2.2.2.2.2.2.2.1, (y4.2.2.2.2.2.2.2.2.1, (y6.2.1, (y6.2.2.1, (y6.2.2.2.1, (y6.2.2.2.2.1, Unit.unit)))))))))))) (fun y7 => (if ((List.length y7.2.2.2.2.2.2.2.2.2.2.2.1) = (List.length y7.2.2.2.2.2.2.2.2.2.2.2.1)) then (some (y7.1, (y7.2.1, (y7.2.2.1, (y7.2.2.2.1, (y7.2.2.2.2.1, (y7.2.2.2.2.2.1, (y7.2.2.2.2.2.2.1, (y7.2.2.2.2.2.2.2.2.2.2.2.1, Unit.unit)))))))))
   else none)))
   else none)
   else none)))))
   else none)
   else none))) (fun y5 => (if ((y5.1 != (0 : Int)) = true) then (if ((List.length y4.2.2.2.2.2.2.2.2.1) = (List.length y4.2.2.2.2.2.2.2.2.1)) then (some (y5.1, (y4.2.2.1, (y4.2.2.2.1, (y4.2.2.2.2.1, (y4.2.2.2.2.2.1, (y4.2.2.2.2.2.2.1, (y4.2.2.2.2.2.2.2.1, (y4.2.2.2.2.2.2.2.2.1, Unit.unit)))))))))
   else none)
   else (if ((0 : Int) ≤ y3.2.1) then (if (y3.2.1 ≤ (((List.length y4.1) : Nat) : Int)) then (Option.bind (Go.Ev.Zlib.f32 ((List.drop (Int.toNat y3.2.1) y4.1), Unit.unit)) (Sum.elim (fun y6 => (if ((y6.1 != (0 : Int)) = true) then (if ((List.length y4.2.2.2.2.2.2.2.2.1) = (List.length y4.2.2.2.2.2.2.2.2.1)) then (some (y6.1, (y4.2.2.1, (y4.2.2.2.1, (y4.2.2.2.2.1, (y4.2.2.2.2.2.1, (y4.2.2.2.2.2.2.1, (y4.2.2.2.2.2.2.2.1, (y4.2.2.2.2.2.2.2.2.1, Unit.unit)))))))))
   else none)
   else (if ((List.length y4.2.2.2.2.2.2.2.2.1) = (List.length y4.2.2.2.2.2.2.2.2.1)) then (if ((List.length y5.2.2.2.2.1) = (List.length y5.2.2.2.2.1)) then (Option.bind (Go.Ev.Zlib.f76_c (y4.2.2.1, (y4.2.2.2.1, (y4.2.2.2.2.1, (y4.2.2.2.2.2.1, (y4.2.2.2.2.2.2.1, (y4.2.2.2.2.2.2.2.1, (y4.2.2.2.2.2.2.2.2.1, (y5.2.1, (y5.2.2.1, (y5.2.2.2.1, (y5.2.2.2.2.1, Unit.unit)))))))))))) (fun y7 => (if ((List.length y7.2.2.2.2.2.2.2.2.2.2.2.1) = (List.length y7.2.2.2.2.2.2.2.2.2.2.2.1)) then (some (y7.1, (y7.2.1, (y7.2.2.1, (y7.2.2.2.1, (y7.2.2.2.2.1, (y7.2.2.2.2.2.1, (y7.2.2.2.2.2.2.1, (y7.2.2.2.2.2.2.2.2.2.2.2.1, Unit.unit)))))))))
   else none)))
   else none)
   else none))) (fun y6 => (if ((y6.1 != (0 : Int)) = true) then (if ((List.length y4.2.2.2.2.2.2.2.2.1) = (List.length y4.2.2.2.2.2.2.2.2.1)) then (some (y6.1, (y4.2.2.1, (y4.2.2.2.1, (y4.2.2.2.2.1, (y4.2.2.2.2.2.1, (y4.2.2.2.2.2.2.1, (y4.2.2.2.2.2.2.2.1, (y4.2.2.2.2.2.2.2.2.1, Unit.unit)))))))))
   else none)
   else (if ((List.length y4.2.2.2.2.2.2.2.2.1) = (List.length y4.2.2.2.2.2.2.2.2.1)) then (if ((List.length y5.2.2.2.2.1) = (List.length y5.2.2.2.2.1)) then (if ((List.length y6.2.2.2.2.1) = (List.length y6.2.2.2.2.1)) then (Option.bind (Go.Ev.Zlib.f76_d (y4.2.2.1, (y4.2.2.2.1, (y4.2.2.2.2.1, (y4.2.2.2.2.2.1, (y4.2.2.2.2.2.2.1, (y4.2.2.2.2.2.2.2.1, (y4.2.2.2.2.2.2.2.2.1, (y5.2.1, (y5.2.2.1, (y5.2.2.2.1, (y5.2.2.2.2.1, (y6.2.1, (y6.2.2.1, (y6.2.2.2.1, (y6.2.2.2.2.1, Unit.unit)))))))))))))))) (fun y7 => (if ((List.length y7.2.2.2.2.2.2.2.2.2.2.2.2.2.2.2.1) = (List.length y7.2.2.2.2.2.2.2.2.2.2.2.2.2.2.2.1)) then (some (y7.1, (y7.2.1, (y7.2.2.1, (y7.2.2.2.1, (y7.2.2.2.2.1, (y7.2.2.2.2.2.1, (y7.2.2.2.2.2.2.1, (y7.2.2.2.2.2.2.2.2.2.2.2.2.2.2.2.1, Unit.unit)))))))))
   else none)))
   else none)
   else none)
   else none)))))
   else none)
   else none)))))
   else none)
   else none))
   else none))))
   else none)
   else none))) Empty.elim)))
   else none)
   else none)) (Sum.elim (fun y2 => (if ((List.length y2.2.2.2.2.2.2.2.1) = (List.length y2.2.2.2.2.2.2.2.1)) then (some (y2.1, (y2.2.1, (y2.2.2.1, (y2.2.2.2.1, (y2.2.2.2.2.1, (y2.2.2.2.2.2.1, (y2.2.2.2.2.2.2.1, (y2.2.2.2.2.2.2.2.1, Unit.unit)))))))))
   else none)) Empty.elim)))
   else none)
   else none)
   else none)
   else none)))
   else none)
   else none))))
   else none)
theorem f54_eq (x : gi54.D) : f54 x = evF P (T77.orc _) Go.Proofs.Try.f54.ntmps fx54 c54 (planAt 64 [([true, true, true, true, true, true, true, false], ⟨g54_1, o54_1, b54_1⟩), ([true, true, true, true, true, true, false, true, false], ⟨g54_2, o54_2, l54_2⟩)]) gi54 x (fnK fx54 [go54]) := by kernel_rfl
theorem pf54 : AllSub P Go.Proofs.Try.f54.ntmps fx54 c54 [([true, true, true, true, true, true, true, false], ⟨g54_1, o54_1, b54_1⟩), ([true, true, true, true, true, true, false, true, false], ⟨g54_2, o54_2, l54_2⟩)] := And.intro s54_1_ok (And.intro s54_2_ok (trivial))
theorem qf54 : PlanOk P Go.Proofs.Try.f54.ntmps fx54 (planAt 64 [([true, true, true, true, true, true, true, false], ⟨g54_1, o54_1, b54_1⟩), ([true, true, true, true, true, true, false, true, false], ⟨g54_2, o54_2, l54_2⟩)]) c54 := planAt_ok pf54
theorem f54_ok : EntOk P 54 ⟨gi54, [go54], f54⟩ :=
  ent_ok (fn := Go.Proofs.Try.f54) (gi := gi54) (gos := [go54]) (f := f54) (c := c54) (fx := fx54) ⟨Go.Proofs.Try.func54, by kernel_rfl, rfl, by decide +kernel, rfl, rfl⟩ (by kernel_rfl) (Table.ok T77_ok _) hmix (qf54) f54_eq
noncomputable def T54 : Table := T77.add 54 [⟨gi54, [go54], f54⟩] []
theorem T54_ok : TableOk P T54 := Table.plus T77_ok (es := [⟨gi54, [go54], f54⟩]) ⟨f54_ok, trivial⟩ []

/-! ## 24: erasure/inflate.Tokens -/
noncomputable def c24 : Code := Func.code Go.Proofs.Try.f24
abbrev gi24 : Sg := ⟨[0, 1], [.lf (.sl (.int .u8)), .lf (.int .i64)], []⟩
abbrev go24 : Sg := ⟨[4, 5, 6], [.lf (.sl (.pair (.int .i64) (.pair (.int .i64) (.int .i64)))), .lf (.int .i64), .lf (.int .i64)], []⟩
def fx24 : List Bool := []
abbrev g24_2 : Sg := ⟨[0, 7, 8], [.lf (.sl (.int .u8)), .lf (.ptr 0 0), .lf (.sl (.int .i64))], [some (.box true [.lf (.ptr 1 0), .lf (.gr (.pair (.int .i64) (.pair (.int .i64) (.int .i64))) 2), .lf (.int .i64), .lf (.int .i64)]), some (.box true [.lf (.sl (.int .u8)), .lf (.int .i64), .lf (.int .i64), .lf (.int .i64)]), some (.arr true (.pair (.int .i64) (.pair (.int .i64) (.int .i64))))]⟩
abbrev o24_2 : Outs := [(.normal, ⟨[0, 7, 8, 9], [.lf (.sl (.int .u8)), .lf (.ptr 0 0), .lf (.sl (.int .i64)), .lf (.int .i64)], [some (.box true [.lf (.ptr 1 0), .lf (.gr (.pair (.int .i64) (.pair (.int .i64) (.int .i64))) 2), .lf (.int .i64), .lf (.int .i64)]), some (.box true [.lf (.sl (.int .u8)), .lf (.int .i64), .lf (.int .i64), .lf (.int .i64)]), some (.arr true (.pair (.int .i64) (.pair (.int .i64) (.int .i64))))]⟩)]
noncomputable def b24_2 (x : g24_2.D) : Option (outD o24_2) :=
  (if ((1 : Int) < (((List.length x.2.1) : Nat) : Int)) then (if (((List.getD x.2.1 (1 : Nat) (0 : Int)) == (0 : Int)) = true) then (if ((List.length x.2.2.2.2.2.2.2.2.1) = (List.length x.2.2.2.2.2.2.2.2.1)) then (Option.bind (Go.Ev.Zlib.f52 (x.2.2.1, (x.2.2.2.1, (x.2.2.2.2.1, (x.2.2.2.2.2.1, (x.2.2.2.2.2.2.1, (x.2.2.2.2.2.2.2.1, (x.2.2.2.2.2.2.2.2.1, Unit.unit)))))))) (fun y1 => (if ((List.length y1.2.2.2.2.2.2.2.1) = (List.length y1.2.2.2.2.2.2.2.1)) then (some (Sum.inl (x.1, (x.2.1, (y1.1, (y1.2.1, (y1.2.2.1, (y1.2.2.2.1, (y1.2.2.2.2.1, (y1.2.2.2.2.2.1, (y1.2.2.2.2.2.2.1, (y1.2.2.2.2.2.2.2.1, Unit.unit))))))))))))
   else none)))
   else none)
   else (if (((List.getD x.2.1 (1 : Nat) (0 : Int)) == (1 : Int)) = true) then (if ((List.length x.2.2.2.2.2.2.2.2.1) = (List.length x.2.2.2.2.2.2.2.2.1)) then (Option.bind (Go.Ev.Zlib.f53 (x.2.2.1, (x.2.2.2.1, (x.2.2.2.2.1, (x.2.2.2.2.2.1, (x.2.2.2.2.2.2.1, (x.2.2.2.2.2.2.2.1, (x.2.2.2.2.2.2.2.2.1, Unit.unit)))))))) (fun y1 => (if ((List.length y1.2.2.2.2.2.2.2.1) = (List.length y1.2.2.2.2.2.2.2.1)) then (some (Sum.inl (x.1, (x.2.1, (y1.1, (y1.2.1, (y1.2.2.1, (y1.2.2.2.1, (y1.2.2.2.2.1, (y1.2.2.2.2.2.1, (y1.2.2.2.2.2.2.1, (y1.2.2.2.2.2.2.2.1, Unit.unit))))))))))))
   else none)))
   else none)
   else (if (((List.getD x.2.1 (1 : Nat) (0 : Int)) == (2 : Int)) = true) then (if ((List.length x.2.2.2.2.2.2.2.2.1) = (List.length x.2.2.2.2.2.2.2.2.1)) then (Option.bind (Go.Ev.Zlib.f54 (x.2.2.1, (x.2.2.2.1, (x.2.2.2.2.1, (x.2.2.2.2.2.1, (x.2.2.2.2.2.2.1, (x.2.2.2.2.2.2.2.1, (x.2.2.2.2.2.2.2.2.1, Unit.unit)))))))) (fun y1 => (if ((List.length y1.2.2.2.2.2.2.2.1) = (List.length y1.2.2.2.2.2.2.2.1)) then (some (Sum.inl (x.1, (x.2.1, (y1.1, (y1.2.1, (y1.2.2.1, (y1.2.2.2.1, (y1.2.2.2.2.1, (y1.2.2.2.2.2.1, (y1.2.2.2.2.2.2.1, (y1.2.2.2.2.2.2.2.1, Unit.unit))))))))))))
   else none)))
   else none)
   else (if ((List.length x.2.2.2.2.2.2.2.2.1) = (List.length x.2.2.2.2.2.2.2.2.1)) then (some (Sum.inl (x.1, (x.2.1, ((4 : Int), (x.2.2.1, (x.2.2.2.1, (x.2.2.2.2.1, (x.2.2.2.2.2.1, (x.2.2.2.2.2.2.1, (x.2.2.2.2.2.2.2.1, (x.2.2.2.2.2.2.2.2.1, Unit.unit))))))))))))
   else none))))
   else none)
theorem b24_2_eq (x : g24_2.D) : b24_2 x = evF P (T54.orc _) Go.Proofs.Try.f24.ntmps fx24 (Code.at [true, false, true, true, true, false, false, false, false, true, true, false] c24) (planAt 64 []) g24_2 x (injK fx24 o24_2 some) := by kernel_rfl
theorem s24_2_ok : SubOk P Go.Proofs.Try.f24.ntmps fx24 (Code.at [true, false, true, true, true, false, false, false, false, true, true, false] c24) ⟨g24_2, o24_2, b24_2⟩ :=
  sub_ok (g := g24_2) (outs := o24_2) (f := b24_2) (Table.ok T54_ok _) hmix (planAt_ok (P := P) (n := Go.Proofs.Try.f24.ntmps) (fx := fx24) (c := (Code.at [true, false, true, true, true, false, false, false, false, true, true, false] c24)) (d := 64) (l := []) trivial) b24_2_eq
abbrev g24_1 : Sg := ⟨[0, 7], [.lf (.sl (.int .u8)), .lf (.ptr 0 0)], [some (.box true [.lf (.ptr 1 0), .lf (.gr (.pair (.int .i64) (.pair (.int .i64) (.int .i64))) 2), .lf (.int .i64), .lf (.int .i64)]), some (.box true [.lf (.sl (.int .u8)), .lf (.int .i64), .lf (.int .i64), .lf (.int .i64)]), some (.arr true (.pair (.int .i64) (.pair (.int .i64) (.int .i64))))]⟩
abbrev o24_1 : Outs := [(.ret, ⟨[4, 5, 6], [.lf (.sl (.pair (.int .i64) (.pair (.int .i64) (.int .i64)))), .lf (.int .i64), .lf (.int .i64)], []⟩), (.exit 0, ⟨[0, 7], [.lf (.sl (.int .u8)), .lf (.ptr 0 0)], [some (.box true [.lf (.ptr 1 0), .lf (.gr (.pair (.int .i64) (.pair (.int .i64) (.int .i64))) 2), .lf (.int .i64), .lf (.int .i64)]), some (.box true [.lf (.sl (.int .u8)), .lf (.int .i64), .lf (.int .i64), .lf (.int .i64)]), some (.arr true (.pair (.int .i64) (.pair (.int .i64) (.int .i64))))]⟩)]
noncomputable def b24_1 (x : g24_1.D) : Option (outD ((.normal, g24_1) :: o24_1)) :=
  (if ((List.length x.2.2.2.2.2.2.2.1) = (List.length x.2.2.2.2.2.2.2.1)) then (Option.bind (Go.Ev.Zlib.f51 ((List.take (2 : Nat) (List.drop (0 : Nat) (List.set (List.set (List.replicate (2 : Nat) (0 : Int)) (0 : Nat) (1 : Int)) (1 : Nat) (2 : Int)))), (x.2.1, (x.2.2.1, (x.2.2.2.1, (x.2.2.2.2.1, (x.2.2.2.2.2.1, (x.2.2.2.2.2.2.1, (x.2.2.2.2.2.2.2.1, Unit.unit))))))))) (fun y1 => (if ((y1.2.1 != (0 : Int)) = true) then (some (Sum.inr (Sum.inl ([], ((0 : Int), (y1.2.1, Unit.unit))))))
   else (if ((List.length y1.2.2.2.2.2.2.2.2.1) = (List.length y1.2.2.2.2.2.2.2.2.1)) then (Option.bind (Go.Ev.Zlib.b24_2 (x.1, (y1.1, (y1.2.2.1, (y1.2.2.2.1, (y1.2.2.2.2.1, (y1.2.2.2.2.2.1, (y1.2.2.2.2.2.2.1, (y1.2.2.2.2.2.2.2.1, (y1.2.2.2.2.2.2.2.2.1, Unit.unit)))))))))) (Sum.elim (fun y2 => (if ((y2.2.2.1 != (0 : Int)) = true) then (some (Sum.inr (Sum.inl ([], ((0 : Int), (y2.2.2.1, Unit.unit))))))
   else (if ((0 : Int) < (((List.length y2.2.1) : Nat) : Int)) then (if (((List.getD y2.2.1 (0 : Nat) (0 : Int)) == (1 : Int)) = true) then (if ((List.length y2.2.2.2.2.2.2.2.2.2.1) = (List.length y2.2.2.2.2.2.2.2.2.2.1)) then (some (Sum.inr (Sum.inr (Sum.inl (y2.1, (y2.2.2.2.1, (y2.2.2.2.2.1, (y2.2.2.2.2.2.1, (y2.2.2.2.2.2.2.1, (y2.2.2.2.2.2.2.2.1, (y2.2.2.2.2.2.2.2.2.1, (y2.2.2.2.2.2.2.2.2.2.1, Unit.unit))))))))))))
   else none)
   else (if ((List.length y2.2.2.2.2.2.2.2.2.2.1) = (List.length y2.2.2.2.2.2.2.2.2.2.1)) then (some (Sum.inl (y2.1, (y2.2.2.2.1, (y2.2.2.2.2.1, (y2.2.2.2.2.2.1, (y2.2.2.2.2.2.2.1, (y2.2.2.2.2.2.2.2.1, (y2.2.2.2.2.2.2.2.2.1, (y2.2.2.2.2.2.2.2.2.2.1, Unit.unit))))))))))
   else none))
   else none))) Empty.elim))
   else none))))
   else none)
theorem b24_1_eq (x : g24_1.D) : b24_1 x = evF P (T54.orc _) Go.Proofs.Try.f24.ntmps fx24 (Code.at [true, false, true, true, true, false, false, false] c24) (planAt 64 [([false, true, true, false], ⟨g24_2, o24_2, b24_2⟩)]) g24_1 x (injK fx24 ((.normal, g24_1) :: o24_1) some) := by kernel_rfl
noncomputable def l24_1 : g24_1.D → Option (outD o24_1) := loopN g24_1 o24_1 b24_1 18446744073709551616
theorem p24_1 : AllSub P Go.Proofs.Try.f24.ntmps fx24 (Code.at [true, false, true, true, true, false, false, false] c24) [([false, true, true, false], ⟨g24_2, o24_2, b24_2⟩)] := And.intro s24_2_ok (trivial)
theorem q24_1 : PlanOk P Go.Proofs.Try.f24.ntmps fx24 (planAt 64 [([false, true, true, false], ⟨g24_2, o24_2, b24_2⟩)]) (Code.at [true, false, true, true, true, false, false, false] c24) := planAt_ok p24_1
theorem at24_1 : Code.at [true, false, true, true, true, false, false] c24 = .loop (Code.at [true, false, true, true, true, false, false, false] c24) := by kernel_rfl
theorem s24_1_ok : SubOk P Go.Proofs.Try.f24.ntmps fx24 (Code.at [true, false, true, true, true, false, false] c24) ⟨g24_1, o24_1, l24_1⟩ := by
  rw [at24_1]
  exact loop_ok (sub_ok (g := g24_1) (outs := ((.normal, g24_1) :: o24_1)) (f := b24_1) (Table.ok T54_ok _) hmix (q24_1) b24_1_eq) rfl _
noncomputable def f24 (x : gi24.D) : Option go24.D :=
  (if ((decide (x.2.1 < (0 : Int))) = true) then (some ([], ((0 : Int), ((1 : Int), Unit.unit))))
   else (if ((decide (x.2.1 > (1048576 : Int))) = true) then (some ([], ((0 : Int), ((1 : Int), Unit.unit))))
   else (Option.bind (Go.Ev.Zlib.f50 (x.1, Unit.unit)) (fun y1 => (Option.bind (Go.Ev.Zlib.l24_1 (x.1, ((0 : Int), (x.2.1, (y1.1, (y1.2.1, (y1.2.2.1, (y1.2.2.2.1, ([], Unit.unit))))))))) (Sum.elim (fun y2 => (some (y2.1, (y2.2.1, (y2.2.2.1, Unit.unit))))) (Sum.elim (fun y2 => (Option.bind (Go.Ev.Zlib.f55 (y2.2.2.2.1, (y2.2.2.2.2.1, (y2.2.2.2.2.2.1, (y2.2.2.2.2.2.2.1, Unit.unit))))) (fun y3 => (some ((List.take (List.length y2.2.2.2.2.2.2.2.1) (List.drop (0 : Nat) y2.2.2.2.2.2.2.2.1)), ((Go.IntKind.wrap Go.IntKind.i64 ((((List.length y2.1) : Nat) : Int) - (Go.IntKind.wrap Go.IntKind.i64 (Int.tdiv y3.1 (8 : Int))))), ((0 : Int), Unit.unit))))))) Empty.elim)))))))
theorem f24_eq (x : gi24.D) : f24 x = evF P (T54.orc _) Go.Proofs.Try.f24.ntmps fx24 c24 (planAt 64 [([true, false, true, true, true, false, false], ⟨g24_1, o24_1, l24_1⟩)]) gi24 x (fnK fx24 [go24]) := by kernel_rfl
theorem pf24 : AllSub P Go.Proofs.Try.f24.ntmps fx24 c24 [([true, false, true, true, true, false, false], ⟨g24_1, o24_1, l24_1⟩)] := And.intro s24_1_ok (trivial)
theorem qf24 : PlanOk P Go.Proofs.Try.f24.ntmps fx24 (planAt 64 [([true, false, true, true, true, false, false], ⟨g24_1, o24_1, l24_1⟩)]) c24 := planAt_ok pf24
theorem f24_ok : EntOk P 24 ⟨gi24, [go24], f24⟩ :=
  ent_ok (fn := Go.Proofs.Try.f24) (gi := gi24) (gos := [go24]) (f := f24) (c := c24) (fx := fx24) ⟨Go.Proofs.Try.func24, by kernel_rfl, rfl, by decide +kernel, rfl, rfl⟩ (by kernel_rfl) (Table.ok T54_ok _) hmix (qf24) f24_eq
noncomputable def T24 : Table := T54.add 24 [⟨gi24, [go24], f24⟩] []
theorem T24_ok : TableOk P T24 := Table.plus T54_ok (es := [⟨gi24, [go24], f24⟩]) ⟨f24_ok, trivial⟩ []

/-! ## 25: erasure/inflate.Expand -/
noncomputable def c25 : Code := Func.code Go.Proofs.Try.f25
abbrev gi25 : Sg := ⟨[0, 1], [.lf (.sl (.pair (.int .i64) (.pair (.int .i64) (.int .i64)))), .lf (.int .i64)], []⟩
abbrev go25 : Sg := ⟨[4, 5], [.lf (.sl (.int .u8)), .lf (.int .i64)], []⟩
def fx25 : List Bool := []
abbrev g25_2 : Sg := ⟨[1, 6, 8, 19, 20, 21, 51, 52], [.lf (.int .i64), .lf (.gr (.int .u8) 0), .lf (.ptr 1 0), .lf (.sl (.pair (.int .i64) (.pair (.int .i64) (.int .i64)))), .lf (.int .i64), .lf (.int .i64), .lf (.int .i64), .lf (.int .i64)], [some (.arr true (.int .u8)), some (.box true [.lf (.int .i64), .lf (.int .i64), .lf (.int .i64)])]⟩
abbrev o25_2 : Outs := [(.exit 3, ⟨[1, 6, 19, 20, 21], [.lf (.int .i64), .lf (.gr (.int .u8) 0), .lf (.sl (.pair (.int .i64) (.pair (.int .i64) (.int .i64)))), .lf (.int .i64), .lf (.int .i64)], [some (.arr true (.int .u8))]⟩)]
noncomputable def b25_2 (x : g25_2.D) : Option (outD ((.normal, g25_2) :: o25_2)) :=
  (if ((decide (x.2.2.2.2.2.1 < x.2.2.2.2.1)) = true) then (if ((0 : Int) ≤ (Go.IntKind.wrap Go.IntKind.i64 ((((List.length x.2.2.2.2.2.2.1) : Nat) : Int) - x.2.2.2.2.2.2.2.2.2.1))) then (if ((Go.IntKind.wrap Go.IntKind.i64 ((((List.length x.2.2.2.2.2.2.1) : Nat) : Int) - x.2.2.2.2.2.2.2.2.2.1)) < (((List.length x.2.2.2.2.2.2.1) : Nat) : Int)) then (if (((List.length (List.take (List.length x.2.2.2.2.2.2.1) (List.drop (0 : Nat) x.2.2.2.2.2.2.1))) + (List.length (List.take (1 : Nat) (List.drop (0 : Nat) (List.set (List.replicate (1 : Nat) (0 : Int)) (0 : Nat) (List.getD x.2.2.2.2.2.2.1 ((0 : Nat) + (Int.toNat (Go.IntKind.wrap Go.IntKind.i64 ((((List.length x.2.2.2.2.2.2.1) : Nat) : Int) - x.2.2.2.2.2.2.2.2.2.1)))) (0 : Int))))))) ≤ (140737488355328 : Nat)) then (if ((List.length ((List.take (List.length x.2.2.2.2.2.2.1) (List.drop (0 : Nat) x.2.2.2.2.2.2.1)) ++ (List.take (1 : Nat) (List.drop (0 : Nat) (List.set (List.replicate (1 : Nat) (0 : Int)) (0 : Nat) (List.getD x.2.2.2.2.2.2.1 ((0 : Nat) + (Int.toNat (Go.IntKind.wrap Go.IntKind.i64 ((((List.length x.2.2.2.2.2.2.1) : Nat) : Int) - x.2.2.2.2.2.2.2.2.2.1)))) (0 : Int))))))) = (List.length ((List.take (List.length x.2.2.2.2.2.2.1) (List.drop (0 : Nat) x.2.2.2.2.2.2.1)) ++ (List.take (1 : Nat) (List.drop (0 : Nat) (List.set (List.replicate (1 : Nat) (0 : Int)) (0 : Nat) (List.getD x.2.2.2.2.2.2.1 ((0 : Nat) + (Int.toNat (Go.IntKind.wrap Go.IntKind.i64 ((((List.length x.2.2.2.2.2.2.1) : Nat) : Int) - x.2.2.2.2.2.2.2.2.2.1)))) (0 : Int)))))))) then (some (Sum.inl (x.1, (x.2.1, (x.2.2.1, (x.2.2.2.1, (x.2.2.2.2.1, ((Go.IntKind.wrap Go.IntKind.i64 (x.2.2.2.2.2.1 + (1 : Int))), (((List.take (List.length x.2.2.2.2.2.2.1) (List.drop (0 : Nat) x.2.2.2.2.2.2.1)) ++ (List.take (1 : Nat) (List.drop (0 : Nat) (List.set (List.replicate (1 : Nat) (0 : Int)) (0 : Nat) (List.getD x.2.2.2.2.2.2.1 ((0 : Nat) + (Int.toNat (Go.IntKind.wrap Go.IntKind.i64 ((((List.length x.2.2.2.2.2.2.1) : Nat) : Int) - x.2.2.2.2.2.2.2.2.2.1)))) (0 : Int)))))), (x.2.2.2.2.2.2.2.1, (x.2.2.2.2.2.2.2.2.1, (x.2.2.2.2.2.2.2.2.2.1, Unit.unit))))))))))))
   else none)
   else none)
   else none)
   else none)
   else (if ((List.length x.2.2.2.2.2.2.1) = (List.length x.2.2.2.2.2.2.1)) then (some (Sum.inr (Sum.inl (x.1, (x.2.1, (x.2.2.1, (x.2.2.2.1, (x.2.2.2.2.2.2.1, Unit.unit))))))))
   else none))
theorem b25_2_eq (x : g25_2.D) : b25_2 x = evF P (T24.orc _) Go.Proofs.Try.f25.ntmps fx25 (Code.at [true, true, true, false, true, false, false, true, true, false, false, true, true, true, false, false] c25) (planAt 64 []) g25_2 x (injK fx25 ((.normal, g25_2) :: o25_2) some) := by kernel_rfl
noncomputable def l25_2 : g25_2.D → Option (outD o25_2) := loopN g25_2 o25_2 b25_2 18446744073709551616
theorem at25_2 : Code.at [true, true, true, false, true, false, false, true, true, false, false, true, true, true, false] c25 = .loop (Code.at [true, true, true, false, true, false, false, true, true, false, false, true, true, true, false, false] c25) := by kernel_rfl
theorem s25_2_ok : SubOk P Go.Proofs.Try.f25.ntmps fx25 (Code.at [true, true, true, false, true, false, false, true, true, false, false, true, true, true, false] c25) ⟨g25_2, o25_2, l25_2⟩ := by
  rw [at25_2]
  exact loop_ok (sub_ok (g := g25_2) (outs := ((.normal, g25_2) :: o25_2)) (f := b25_2) (Table.ok T24_ok _) hmix (planAt_ok (P := P) (n := Go.Proofs.Try.f25.ntmps) (fx := fx25) (c := (Code.at [true, true, true, false, true, false, false, true, true, false, false, true, true, true, false, false] c25)) (d := 64) (l := []) trivial) b25_2_eq) rfl _
abbrev g25_1 : Sg := ⟨[1, 6, 19, 20, 21], [.lf (.int .i64), .lf (.gr (.int .u8) 0), .lf (.sl (.pair (.int .i64) (.pair (.int .i64) (.int .i64)))), .lf (.int .i64), .lf (.int .i64)], [some (.arr true (.int .u8))]⟩
abbrev o25_1 : Outs := [(.exit 0, ⟨[6], [.lf (.gr (.int .u8) 0)], [some (.arr true (.int .u8))]⟩), (.ret, ⟨[4, 5], [.lf (.sl (.int .u8)), .lf (.int .i64)], []⟩)]
noncomputable def b25_1 (x : g25_1.D) : Option (outD ((.normal, g25_1) :: o25_1)) :=
  (if ((decide (x.2.2.2.1 < x.2.2.1)) = true) then (if ((0 : Int) ≤ x.2.2.2.1) then (if (x.2.2.2.1 < (((List.length x.2.1) : Nat) : Int)) then (if ((decide ((List.getD x.2.1 (Int.toNat x.2.2.2.1) ((0 : Int), ((0 : Int), (0 : Int)))).2.2 > (((List.length x.2.2.2.2.1) : Nat) : Int))) = true) then (some (Sum.inr (Sum.inr (Sum.inl ([], ((4 : Int), Unit.unit))))))
   else (if ((decide ((Go.IntKind.wrap Go.IntKind.i64 ((((List.length x.2.2.2.2.1) : Nat) : Int) + (Max.max (List.getD x.2.1 (Int.toNat x.2.2.2.1) ((0 : Int), ((0 : Int), (0 : Int)))).2.1 (1 : Int)))) > x.1)) = true) then (some (Sum.inr (Sum.inr (Sum.inl ([], ((2 : Int), Unit.unit))))))
   else (if (((List.getD x.2.1 (Int.toNat x.2.2.2.1) ((0 : Int), ((0 : Int), (0 : Int)))).2.1 == (0 : Int)) = true) then (if (((List.length (List.take (List.length x.2.2.2.2.1) (List.drop (0 : Nat) x.2.2.2.2.1))) + (List.length (List.take (1 : Nat) (List.drop (0 : Nat) (List.set (List.replicate (1 : Nat) (0 : Int)) (0 : Nat) (Go.IntKind.wrap Go.IntKind.u8 (List.getD x.2.1 (Int.toNat x.2.2.2.1) ((0 : Int), ((0 : Int), (0 : Int)))).1)))))) ≤ (140737488355328 : Nat)) then (if ((List.length ((List.take (List.length x.2.2.2.2.1) (List.drop (0 : Nat) x.2.2.2.2.1)) ++ (List.take (1 : Nat) (List.drop (0 : Nat) (List.set (List.replicate (1 : Nat) (0 : Int)) (0 : Nat) (Go.IntKind.wrap Go.IntKind.u8 (List.getD x.2.1 (Int.toNat x.2.2.2.1) ((0 : Int), ((0 : Int), (0 : Int)))).1)))))) = (List.length ((List.take (List.length x.2.2.2.2.1) (List.drop (0 : Nat) x.2.2.2.2.1)) ++ (List.take (1 : Nat) (List.drop (0 : Nat) (List.set (List.replicate (1 : Nat) (0 : Int)) (0 : Nat) (Go.IntKind.wrap Go.IntKind.u8 (List.getD x.2.1 (Int.toNat x.2.2.2.1) ((0 : Int), ((0 : Int), (0 : Int)))).1))))))) then (Option.bind (Go.Ev.Zlib.l25_2 (x.1, (x.2.1, (x.2.2.1, (x.2.2.2.1, ((List.getD x.2.1 (Int.toNat x.2.2.2.1) ((0 : Int), ((0 : Int), (0 : Int)))).2.1, ((0 : Int), (((List.take (List.length x.2.2.2.2.1) (List.drop (0 : Nat) x.2.2.2.2.1)) ++ (List.take (1 : Nat) (List.drop (0 : Nat) (List.set (List.replicate (1 : Nat) (0 : Int)) (0 : Nat) (Go.IntKind.wrap Go.IntKind.u8 (List.getD x.2.1 (Int.toNat x.2.2.2.1) ((0 : Int), ((0 : Int), (0 : Int)))).1))))), ((List.getD x.2.1 (Int.toNat x.2.2.2.1) ((0 : Int), ((0 : Int), (0 : Int)))).1, ((List.getD x.2.1 (Int.toNat x.2.2.2.1) ((0 : Int), ((0 : Int), (0 : Int)))).2.1, ((List.getD x.2.1 (Int.toNat x.2.2.2.1) ((0 : Int), ((0 : Int), (0 : Int)))).2.2, Unit.unit))))))))))) (Sum.elim (fun y1 => (if ((List.length y1.2.2.2.2.1) = (List.length y1.2.2.2.2.1)) then (some (Sum.inl (y1.1, (y1.2.1, (y1.2.2.1, ((Go.IntKind.wrap Go.IntKind.i64 (y1.2.2.2.1 + (1 : Int))), (y1.2.2.2.2.1, Unit.unit)))))))
   else none)) Empty.elim))
   else none)
   else none)
   else (if ((List.length x.2.2.2.2.1) = (List.length x.2.2.2.2.1)) then (Option.bind (Go.Ev.Zlib.l25_2 (x.1, (x.2.1, (x.2.2.1, (x.2.2.2.1, ((List.getD x.2.1 (Int.toNat x.2.2.2.1) ((0 : Int), ((0 : Int), (0 : Int)))).2.1, ((0 : Int), (x.2.2.2.2.1, ((List.getD x.2.1 (Int.toNat x.2.2.2.1) ((0 : Int), ((0 : Int), (0 : Int)))).1, ((List.getD x.2.1 (Int.toNat x.2.2.2.1) ((0 : Int), ((0 : Int), (0 : Int)))).2.1, ((List.getD x.2.1 (Int.toNat x.2.2.2.1) ((0 : Int), ((0 : Int), (0 : Int)))).2.2, Unit.unit))))))))))) (Sum.elim (fun y1 => (if ((List.length y1.2.2.2.2.1) = (List.length y1.2.2.2.2.1)) then (some (Sum.inl (y1.1, (y1.2.1, (y1.2.2.1, ((Go.IntKind.wrap Go.IntKind.i64 (y1.2.2.2.1 + (1 : Int))), (y1.2.2.2.2.1, Unit.unit)))))))
   else none)) Empty.elim))
   else none))))
   else none)
   else none)
   else (if ((List.length x.2.2.2.2.1) = (List.length x.2.2.2.2.1)) then (some (Sum.inr (Sum.inl (x.2.2.2.2.1, Unit.unit))))
   else none))
theorem b25_1_eq (x : g25_1.D) : b25_1 x = evF P (T24.orc _) Go.Proofs.Try.f25.ntmps fx25 (Code.at [true, true, true, false, true, false, false] c25) (planAt 64 [([true, true, false, false, true, true, true, false], ⟨g25_2, o25_2, l25_2⟩)]) g25_1 x (injK fx25 ((.normal, g25_1) :: o25_1) some) := by kernel_rfl
noncomputable def l25_1 : g25_1.D → Option (outD o25_1) := loopN g25_1 o25_1 b25_1 18446744073709551616
theorem p25_1 : AllSub P Go.Proofs.Try.f25.ntmps fx25 (Code.at [true, true, true, false, true, false, false] c25) [([true, true, false, false, true, true, true, false], ⟨g25_2, o25_2, l25_2⟩)] := And.intro s25_2_ok (trivial)
theorem q25_1 : PlanOk P Go.Proofs.Try.f25.ntmps fx25 (planAt 64 [([true, true, false, false, true, true, true, false], ⟨g25_2, o25_2, l25_2⟩)]) (Code.at [true, true, true, false, true, false, false] c25) := planAt_ok p25_1
theorem at25_1 : Code.at [true, true, true, false, true, false] c25 = .loop (Code.at [true, true, true, false, true, false, false] c25) := by kernel_rfl
theorem s25_1_ok : SubOk P Go.Proofs.Try.f25.ntmps fx25 (Code.at [true, true, true, false, true, false] c25) ⟨g25_1, o25_1, l25_1⟩ := by
  rw [at25_1]
  exact loop_ok (sub_ok (g := g25_1) (outs := ((.normal, g25_1) :: o25_1)) (f := b25_1) (Table.ok T24_ok _) hmix (q25_1) b25_1_eq) rfl _
noncomputable def f25 (x : gi25.D) : Option go25.D :=
  (if ((decide (x.2.1 < (0 : Int))) = true) then (some ([], ((1 : Int), Unit.unit)))
   else (if ((decide (x.2.1 > (1048576 : Int))) = true) then (some ([], ((1 : Int), Unit.unit)))
   else (Option.bind (Go.Ev.Zlib.f29_b (x.1, Unit.unit)) (fun y1 => (if (y1.1 = true) then (some ([], ((1 : Int), Unit.unit)))
   else (Option.bind (Go.Ev.Zlib.l25_1 (x.2.1, (x.1, ((((List.length x.1) : Nat) : Int), ((0 : Int), ([], Unit.unit)))))) (Sum.elim (fun y2 => (some ((List.take (List.length y2.1) (List.drop (0 : Nat) y2.1)), ((0 : Int), Unit.unit)))) (Sum.elim (fun y2 => (some (y2.1, (y2.2.1, Unit.unit)))) Empty.elim))))))))
theorem f25_eq (x : gi25.D) : f25 x = evF P (T24.orc _) Go.Proofs.Try.f25.ntmps fx25 c25 (planAt 64 [([true, true, true, false, true, false], ⟨g25_1, o25_1, l25_1⟩)]) gi25 x (fnK fx25 [go25]) := by kernel_rfl
theorem pf25 : AllSub P Go.Proofs.Try.f25.ntmps fx25 c25 [([true, true, true, false, true, false], ⟨g25_1, o25_1, l25_1⟩)] := And.intro s25_1_ok (trivial)
theorem qf25 : PlanOk P Go.Proofs.Try.f25.ntmps fx25 (planAt 64 [([true, true, true, false, true, false], ⟨g25_1, o25_1, l25_1⟩)]) c25 := planAt_ok pf25
theorem f25_ok : EntOk P 25 ⟨gi25, [go25], f25⟩ :=
  ent_ok (fn := Go.Proofs.Try.f25) (gi := gi25) (gos := [go25]) (f := f25) (c := c25) (fx := fx25) ⟨Go.Proofs.Try.func25, by kernel_rfl, rfl, by decide +kernel, rfl, rfl⟩ (by kernel_rfl) (Table.ok T24_ok _) hmix (qf25) f25_eq
noncomputable def T25 : Table := T24.add 25 [⟨gi25, [go25], f25⟩] []
theorem T25_ok : TableOk P T25 := Table.plus T24_ok (es := [⟨gi25, [go25], f25⟩]) ⟨f25_ok, trivial⟩ []

/-! ## 18: erasure/inflate.Inflate -/
noncomputable def c18 : Code := Func.code Go.Proofs.Try.f18
abbrev gi18 : Sg := ⟨[0, 1], [.lf (.sl (.int .u8)), .lf (.int .i64)], []⟩
abbrev go18 : Sg := ⟨[4, 5, 6], [.lf (.sl (.int .u8)), .lf (.int .i64), .lf (.int .i64)], []⟩
def fx18 : List Bool := []
noncomputable def f18 (x : gi18.D) : Option go18.D :=
  (Option.bind (Go.Ev.Zlib.f24 (x.1, (x.2.1, Unit.unit))) (fun y1 => (if ((y1.2.2.1 != (0 : Int)) = true) then (some ([], ((0 : Int), (y1.2.2.1, Unit.unit))))
   else (Option.bind (Go.Ev.Zlib.f25 (y1.1, (x.2.1, Unit.unit))) (fun y2 => (some (y2.1, (y1.2.1, (y2.2.1, Unit.unit)))))))))
theorem f18_eq (x : gi18.D) : f18 x = evF P (T25.orc _) Go.Proofs.Try.f18.ntmps fx18 c18 (planAt 64 []) gi18 x (fnK fx18 [go18]) := by kernel_rfl
theorem f18_ok : EntOk P 18 ⟨gi18, [go18], f18⟩ :=
  ent_ok (fn := Go.Proofs.Try.f18) (gi := gi18) (gos := [go18]) (f := f18) (c := c18) (fx := fx18) ⟨Go.Proofs.Try.func18, by kernel_rfl, rfl, by decide +kernel, rfl, rfl⟩ (by kernel_rfl) (Table.ok T25_ok _) hmix (planAt_ok (P := P) (n := Go.Proofs.Try.f18.ntmps) (fx := fx18) (c := c18) (d := 64) (l := []) trivial) f18_eq
noncomputable def T18 : Table := T25.add 18 [⟨gi18, [go18], f18⟩] []
theorem T18_ok : TableOk P T18 := Table.plus T25_ok (es := [⟨gi18, [go18], f18⟩]) ⟨f18_ok, trivial⟩ []

/-! ## 12: erasure/zlib.Unpack -/
noncomputable def c12 : Code := Func.code Go.Proofs.Try.f12
abbrev gi12 : Sg := ⟨[0, 1], [.lf (.sl (.int .u8)), .lf (.int .i64)], []⟩
abbrev go12 : Sg := ⟨[4, 5], [.lf (.sl (.int .u8)), .lf (.int .i64)], []⟩
def fx12 : List Bool := []
abbrev g12_1 : Sg := ⟨[6, 10, 77, 78, 79], [.lf (.sl (.int .u8)), .lf (.int .i64), .lf (.sl (.int .u8)), .lf (.int .i64), .lf (.int .i64)], []⟩
abbrev o12_1 : Outs := [(.exit 1, ⟨[6, 10], [.lf (.sl (.int .u8)), .lf (.int .i64)], []⟩)]
noncomputable def b12_1 (x : g12_1.D) : Option (outD ((.normal, g12_1) :: o12_1)) :=
  (if ((decide (x.2.2.2.2.1 < x.2.2.2.1)) = true) then (if ((0 : Int) ≤ x.2.2.2.2.1) then (if (x.2.2.2.2.1 < (((List.length x.2.2.1) : Nat) : Int)) then (some (Sum.inl (x.1, ((Go.IntKind.wrap Go.IntKind.i64 (((BitVec.toNat ((BitVec.ofInt (64 : Nat) (Go.IntKind.wrap Go.IntKind.i64 (x.2.1 * (256 : Int)))) ||| (BitVec.ofInt (64 : Nat) (Go.IntKind.wrap Go.IntKind.i64 (List.getD x.2.2.1 (Int.toNat x.2.2.2.2.1) (0 : Int)))))) : Nat) : Int)), (x.2.2.1, (x.2.2.2.1, ((Go.IntKind.wrap Go.IntKind.i64 (x.2.2.2.2.1 + (1 : Int))), Unit.unit)))))))
   else none)
   else none)
   else (some (Sum.inr (Sum.inl (x.1, (x.2.1, Unit.unit))))))
theorem b12_1_eq (x : g12_1.D) : b12_1 x = evF P (T18.orc _) Go.Proofs.Try.f12.ntmps fx12 (Code.at [true, true, true, true, true, true, true, false, true, false, false] c12) (planAt 64 []) g12_1 x (injK fx12 ((.normal, g12_1) :: o12_1) some) := by kernel_rfl
noncomputable def l12_1 : g12_1.D → Option (outD o12_1) := loopN g12_1 o12_1 b12_1 18446744073709551616
theorem at12_1 : Code.at [true, true, true, true, true, true, true, false, true, false] c12 = .loop (Code.at [true, true, true, true, true, true, true, false, true, false, false] c12) := by kernel_rfl
theorem s12_1_ok : SubOk P Go.Proofs.Try.f12.ntmps fx12 (Code.at [true, true, true, true, true, true, true, false, true, false] c12) ⟨g12_1, o12_1, l12_1⟩ := by
  rw [at12_1]
  exact loop_ok (sub_ok (g := g12_1) (outs := ((.normal, g12_1) :: o12_1)) (f := b12_1) (Table.ok T18_ok _) hmix (planAt_ok (P := P) (n := Go.Proofs.Try.f12.ntmps) (fx := fx12) (c := (Code.at [true, true, true, true, true, true, true, false, true, false, false] c12)) (d := 64) (l := []) trivial) b12_1_eq) rfl _
noncomputable def f12 (x : gi12.D) : Option go12.D :=
  (if ((decide (x.2.1 < (0 : Int))) = true) then (some ([], ((1 : Int), Unit.unit)))
   else (if ((decide (x.2.1 > (1048576 : Int))) = true) then (some ([], ((1 : Int), Unit.unit)))
   else (if ((decide ((((List.length x.1) : Nat) : Int) < (2 : Int))) = true) then (some ([], ((6 : Int), Unit.unit)))
   else (if ((0 : Int) < (((List.length x.1) : Nat) : Int)) then (if (((Go.IntKind.wrap Go.IntKind.u8 (((BitVec.toNat ((BitVec.ofInt (8 : Nat) (List.getD x.1 (0 : Nat) (0 : Int))) &&& (BitVec.ofInt (8 : Nat) (15 : Int)))) : Nat) : Int)) != (8 : Int)) = true) then (some ([], ((4 : Int), Unit.unit)))
   else (if ((0 : Int) < (((List.length x.1) : Nat) : Int)) then (if ((decide ((Int.fdiv (List.getD x.1 (0 : Nat) (0 : Int)) (16 : Int)) > (7 : Int))) = true) then (some ([], ((4 : Int), Unit.unit)))
   else (if ((0 : Int) < (((List.length x.1) : Nat) : Int)) then (if ((1 : Int) < (((List.length x.1) : Nat) : Int)) then (if (((Int.tmod (Go.IntKind.wrap Go.IntKind.i64 (((BitVec.toNat ((BitVec.ofInt (64 : Nat) (Go.IntKind.wrap Go.IntKind.i64 ((Go.IntKind.wrap Go.IntKind.i64 (List.getD x.1 (0 : Nat) (0 : Int))) * (256 : Int)))) ||| (BitVec.ofInt (64 : Nat) (Go.IntKind.wrap Go.IntKind.i64 (List.getD x.1 (1 : Nat) (0 : Int)))))) : Nat) : Int)) (31 : Int)) != (0 : Int)) = true) then (some ([], ((4 : Int), Unit.unit)))
   else (if ((1 : Int) < (((List.length x.1) : Nat) : Int)) then (if (((Go.IntKind.wrap Go.IntKind.u8 (((BitVec.toNat ((BitVec.ofInt (8 : Nat) (List.getD x.1 (1 : Nat) (0 : Int))) &&& (BitVec.ofInt (8 : Nat) (32 : Int)))) : Nat) : Int)) != (0 : Int)) = true) then (some ([], ((4 : Int), Unit.unit)))
   else (if ((2 : Int) ≤ (((List.length x.1) : Nat) : Int)) then (Option.bind (Go.Ev.Zlib.f18 ((List.drop (2 : Nat) x.1), (x.2.1, Unit.unit))) (fun y1 => (if ((y1.2.2.1 != (0 : Int)) = true) then (some ([], (y1.2.2.1, Unit.unit)))
   else (if ((0 : Int) ≤ (Go.IntKind.wrap Go.IntKind.i64 ((2 : Int) + y1.2.1))) then (if ((Go.IntKind.wrap Go.IntKind.i64 ((2 : Int) + y1.2.1)) ≤ (((List.length x.1) : Nat) : Int)) then (if ((decide ((((List.length (List.drop (Int.toNat (Go.IntKind.wrap Go.IntKind.i64 ((2 : Int) + y1.2.1))) x.1)) : Nat) : Int) < (4 : Int))) = true) then (some ([], ((6 : Int), Unit.unit)))
   else (if ((4 : Int) ≤ (((List.length (List.drop (Int.toNat (Go.IntKind.wrap Go.IntKind.i64 ((2 : Int) + y1.2.1))) x.1)) : Nat) : Int)) then (Option.bind (Go.Ev.Zlib.l12_1 (y1.1, ((0 : Int), ((List.take (4 : Nat) (List.drop (Int.toNat (Go.IntKind.wrap Go.IntKind.i64 ((2 : Int) + y1.2.1))) x.1)), ((((List.length (List.take (4 : Nat) (List.drop (Int.toNat (Go.IntKind.wrap Go.IntKind.i64 ((2 : Int) + y1.2.1))) x.1))) : Nat) : Int), ((0 : Int), Unit.unit)))))) (Sum.elim (fun y2 => (Option.bind (Go.Ev.Zlib.f7 (y2.1, Unit.unit)) (fun y3 => (if ((y2.2.1 != y3.1) = true) then (some ([], ((7 : Int), Unit.unit)))
   else (some (y2.1, ((0 : Int), Unit.unit))))))) Empty.elim))
   else none))
   else none)
   else none))))
   else none))
   else none))
   else none)
   else none))
   else none))
   else none))))
theorem f12_eq (x : gi12.D) : f12 x = evF P (T18.orc _) Go.Proofs.Try.f12.ntmps fx12 c12 (planAt 64 [([true, true, true, true, true, true, true, false, true, false], ⟨g12_1, o12_1, l12_1⟩)]) gi12 x (fnK fx12 [go12]) := by kernel_rfl
theorem pf12 : AllSub P Go.Proofs.Try.f12.ntmps fx12 c12 [([true, true, true, true, true, true, true, false, true, false], ⟨g12_1, o12_1, l12_1⟩)] := And.intro s12_1_ok (trivial)
theorem qf12 : PlanOk P Go.Proofs.Try.f12.ntmps fx12 (planAt 64 [([true, true, true, true, true, true, true, false, true, false], ⟨g12_1, o12_1, l12_1⟩)]) c12 := planAt_ok pf12
theorem f12_ok : EntOk P 12 ⟨gi12, [go12], f12⟩ :=
  ent_ok (fn := Go.Proofs.Try.f12) (gi := gi12) (gos := [go12]) (f := f12) (c := c12) (fx := fx12) ⟨Go.Proofs.Try.func12, by kernel_rfl, rfl, by decide +kernel, rfl, rfl⟩ (by kernel_rfl) (Table.ok T18_ok _) hmix (qf12) f12_eq
noncomputable def T12 : Table := T18.add 12 [⟨gi12, [go12], f12⟩] []
theorem T12_ok : TableOk P T12 := Table.plus T18_ok (es := [⟨gi12, [go12], f12⟩]) ⟨f12_ok, trivial⟩ []

/-! ## 8: erasure/erasurelaw08.awake -/
noncomputable def c8 : Code := Func.code Go.Proofs.Try.f8
abbrev gi8 : Sg := ⟨[], [], []⟩
abbrev go8 : Sg := ⟨[0], [.lf .bool], []⟩
def fx8 : List Bool := []
noncomputable def f8 (_ : gi8.D) : Option go8.D :=
  (Option.bind (Go.Ev.Zlib.f10 ((List.take (3 : Nat) (List.drop (0 : Nat) (List.set (List.set (List.set (List.replicate (3 : Nat) (0 : Int)) (0 : Nat) (97 : Int)) (1 : Nat) (98 : Int)) (2 : Nat) (99 : Int)))), Unit.unit)) (fun y1 => (Option.bind (Go.Ev.Zlib.f7 ([], Unit.unit)) (fun y2 => (if ((y2.1 == (1 : Int)) = true) then (Option.bind (Go.Ev.Zlib.f7 ((List.take (3 : Nat) (List.drop (0 : Nat) (List.set (List.set (List.set (List.replicate (3 : Nat) (0 : Int)) (0 : Nat) (97 : Int)) (1 : Nat) (98 : Int)) (2 : Nat) (99 : Int)))), Unit.unit)) (fun y3 => (if ((y3.1 == (38600999 : Int)) = true) then (if (((ByteArray.toList (ByteArray.mk (List.toArray (List.map (fun y4 => (UInt8.ofNat (Int.toNat y4))) (List.take (List.length y1.2.1) (List.drop (0 : Nat) y1.2.1)))))) == (ByteArray.toList (ByteArray.mk #[120, 1, 75, 76, 74, 6, 0, 2, 77, 1, 39]))) = true) then (some ((y1.1 == (0 : Int)), Unit.unit))
   else (some (false, Unit.unit)))
   else (some (false, Unit.unit)))))
   else (some (false, Unit.unit)))))))
theorem f8_eq (x : gi8.D) : f8 x = evF P (T12.orc _) Go.Proofs.Try.f8.ntmps fx8 c8 (planAt 64 []) gi8 x (fnK fx8 [go8]) := by kernel_rfl
theorem f8_ok : EntOk P 8 ⟨gi8, [go8], f8⟩ :=
  ent_ok (fn := Go.Proofs.Try.f8) (gi := gi8) (gos := [go8]) (f := f8) (c := c8) (fx := fx8) ⟨Go.Proofs.Try.func8, by kernel_rfl, rfl, by decide +kernel, rfl, rfl⟩ (by kernel_rfl) (Table.ok T12_ok _) hmix (planAt_ok (P := P) (n := Go.Proofs.Try.f8.ntmps) (fx := fx8) (c := c8) (d := 64) (l := []) trivial) f8_eq
noncomputable def T8 : Table := T12.add 8 [⟨gi8, [go8], f8⟩] []
theorem T8_ok : TableOk P T8 := Table.plus T12_ok (es := [⟨gi8, [go8], f8⟩]) ⟨f8_ok, trivial⟩ []

/-! ## 5: erasure/erasurelaw08.ZlibBack -/
noncomputable def c5 : Code := Func.code Go.Proofs.Try.f5
abbrev gi5 : Sg := ⟨[0, 1], [.lf (.sl (.int .u8)), .lf (.sl (.int .u8))], []⟩
abbrev go5 : Sg := ⟨[4], [.lf .bool], []⟩
def fx5 : List Bool := []
noncomputable def f5 (x : gi5.D) : Option go5.D :=
  (if ((decide ((((List.length x.1) : Nat) : Int) > (2000 : Int))) = true) then (some (true, Unit.unit))
   else (if ((decide ((((List.length x.2.1) : Nat) : Int) > (300 : Int))) = true) then (some (true, Unit.unit))
   else (Option.bind (Go.Ev.Zlib.f10 (x.1, Unit.unit)) (fun y1 => (if ((y1.1 != (0 : Int)) = true) then (some (false, Unit.unit))
   else (if ((decide ((((List.length y1.2.1) : Nat) : Int) < (6 : Int))) = true) then (some (false, Unit.unit))
   else (if (((0 : Nat) + (List.length (List.take (List.length y1.2.1) (List.drop (0 : Nat) y1.2.1)))) ≤ (140737488355328 : Nat)) then (if (((List.length (List.take (List.length ((List.take (0 : Nat) (List.drop (0 : Nat) (List.replicate (0 : Nat) (0 : Int)))) ++ (List.take (List.length y1.2.1) (List.drop (0 : Nat) y1.2.1)))) (List.drop (0 : Nat) ((List.take (0 : Nat) (List.drop (0 : Nat) (List.replicate (0 : Nat) (0 : Int)))) ++ (List.take (List.length y1.2.1) (List.drop (0 : Nat) y1.2.1)))))) + (List.length x.2.1)) ≤ (140737488355328 : Nat)) then (Option.bind (Go.Ev.Zlib.f12 ((List.take (List.length ((List.take (List.length ((List.take (0 : Nat) (List.drop (0 : Nat) (List.replicate (0 : Nat) (0 : Int)))) ++ (List.take (List.length y1.2.1) (List.drop (0 : Nat) y1.2.1)))) (List.drop (0 : Nat) ((List.take (0 : Nat) (List.drop (0 : Nat) (List.replicate (0 : Nat) (0 : Int)))) ++ (List.take (List.length y1.2.1) (List.drop (0 : Nat) y1.2.1))))) ++ x.2.1)) (List.drop (0 : Nat) ((List.take (List.length ((List.take (0 : Nat) (List.drop (0 : Nat) (List.replicate (0 : Nat) (0 : Int)))) ++ (List.take (List.length y1.2.1) (List.drop (0 : Nat) y1.2.1)))) (List.drop (0 : Nat) ((List.take (0 : Nat) (List.drop (0 : Nat) (List.replicate (0 : Nat) (0 : Int)))) ++ (List.take (List.length y1.2.1) (List.drop (0 : Nat) y1.2.1))))) ++ x.2.1))), ((2000 : Int), Unit.unit))) (fun y2 => (if ((0 : Int) ≤ (Go.IntKind.wrap Go.IntKind.i64 ((((List.length y1.2.1) : Nat) : Int) - (4 : Int)))) then (if ((Go.IntKind.wrap Go.IntKind.i64 ((((List.length y1.2.1) : Nat) : Int) - (4 : Int))) < (((List.length y1.2.1) : Nat) : Int)) then (if ((0 : Int) ≤ (Go.IntKind.wrap Go.IntKind.i64 ((((List.length y1.2.1) : Nat) : Int) - (3 : Int)))) then (if ((Go.IntKind.wrap Go.IntKind.i64 ((((List.length y1.2.1) : Nat) : Int) - (3 : Int))) < (((List.length y1.2.1) : Nat) : Int)) then (if ((0 : Int) ≤ (Go.IntKind.wrap Go.IntKind.i64 ((((List.length y1.2.1) : Nat) : Int) - (2 : Int)))) then (if ((Go.IntKind.wrap Go.IntKind.i64 ((((List.length y1.2.1) : Nat) : Int) - (2 : Int))) < (((List.length y1.2.1) : Nat) : Int)) then (if ((0 : Int) ≤ (Go.IntKind.wrap Go.IntKind.i64 ((((List.length y1.2.1) : Nat) : Int) - (1 : Int)))) then (if ((Go.IntKind.wrap Go.IntKind.i64 ((((List.length y1.2.1) : Nat) : Int) - (1 : Int))) < (((List.length y1.2.1) : Nat) : Int)) then (if ((0 : Int) ≤ (Go.IntKind.wrap Go.IntKind.i64 ((((List.length y1.2.1) : Nat) : Int) - (1 : Int)))) then (if ((Go.IntKind.wrap Go.IntKind.i64 ((((List.length y1.2.1) : Nat) : Int) - (1 : Int))) ≤ (((List.length y1.2.1) : Nat) : Int)) then (Option.bind (Go.Ev.Zlib.f12 ((List.take ((Int.toNat (Go.IntKind.wrap Go.IntKind.i64 ((((List.length y1.2.1) : Nat) : Int) - (1 : Int)))) - (0 : Nat)) (List.drop (0 : Nat) y1.2.1)), ((2000 : Int), Unit.unit))) (fun y3 => (Option.bind (Go.Ev.Zlib.f8 Unit.unit) (fun y4 => (if (y4.1 = true) then (if ((y2.2.1 == (0 : Int)) = true) then (if (((ByteArray.toList (ByteArray.mk (List.toArray (List.map (fun y5 => (UInt8.ofNat (Int.toNat y5))) y2.1)))) == (ByteArray.toList (ByteArray.mk (List.toArray (List.map (fun y5 => (UInt8.ofNat (Int.toNat y5))) x.1))))) = true) then (Option.bind (Go.Ev.Zlib.f7 (x.1, Unit.unit)) (fun y5 => (if (((Go.IntKind.wrap Go.IntKind.i64 ((Go.IntKind.wrap Go.IntKind.i64 ((Go.IntKind.wrap Go.IntKind.i64 ((Go.IntKind.wrap Go.IntKind.i64 ((16777216 : Int) * (Go.IntKind.wrap Go.IntKind.i64 (List.getD y1.2.1 ((0 : Nat) + (Int.toNat (Go.IntKind.wrap Go.IntKind.i64 ((((List.length y1.2.1) : Nat) : Int) - (4 : Int))))) (0 : Int))))) + (Go.IntKind.wrap Go.IntKind.i64 ((65536 : Int) * (Go.IntKind.wrap Go.IntKind.i64 (List.getD y1.2.1 ((0 : Nat) + (Int.toNat (Go.IntKind.wrap Go.IntKind.i64 ((((List.length y1.2.1) : Nat) : Int) - (3 : Int))))) (0 : Int))))))) + (Go.IntKind.wrap Go.IntKind.i64 ((256 : Int) * (Go.IntKind.wrap Go.IntKind.i64 (List.getD y1.2.1 ((0 : Nat) + (Int.toNat (Go.IntKind.wrap Go.IntKind.i64 ((((List.length y1.2.1) : Nat) : Int) - (2 : Int))))) (0 : Int))))))) + (Go.IntKind.wrap Go.IntKind.i64 (List.getD y1.2.1 ((0 : Nat) + (Int.toNat (Go.IntKind.wrap Go.IntKind.i64 ((((List.length y1.2.1) : Nat) : Int) - (1 : Int))))) (0 : Int))))) == y5.1) = true) then (some ((y3.2.1 == (6 : Int)), Unit.unit))
   else (some (false, Unit.unit)))))
   else (some (false, Unit.unit)))
   else (some (false, Unit.unit)))
   else (some (false, Unit.unit)))))))
   else none)
   else none)
   else none)
   else none)
   else none)
   else none)
   else none)
   else none)
   else none)
   else none)))
   else none)
   else none)))))))
theorem f5_eq (x : gi5.D) : f5 x = evF P (T8.orc _) Go.Proofs.Try.f5.ntmps fx5 c5 (planAt 64 []) gi5 x (fnK fx5 [go5]) := by kernel_rfl
theorem f5_ok : EntOk P 5 ⟨gi5, [go5], f5⟩ :=
  ent_ok (fn := Go.Proofs.Try.f5) (gi := gi5) (gos := [go5]) (f := f5) (c := c5) (fx := fx5) ⟨Go.Proofs.Try.func5, by kernel_rfl, rfl, by decide +kernel, rfl, rfl⟩ (by kernel_rfl) (Table.ok T8_ok _) hmix (planAt_ok (P := P) (n := Go.Proofs.Try.f5.ntmps) (fx := fx5) (c := c5) (d := 64) (l := []) trivial) f5_eq
noncomputable def T5 : Table := T8.add 5 [⟨gi5, [go5], f5⟩] []
theorem T5_ok : TableOk P T5 := Table.plus T8_ok (es := [⟨gi5, [go5], f5⟩]) ⟨f5_ok, trivial⟩ []

/-! ## 6: erasure/erasurelaw08.ZlibTurned -/
noncomputable def c6 : Code := Func.code Go.Proofs.Try.f6
abbrev gi6 : Sg := ⟨[0, 1, 2], [.lf (.sl (.int .u8)), .lf (.int .i64), .lf (.int .u8)], []⟩
abbrev go6 : Sg := ⟨[6], [.lf .bool], []⟩
def fx6 : List Bool := []
noncomputable def f6 (x : gi6.D) : Option go6.D :=
  (if ((decide ((((List.length x.1) : Nat) : Int) > (1000 : Int))) = true) then (some (true, Unit.unit))
   else (if ((decide (x.2.1 < (0 : Int))) = true) then (some (true, Unit.unit))
   else (if ((decide (x.2.1 > (3 : Int))) = true) then (some (true, Unit.unit))
   else (Option.bind (Go.Ev.Zlib.f10 (x.1, Unit.unit)) (fun y1 => (if ((y1.1 != (0 : Int)) = true) then (some (false, Unit.unit))
   else (if ((decide ((((List.length y1.2.1) : Nat) : Int) < (6 : Int))) = true) then (some (false, Unit.unit))
   else (if ((0 : Int) ≤ (Go.IntKind.wrap Go.IntKind.i64 ((Go.IntKind.wrap Go.IntKind.i64 ((((List.length y1.2.1) : Nat) : Int) - (4 : Int))) + x.2.1))) then (if ((Go.IntKind.wrap Go.IntKind.i64 ((Go.IntKind.wrap Go.IntKind.i64 ((((List.length y1.2.1) : Nat) : Int) - (4 : Int))) + x.2.1)) < (((List.length y1.2.1) : Nat) : Int)) then (if ((0 : Int) ≤ (Go.IntKind.wrap Go.IntKind.i64 ((Go.IntKind.wrap Go.IntKind.i64 ((((List.length y1.2.1) : Nat) : Int) - (4 : Int))) + x.2.1))) then (if ((Go.IntKind.wrap Go.IntKind.i64 ((Go.IntKind.wrap Go.IntKind.i64 ((((List.length y1.2.1) : Nat) : Int) - (4 : Int))) + x.2.1)) < (((List.length y1.2.1) : Nat) : Int)) then (Option.bind (Go.Ev.Zlib.f12 ((List.take (List.length y1.2.1) (List.drop (0 : Nat) (List.set y1.2.1 ((0 : Nat) + (Int.toNat (Go.IntKind.wrap Go.IntKind.i64 ((Go.IntKind.wrap Go.IntKind.i64 ((((List.length y1.2.1) : Nat) : Int) - (4 : Int))) + x.2.1)))) x.2.2.1))), ((1000 : Int), Unit.unit))) (fun y2 => (Option.bind (Go.Ev.Zlib.f8 Unit.unit) (fun y3 => (if (y3.1 = true) then (if (((y2.2.1 == (0 : Int)) == ((List.getD y1.2.1 ((0 : Nat) + (Int.toNat (Go.IntKind.wrap Go.IntKind.i64 ((Go.IntKind.wrap Go.IntKind.i64 ((((List.length y1.2.1) : Nat) : Int) - (4 : Int))) + x.2.1)))) (0 : Int)) == x.2.2.1)) = true) then (if (((List.getD y1.2.1 ((0 : Nat) + (Int.toNat (Go.IntKind.wrap Go.IntKind.i64 ((Go.IntKind.wrap Go.IntKind.i64 ((((List.length y1.2.1) : Nat) : Int) - (4 : Int))) + x.2.1)))) (0 : Int)) == x.2.2.1) = true) then (some (true, Unit.unit))
   else (some ((y2.2.1 == (7 : Int)), Unit.unit)))
   else (some (false, Unit.unit)))
   else (some (false, Unit.unit)))))))
   else none)
   else none)
   else none)
   else none))))))))
theorem f6_eq (x : gi6.D) : f6 x = evF P (T5.orc _) Go.Proofs.Try.f6.ntmps fx6 c6 (planAt 64 []) gi6 x (fnK fx6 [go6]) := by kernel_rfl
theorem f6_ok : EntOk P 6 ⟨gi6, [go6], f6⟩ :=
  ent_ok (fn := Go.Proofs.Try.f6) (gi := gi6) (gos := [go6]) (f := f6) (c := c6) (fx := fx6) ⟨Go.Proofs.Try.func6, by kernel_rfl, rfl, by decide +kernel, rfl, rfl⟩ (by kernel_rfl) (Table.ok T5_ok _) hmix (planAt_ok (P := P) (n := Go.Proofs.Try.f6.ntmps) (fx := fx6) (c := c6) (d := 64) (l := []) trivial) f6_eq
noncomputable def T6 : Table := T5.add 6 [⟨gi6, [go6], f6⟩] []
theorem T6_ok : TableOk P T6 := Table.plus T5_ok (es := [⟨gi6, [go6], f6⟩]) ⟨f6_ok, trivial⟩ []

end Go.Ev.Zlib
