/- Part of a proof about the given program: F. -/
import Derived.Test.YtcpkgneomhpipaaEvZ
import Derived.Test.YtcpkgneomhpipaaChecked
namespace Go.Ev.Huff
open Go.Ev

noncomputable abbrev P := Go.Proofs.Try.prog
set_option maxRecDepth 1000000
theorem hmix : P.follows .mixedOrders = true := by kernel_rfl

/-! ## 8: erasure/erasureref05.Row -/
noncomputable def c8 : Code := Func.code Go.Proofs.Try.f8
abbrev gi8 : Sg := ⟨[0], [.lf (.sl (.int .i64))], []⟩
abbrev go8 : Sg := ⟨[2], [.lf (.gr (.int .i64) 0)], [some (.arr true (.int .i64))]⟩
def fx8 : List Bool := []
noncomputable def f8 (x : gi8.D) : Option go8.D :=
  (if (((0 : Nat) + (List.length x.1)) ≤ (17592186044416 : Nat)) then (if (((0 : Nat) < ((0 : Nat) + (List.length x.1))) ∨ (((0 : Nat) = (0 : Nat)) ∧ ((0 : Nat) = (0 : Nat)))) then (if ((List.length ([] ++ x.1)) = (List.length ([] ++ x.1))) then (some (([] ++ x.1), Unit.unit))
   else none)
   else none)
   else none)
theorem f8_eq (x : gi8.D) : f8 x = evF P (Table.empty.orc _) Go.Proofs.Try.f8.ntmps fx8 c8 (planAt 64 []) gi8 x (fnK fx8 [go8]) := by kernel_rfl
theorem f8_ok : EntOk P 8 ⟨gi8, [go8], f8⟩ :=
  ent_ok (fn := Go.Proofs.Try.f8) (gi := gi8) (gos := [go8]) (f := f8) (c := c8) (fx := fx8) ⟨Go.Proofs.Try.func8, by kernel_rfl, rfl, by decide +kernel, rfl, rfl⟩ (by kernel_rfl) (Table.ok (Table.empty_ok P) _) hmix (planAt_ok (P := P) (n := Go.Proofs.Try.f8.ntmps) (fx := fx8) (c := c8) (d := 64) (l := []) trivial) f8_eq
noncomputable def T8 : Table := Table.empty.add 8 [⟨gi8, [go8], f8⟩] []
theorem T8_ok : TableOk P T8 := Table.plus (Table.empty_ok P) (es := [⟨gi8, [go8], f8⟩]) ⟨f8_ok, trivial⟩ []

/-! ## 27: erasure/huff.count -/
noncomputable def c27 : Code := Func.code Go.Proofs.Try.f27
abbrev gi27 : Sg := ⟨[0], [.lf (.sl (.int .i64))], []⟩
abbrev go27 : Sg := ⟨[0, 3], [.agg [.many (.int .i64) 16], .lf (.int .i64)], []⟩
def fx27 : List Bool := []
abbrev g27_1 : Sg := ⟨[2, 4, 5, 12, 13, 14], [.lf (.ptr 0 0), .lf (.ptr 1 0), .lf (.int .i64), .lf (.sl (.int .i64)), .lf (.int .i64), .lf (.int .i64)], [some (.box true [.many (.int .i64) 16]), some (.box true [.many (.int .i64) 16])]⟩
abbrev o27_1 : Outs := [(.exit 0, ⟨[2, 4, 5], [.lf (.ptr 0 0), .lf (.ptr 1 0), .lf (.int .i64)], [some (.box true [.many (.int .i64) 16]), some (.box true [.many (.int .i64) 16])]⟩), (.ret, ⟨[2, 3], [.lf (.ptr 0 0), .lf (.int .i64)], [some (.box true [.many (.int .i64) 16])]⟩)]
noncomputable def b27_1 (x : g27_1.D) : Option (outD ((.normal, g27_1) :: o27_1)) :=
  (if ((decide (x.2.2.2.1 < x.2.2.1)) = true) then (if ((0 : Int) ≤ x.2.2.2.1) then (if (x.2.2.2.1 < (((List.length x.2.1) : Nat) : Int)) then (if ((decide ((List.getD x.2.1 (Int.toNat x.2.2.2.1) (0 : Int)) < (0 : Int))) = true) then (some (Sum.inr (Sum.inr (Sum.inl ((1 : Int), (x.2.2.2.2.2.1, Unit.unit))))))
   else (if ((decide ((List.getD x.2.1 (Int.toNat x.2.2.2.1) (0 : Int)) > (15 : Int))) = true) then (some (Sum.inr (Sum.inr (Sum.inl ((1 : Int), (x.2.2.2.2.2.1, Unit.unit))))))
   else (if ((decide ((List.getD x.2.1 (Int.toNat x.2.2.2.1) (0 : Int)) > (0 : Int))) = true) then (if ((0 : Int) ≤ (List.getD x.2.1 (Int.toNat x.2.2.2.1) (0 : Int))) then (if ((List.getD x.2.1 (Int.toNat x.2.2.2.1) (0 : Int)) < (16 : Int)) then (if ((0 : Int) ≤ (List.getD x.2.1 (Int.toNat x.2.2.2.1) (0 : Int))) then (if ((List.getD x.2.1 (Int.toNat x.2.2.2.1) (0 : Int)) < (16 : Int)) then (if ((List.getD x.2.1 (Int.toNat x.2.2.2.1) (0 : Int)) < (0 : Int)) then none
   else (some (Sum.inl ((Go.IntKind.wrap Go.IntKind.i64 (x.1 + (Int.fdiv (32768 : Int) ((2 : Int) ^ (Min.min (Int.toNat (List.getD x.2.1 (Int.toNat x.2.2.2.1) (0 : Int))) (64 : Nat)))))), (x.2.1, (x.2.2.1, ((Go.IntKind.wrap Go.IntKind.i64 (x.2.2.2.1 + (1 : Int))), (x.2.2.2.2.1, ((List.set x.2.2.2.2.2.1 (Int.toNat (List.getD x.2.1 (Int.toNat x.2.2.2.1) (0 : Int))) (Go.IntKind.wrap Go.IntKind.i64 ((List.getD x.2.2.2.2.2.1 (Int.toNat (List.getD x.2.1 (Int.toNat x.2.2.2.1) (0 : Int))) (0 : Int)) + (1 : Int)))), Unit.unit)))))))))
   else none)
   else none)
   else none)
   else none)
   else (some (Sum.inl (x.1, (x.2.1, (x.2.2.1, ((Go.IntKind.wrap Go.IntKind.i64 (x.2.2.2.1 + (1 : Int))), (x.2.2.2.2.1, (x.2.2.2.2.2.1, Unit.unit)))))))))))
   else none)
   else none)
   else (some (Sum.inr (Sum.inl (x.1, (x.2.2.2.2.1, (x.2.2.2.2.2.1, Unit.unit)))))))
theorem b27_1_eq (x : g27_1.D) : b27_1 x = evF P (T8.orc _) Go.Proofs.Try.f27.ntmps fx27 (Code.at [true, true, true, true, false, true, false, false] c27) (planAt 64 []) g27_1 x (injK fx27 ((.normal, g27_1) :: o27_1) some) := by kernel_rfl
noncomputable def l27_1 : g27_1.D → Option (outD o27_1) := loopN g27_1 o27_1 b27_1 18446744073709551616
theorem at27_1 : Code.at [true, true, true, true, false, true, false] c27 = .loop (Code.at [true, true, true, true, false, true, false, false] c27) := by kernel_rfl
theorem s27_1_ok : SubOk P Go.Proofs.Try.f27.ntmps fx27 (Code.at [true, true, true, true, false, true, false] c27) ⟨g27_1, o27_1, l27_1⟩ := by
  rw [at27_1]
  exact loop_ok (sub_ok (g := g27_1) (outs := ((.normal, g27_1) :: o27_1)) (f := b27_1) (Table.ok T8_ok _) hmix (planAt_ok (P := P) (n := Go.Proofs.Try.f27.ntmps) (fx := fx27) (c := (Code.at [true, true, true, true, false, true, false, false] c27)) (d := 64) (l := []) trivial) b27_1_eq) rfl _
noncomputable def f27 (x : gi27.D) : Option go27.D :=
  (if ((decide ((((List.length x.1) : Nat) : Int) > (320 : Int))) = true) then (some ((List.replicate (16 : Nat) (0 : Int)), ((1 : Int), Unit.unit)))
   else (Option.bind (Go.Ev.Huff.l27_1 ((0 : Int), (x.1, ((((List.length x.1) : Nat) : Int), ((0 : Int), ((List.replicate (16 : Nat) (0 : Int)), ((List.replicate (16 : Nat) (0 : Int)), Unit.unit))))))) (Sum.elim (fun y1 => (if ((decide (y1.1 > (32768 : Int))) = true) then (some (y1.2.2.1, ((4 : Int), Unit.unit)))
   else (some (y1.2.2.1, ((0 : Int), Unit.unit))))) (Sum.elim (fun y1 => (some (y1.2.1, (y1.1, Unit.unit)))) Empty.elim))))
theorem f27_eq (x : gi27.D) : f27 x = evF P (T8.orc _) Go.Proofs.Try.f27.ntmps fx27 c27 (planAt 64 [([true, true, true, true, false, true, false], ⟨g27_1, o27_1, l27_1⟩)]) gi27 x (fnKR P Go.Proofs.Try.f27 fx27 [go27]) := by kernel_rfl
theorem pf27 : AllSub P Go.Proofs.Try.f27.ntmps fx27 c27 [([true, true, true, true, false, true, false], ⟨g27_1, o27_1, l27_1⟩)] := And.intro s27_1_ok (trivial)
theorem qf27 : PlanOk P Go.Proofs.Try.f27.ntmps fx27 (planAt 64 [([true, true, true, true, false, true, false], ⟨g27_1, o27_1, l27_1⟩)]) c27 := planAt_ok pf27
theorem f27_ok : EntOk P 27 ⟨gi27, [go27], f27⟩ :=
  ent_okR (fn := Go.Proofs.Try.f27) (gi := gi27) (gos := [go27]) (f := f27) (c := c27) (fx := fx27) ⟨Go.Proofs.Try.func27, by kernel_rfl, rfl, by decide +kernel, rfl, rfl⟩ (Table.ok T8_ok _) hmix (qf27) f27_eq
noncomputable def T27 : Table := T8.add 27 [⟨gi27, [go27], f27⟩] []
theorem T27_ok : TableOk P T27 := Table.plus T8_ok (es := [⟨gi27, [go27], f27⟩]) ⟨f27_ok, trivial⟩ []

/-! ## 9: erasure/huff.Codes -/
noncomputable def c9 : Code := Func.code Go.Proofs.Try.f9
abbrev gi9 : Sg := ⟨[0], [.lf (.sl (.int .i64))], []⟩
abbrev go9 : Sg := ⟨[2, 3], [.lf (.gr (.int .i64) 0), .lf (.int .i64)], [some (.arr true (.int .i64))]⟩
def fx9 : List Bool := []
abbrev g9_2 : Sg := ⟨[6, 8, 37, 38, 39], [.lf (.ptr 0 0), .lf (.gr (.int .i64) 1), .lf (.sl (.int .i64)), .lf (.int .i64), .lf (.int .i64)], [some (.box true [.many (.int .i64) 16]), some (.arr true (.int .i64))]⟩
abbrev o9_2 : Outs := [(.exit 2, ⟨[8], [.lf (.gr (.int .i64) 0)], [some (.arr true (.int .i64))]⟩)]
noncomputable def b9_2 (x : g9_2.D) : Option (outD ((.normal, g9_2) :: o9_2)) :=
  (if ((decide (x.2.2.1 < x.2.1)) = true) then (if ((0 : Int) ≤ x.2.2.1) then (if (x.2.2.1 < (((List.length x.1) : Nat) : Int)) then (if ((decide ((List.getD x.1 (Int.toNat x.2.2.1) (0 : Int)) > (0 : Int))) = true) then (if ((0 : Int) ≤ (List.getD x.1 (Int.toNat x.2.2.1) (0 : Int))) then (if ((List.getD x.1 (Int.toNat x.2.2.1) (0 : Int)) < (16 : Int)) then (if ((0 : Int) ≤ x.2.2.1) then (if (x.2.2.1 < (((List.length x.2.2.2.2.1) : Nat) : Int)) then (if ((0 : Int) ≤ (List.getD x.1 (Int.toNat x.2.2.1) (0 : Int))) then (if ((List.getD x.1 (Int.toNat x.2.2.1) (0 : Int)) < (16 : Int)) then (if ((0 : Int) ≤ (List.getD x.1 (Int.toNat x.2.2.1) (0 : Int))) then (if ((List.getD x.1 (Int.toNat x.2.2.1) (0 : Int)) < (16 : Int)) then (if ((List.length x.2.2.2.2.1) = (List.length (List.set x.2.2.2.2.1 ((0 : Nat) + (Int.toNat x.2.2.1)) (List.getD x.2.2.2.1 (Int.toNat (List.getD x.1 (Int.toNat x.2.2.1) (0 : Int))) (0 : Int))))) then (some (Sum.inl (x.1, (x.2.1, ((Go.IntKind.wrap Go.IntKind.i64 (x.2.2.1 + (1 : Int))), ((List.set x.2.2.2.1 (Int.toNat (List.getD x.1 (Int.toNat x.2.2.1) (0 : Int))) (Go.IntKind.wrap Go.IntKind.i64 ((List.getD x.2.2.2.1 (Int.toNat (List.getD x.1 (Int.toNat x.2.2.1) (0 : Int))) (0 : Int)) + (1 : Int)))), ((List.set x.2.2.2.2.1 ((0 : Nat) + (Int.toNat x.2.2.1)) (List.getD x.2.2.2.1 (Int.toNat (List.getD x.1 (Int.toNat x.2.2.1) (0 : Int))) (0 : Int))), Unit.unit)))))))
   else none)
   else none)
   else none)
   else none)
   else none)
   else none)
   else none)
   else none)
   else none)
   else (if ((List.length x.2.2.2.2.1) = (List.length x.2.2.2.2.1)) then (some (Sum.inl (x.1, (x.2.1, ((Go.IntKind.wrap Go.IntKind.i64 (x.2.2.1 + (1 : Int))), (x.2.2.2.1, (x.2.2.2.2.1, Unit.unit)))))))
   else none))
   else none)
   else none)
   else (if ((List.length x.2.2.2.2.1) = (List.length x.2.2.2.2.1)) then (some (Sum.inr (Sum.inl (x.2.2.2.2.1, Unit.unit))))
   else none))
theorem b9_2_eq (x : g9_2.D) : b9_2 x = evF P (T27.orc _) Go.Proofs.Try.f9.ntmps fx9 (Code.at [true, true, true, true, true, true, false, true, false, false] c9) (planAt 64 []) g9_2 x (injK fx9 ((.normal, g9_2) :: o9_2) some) := by kernel_rfl
noncomputable def l9_2 : g9_2.D → Option (outD o9_2) := loopN g9_2 o9_2 b9_2 18446744073709551616
theorem at9_2 : Code.at [true, true, true, true, true, true, false, true, false] c9 = .loop (Code.at [true, true, true, true, true, true, false, true, false, false] c9) := by kernel_rfl
theorem s9_2_ok : SubOk P Go.Proofs.Try.f9.ntmps fx9 (Code.at [true, true, true, true, true, true, false, true, false] c9) ⟨g9_2, o9_2, l9_2⟩ := by
  rw [at9_2]
  exact loop_ok (sub_ok (g := g9_2) (outs := ((.normal, g9_2) :: o9_2)) (f := b9_2) (Table.ok T27_ok _) hmix (planAt_ok (P := P) (n := Go.Proofs.Try.f9.ntmps) (fx := fx9) (c := (Code.at [true, true, true, true, true, true, false, true, false, false] c9)) (d := 64) (l := []) trivial) b9_2_eq) rfl _
abbrev g9_1 : Sg := ⟨[0, 4, 6, 7], [.lf (.sl (.int .i64)), .lf (.ptr 0 0), .lf (.ptr 1 0), .lf (.int .i64)], [some (.box true [.many (.int .i64) 16]), some (.box true [.many (.int .i64) 16])]⟩
abbrev o9_1 : Outs := [(.exit 0, ⟨[0, 6], [.lf (.sl (.int .i64)), .lf (.ptr 0 0)], [some (.box true [.many (.int .i64) 16])]⟩)]
noncomputable def b9_1 (x : g9_1.D) : Option (outD ((.normal, g9_1) :: o9_1)) :=
  (if ((decide (x.2.1 < (15 : Int))) = true) then (if ((0 : Int) ≤ x.2.1) then (if (x.2.1 < (16 : Int)) then (if ((0 : Int) ≤ x.2.1) then (if (x.2.1 < (16 : Int)) then (if ((0 : Int) ≤ (Go.IntKind.wrap Go.IntKind.i64 (x.2.1 + (1 : Int)))) then (if ((Go.IntKind.wrap Go.IntKind.i64 (x.2.1 + (1 : Int))) < (16 : Int)) then (some (Sum.inl (x.1, ((Go.IntKind.wrap Go.IntKind.i64 (x.2.1 + (1 : Int))), (x.2.2.1, ((List.set x.2.2.2.1 (Int.toNat (Go.IntKind.wrap Go.IntKind.i64 (x.2.1 + (1 : Int)))) (Go.IntKind.wrap Go.IntKind.i64 ((Go.IntKind.wrap Go.IntKind.i64 ((List.getD x.2.2.2.1 (Int.toNat x.2.1) (0 : Int)) + (List.getD x.2.2.1 (Int.toNat x.2.1) (0 : Int)))) * (2 : Int)))), Unit.unit))))))
   else none)
   else none)
   else none)
   else none)
   else none)
   else none)
   else (some (Sum.inr (Sum.inl (x.1, (x.2.2.2.1, Unit.unit))))))
theorem b9_1_eq (x : g9_1.D) : b9_1 x = evF P (T27.orc _) Go.Proofs.Try.f9.ntmps fx9 (Code.at [true, true, true, true, false, true, false, false] c9) (planAt 64 []) g9_1 x (injK fx9 ((.normal, g9_1) :: o9_1) some) := by kernel_rfl
noncomputable def l9_1 : g9_1.D → Option (outD o9_1) := loopN g9_1 o9_1 b9_1 18446744073709551616
theorem at9_1 : Code.at [true, true, true, true, false, true, false] c9 = .loop (Code.at [true, true, true, true, false, true, false, false] c9) := by kernel_rfl
theorem s9_1_ok : SubOk P Go.Proofs.Try.f9.ntmps fx9 (Code.at [true, true, true, true, false, true, false] c9) ⟨g9_1, o9_1, l9_1⟩ := by
  rw [at9_1]
  exact loop_ok (sub_ok (g := g9_1) (outs := ((.normal, g9_1) :: o9_1)) (f := b9_1) (Table.ok T27_ok _) hmix (planAt_ok (P := P) (n := Go.Proofs.Try.f9.ntmps) (fx := fx9) (c := (Code.at [true, true, true, true, false, true, false, false] c9)) (d := 64) (l := []) trivial) b9_1_eq) rfl _
noncomputable def f9 (x : gi9.D) : Option go9.D :=
  (Option.bind (Go.Ev.Huff.f27 (x.1, Unit.unit)) (fun y1 => (if ((y1.2.1 != (0 : Int)) = true) then (some (y1.2.1, ([], Unit.unit)))
   else (Option.bind (Go.Ev.Huff.l9_1 (x.1, ((1 : Int), (y1.1, ((List.replicate (16 : Nat) (0 : Int)), Unit.unit))))) (Sum.elim (fun y2 => (if ((((List.length y2.1) : Nat) : Int) ≤ (((List.length y2.1) : Nat) : Int)) then (if ((((List.length y2.1) : Nat) : Int) ≤ (35184372088832 : Int)) then (if ((Int.toNat (((List.length y2.1) : Nat) : Int)) = (List.length (List.replicate (Int.toNat (((List.length y2.1) : Nat) : Int)) (0 : Int)))) then (Option.bind (Go.Ev.Huff.l9_2 (y2.1, ((((List.length y2.1) : Nat) : Int), ((0 : Int), (y2.2.1, ((List.replicate (Int.toNat (((List.length y2.1) : Nat) : Int)) (0 : Int)), Unit.unit)))))) (Sum.elim (fun y3 => (if ((List.length y3.1) = (List.length y3.1)) then (some ((0 : Int), (y3.1, Unit.unit)))
   else none)) Empty.elim))
   else none)
   else none)
   else none)) Empty.elim)))))
theorem f9_eq (x : gi9.D) : f9 x = evF P (T27.orc _) Go.Proofs.Try.f9.ntmps fx9 c9 (planAt 64 [([true, true, true, true, false, true, false], ⟨g9_1, o9_1, l9_1⟩), ([true, true, true, true, true, true, false, true, false], ⟨g9_2, o9_2, l9_2⟩)]) gi9 x (fnK fx9 [go9]) := by kernel_rfl
theorem pf9 : AllSub P Go.Proofs.Try.f9.ntmps fx9 c9 [([true, true, true, true, false, true, false], ⟨g9_1, o9_1, l9_1⟩), ([true, true, true, true, true, true, false, true, false], ⟨g9_2, o9_2, l9_2⟩)] := And.intro s9_1_ok (And.intro s9_2_ok (trivial))
theorem qf9 : PlanOk P Go.Proofs.Try.f9.ntmps fx9 (planAt 64 [([true, true, true, true, false, true, false], ⟨g9_1, o9_1, l9_1⟩), ([true, true, true, true, true, true, false, true, false], ⟨g9_2, o9_2, l9_2⟩)]) c9 := planAt_ok pf9
theorem f9_ok : EntOk P 9 ⟨gi9, [go9], f9⟩ :=
  ent_ok (fn := Go.Proofs.Try.f9) (gi := gi9) (gos := [go9]) (f := f9) (c := c9) (fx := fx9) ⟨Go.Proofs.Try.func9, by kernel_rfl, rfl, by decide +kernel, rfl, rfl⟩ (by kernel_rfl) (Table.ok T27_ok _) hmix (qf9) f9_eq
noncomputable def T9 : Table := T27.add 9 [⟨gi9, [go9], f9⟩] []
theorem T9_ok : TableOk P T9 := Table.plus T27_ok (es := [⟨gi9, [go9], f9⟩]) ⟨f9_ok, trivial⟩ []

/-! ## 36: erasure/erasureref05.power -/
noncomputable def c36 : Code := Func.code Go.Proofs.Try.f36
abbrev gi36 : Sg := ⟨[0], [.lf (.int .i64)], []⟩
abbrev go36 : Sg := ⟨[2], [.lf (.int .i64)], []⟩
def fx36 : List Bool := []
abbrev g36_1 : Sg := ⟨[0, 3, 4], [.lf (.int .i64), .lf (.int .i64), .lf (.int .i64)], []⟩
abbrev o36_1 : Outs := [(.exit 0, ⟨[3], [.lf (.int .i64)], []⟩)]
noncomputable def b36_1 (x : g36_1.D) : Option (outD ((.normal, g36_1) :: o36_1)) :=
  (if ((decide (x.2.2.1 < x.1)) = true) then (some (Sum.inl (x.1, ((Go.IntKind.wrap Go.IntKind.i64 ((2 : Int) * x.2.1)), ((Go.IntKind.wrap Go.IntKind.i64 (x.2.2.1 + (1 : Int))), Unit.unit)))))
   else (some (Sum.inr (Sum.inl (x.2.1, Unit.unit)))))
theorem b36_1_eq (x : g36_1.D) : b36_1 x = evF P (T9.orc _) Go.Proofs.Try.f36.ntmps fx36 (Code.at [true, true, false, true, false, false] c36) (planAt 64 []) g36_1 x (injK fx36 ((.normal, g36_1) :: o36_1) some) := by kernel_rfl
noncomputable def l36_1 : g36_1.D → Option (outD o36_1) := loopN g36_1 o36_1 b36_1 18446744073709551616
theorem at36_1 : Code.at [true, true, false, true, false] c36 = .loop (Code.at [true, true, false, true, false, false] c36) := by kernel_rfl
theorem s36_1_ok : SubOk P Go.Proofs.Try.f36.ntmps fx36 (Code.at [true, true, false, true, false] c36) ⟨g36_1, o36_1, l36_1⟩ := by
  rw [at36_1]
  exact loop_ok (sub_ok (g := g36_1) (outs := ((.normal, g36_1) :: o36_1)) (f := b36_1) (Table.ok T9_ok _) hmix (planAt_ok (P := P) (n := Go.Proofs.Try.f36.ntmps) (fx := fx36) (c := (Code.at [true, true, false, true, false, false] c36)) (d := 64) (l := []) trivial) b36_1_eq) rfl _
noncomputable def f36 (x : gi36.D) : Option go36.D :=
  (Option.bind (Go.Ev.Huff.l36_1 (x.1, ((1 : Int), ((0 : Int), Unit.unit)))) (Sum.elim (fun y1 => (some (y1.1, Unit.unit))) Empty.elim))
theorem f36_eq (x : gi36.D) : f36 x = evF P (T9.orc _) Go.Proofs.Try.f36.ntmps fx36 c36 (planAt 64 [([true, true, false, true, false], ⟨g36_1, o36_1, l36_1⟩)]) gi36 x (fnK fx36 [go36]) := by kernel_rfl
theorem pf36 : AllSub P Go.Proofs.Try.f36.ntmps fx36 c36 [([true, true, false, true, false], ⟨g36_1, o36_1, l36_1⟩)] := And.intro s36_1_ok (trivial)
theorem qf36 : PlanOk P Go.Proofs.Try.f36.ntmps fx36 (planAt 64 [([true, true, false, true, false], ⟨g36_1, o36_1, l36_1⟩)]) c36 := planAt_ok pf36
theorem f36_ok : EntOk P 36 ⟨gi36, [go36], f36⟩ :=
  ent_ok (fn := Go.Proofs.Try.f36) (gi := gi36) (gos := [go36]) (f := f36) (c := c36) (fx := fx36) ⟨Go.Proofs.Try.func36, by kernel_rfl, rfl, by decide +kernel, rfl, rfl⟩ (by kernel_rfl) (Table.ok T9_ok _) hmix (qf36) f36_eq
noncomputable def T36 : Table := T9.add 36 [⟨gi36, [go36], f36⟩] []
theorem T36_ok : TableOk P T36 := Table.plus T9_ok (es := [⟨gi36, [go36], f36⟩]) ⟨f36_ok, trivial⟩ []

/-! ## 28: erasure/erasureref05.Share -/
noncomputable def c28 : Code := Func.code Go.Proofs.Try.f28
abbrev gi28 : Sg := ⟨[0], [.lf (.sl (.int .i64))], []⟩
abbrev go28 : Sg := ⟨[2], [.lf (.int .i64)], []⟩
def fx28 : List Bool := []
abbrev g28_1 : Sg := ⟨[0, 3, 4], [.lf (.sl (.int .i64)), .lf (.int .i64), .lf (.int .i64)], []⟩
abbrev o28_1 : Outs := [(.exit 0, ⟨[3], [.lf (.int .i64)], []⟩), (.ret, ⟨[2], [.lf (.int .i64)], []⟩)]
noncomputable def b28_1 (x : g28_1.D) : Option (outD ((.normal, g28_1) :: o28_1)) :=
  (if ((decide (x.2.2.1 < (((List.length x.1) : Nat) : Int))) = true) then (if ((0 : Int) ≤ x.2.2.1) then (if (x.2.2.1 < (((List.length x.1) : Nat) : Int)) then (if ((decide ((List.getD x.1 (Int.toNat x.2.2.1) (0 : Int)) < (0 : Int))) = true) then (some (Sum.inr (Sum.inr (Sum.inl ((-1 : Int), Unit.unit)))))
   else (if ((0 : Int) ≤ x.2.2.1) then (if (x.2.2.1 < (((List.length x.1) : Nat) : Int)) then (if ((decide ((List.getD x.1 (Int.toNat x.2.2.1) (0 : Int)) > (15 : Int))) = true) then (some (Sum.inr (Sum.inr (Sum.inl ((-1 : Int), Unit.unit)))))
   else (if ((0 : Int) ≤ x.2.2.1) then (if (x.2.2.1 < (((List.length x.1) : Nat) : Int)) then (if ((decide ((List.getD x.1 (Int.toNat x.2.2.1) (0 : Int)) > (0 : Int))) = true) then (if ((0 : Int) ≤ x.2.2.1) then (if (x.2.2.1 < (((List.length x.1) : Nat) : Int)) then (Option.bind (Go.Ev.Huff.f36 ((Go.IntKind.wrap Go.IntKind.i64 ((15 : Int) - (List.getD x.1 (Int.toNat x.2.2.1) (0 : Int)))), Unit.unit)) (fun y1 => (some (Sum.inl (x.1, ((Go.IntKind.wrap Go.IntKind.i64 (x.2.1 + y1.1)), ((Go.IntKind.wrap Go.IntKind.i64 (x.2.2.1 + (1 : Int))), Unit.unit)))))))
   else none)
   else none)
   else (some (Sum.inl (x.1, (x.2.1, ((Go.IntKind.wrap Go.IntKind.i64 (x.2.2.1 + (1 : Int))), Unit.unit))))))
   else none)
   else none))
   else none)
   else none))
   else none)
   else none)
   else (some (Sum.inr (Sum.inl (x.2.1, Unit.unit)))))
theorem b28_1_eq (x : g28_1.D) : b28_1 x = evF P (T36.orc _) Go.Proofs.Try.f28.ntmps fx28 (Code.at [true, true, true, false, true, false, false] c28) (planAt 64 []) g28_1 x (injK fx28 ((.normal, g28_1) :: o28_1) some) := by kernel_rfl
noncomputable def l28_1 : g28_1.D → Option (outD o28_1) := loopN g28_1 o28_1 b28_1 18446744073709551616
theorem at28_1 : Code.at [true, true, true, false, true, false] c28 = .loop (Code.at [true, true, true, false, true, false, false] c28) := by kernel_rfl
theorem s28_1_ok : SubOk P Go.Proofs.Try.f28.ntmps fx28 (Code.at [true, true, true, false, true, false] c28) ⟨g28_1, o28_1, l28_1⟩ := by
  rw [at28_1]
  exact loop_ok (sub_ok (g := g28_1) (outs := ((.normal, g28_1) :: o28_1)) (f := b28_1) (Table.ok T36_ok _) hmix (planAt_ok (P := P) (n := Go.Proofs.Try.f28.ntmps) (fx := fx28) (c := (Code.at [true, true, true, false, true, false, false] c28)) (d := 64) (l := []) trivial) b28_1_eq) rfl _
noncomputable def f28 (x : gi28.D) : Option go28.D :=
  (if ((decide ((((List.length x.1) : Nat) : Int) > (320 : Int))) = true) then (some ((-1 : Int), Unit.unit))
   else (Option.bind (Go.Ev.Huff.l28_1 (x.1, ((0 : Int), ((0 : Int), Unit.unit)))) (Sum.elim (fun y1 => (some (y1.1, Unit.unit))) (Sum.elim (fun y1 => (some (y1.1, Unit.unit))) Empty.elim))))
theorem f28_eq (x : gi28.D) : f28 x = evF P (T36.orc _) Go.Proofs.Try.f28.ntmps fx28 c28 (planAt 64 [([true, true, true, false, true, false], ⟨g28_1, o28_1, l28_1⟩)]) gi28 x (fnK fx28 [go28]) := by kernel_rfl
theorem pf28 : AllSub P Go.Proofs.Try.f28.ntmps fx28 c28 [([true, true, true, false, true, false], ⟨g28_1, o28_1, l28_1⟩)] := And.intro s28_1_ok (trivial)
theorem qf28 : PlanOk P Go.Proofs.Try.f28.ntmps fx28 (planAt 64 [([true, true, true, false, true, false], ⟨g28_1, o28_1, l28_1⟩)]) c28 := planAt_ok pf28
theorem f28_ok : EntOk P 28 ⟨gi28, [go28], f28⟩ :=
  ent_ok (fn := Go.Proofs.Try.f28) (gi := gi28) (gos := [go28]) (f := f28) (c := c28) (fx := fx28) ⟨Go.Proofs.Try.func28, by kernel_rfl, rfl, by decide +kernel, rfl, rfl⟩ (by kernel_rfl) (Table.ok T36_ok _) hmix (qf28) f28_eq
noncomputable def T28 : Table := T36.add 28 [⟨gi28, [go28], f28⟩] []
theorem T28_ok : TableOk P T28 := Table.plus T36_ok (es := [⟨gi28, [go28], f28⟩]) ⟨f28_ok, trivial⟩ []

/-! ## 10: erasure/erasureref05.Codes -/
noncomputable def c10 : Code := Func.code Go.Proofs.Try.f10
abbrev gi10 : Sg := ⟨[0], [.lf (.sl (.int .i64))], []⟩
abbrev go10 : Sg := ⟨[2, 3], [.lf (.gr (.int .i64) 0), .lf (.int .i64)], [some (.arr true (.int .i64))]⟩
def fx10 : List Bool := []
abbrev g10_2 : Sg := ⟨[0, 5, 6, 7, 8], [.lf (.sl (.int .i64)), .lf (.gr (.int .i64) 0), .lf (.int .i64), .lf (.int .i64), .lf (.int .i64)], [some (.arr true (.int .i64))]⟩
abbrev o10_2 : Outs := [(.exit 2, ⟨[0, 5, 6, 7], [.lf (.sl (.int .i64)), .lf (.gr (.int .i64) 0), .lf (.int .i64), .lf (.int .i64)], [some (.arr true (.int .i64))]⟩)]
noncomputable def b10_2 (x : g10_2.D) : Option (outD ((.normal, g10_2) :: o10_2)) :=
  (if ((decide (x.2.2.2.1 < (((List.length x.1) : Nat) : Int))) = true) then (if ((0 : Int) ≤ x.2.2.2.1) then (if (x.2.2.2.1 < (((List.length x.1) : Nat) : Int)) then (if (((List.getD x.1 (Int.toNat x.2.2.2.1) (0 : Int)) == x.2.2.1) = true) then (if ((0 : Int) ≤ x.2.2.2.1) then (if (x.2.2.2.1 < (((List.length x.2.2.2.2.1) : Nat) : Int)) then (if ((List.length x.2.2.2.2.1) = (List.length (List.set x.2.2.2.2.1 ((0 : Nat) + (Int.toNat x.2.2.2.1)) x.2.1))) then (some (Sum.inl (x.1, ((Go.IntKind.wrap Go.IntKind.i64 (x.2.1 + (1 : Int))), (x.2.2.1, ((Go.IntKind.wrap Go.IntKind.i64 (x.2.2.2.1 + (1 : Int))), ((List.set x.2.2.2.2.1 ((0 : Nat) + (Int.toNat x.2.2.2.1)) x.2.1), Unit.unit)))))))
   else none)
   else none)
   else none)
   else (if ((List.length x.2.2.2.2.1) = (List.length x.2.2.2.2.1)) then (some (Sum.inl (x.1, (x.2.1, (x.2.2.1, ((Go.IntKind.wrap Go.IntKind.i64 (x.2.2.2.1 + (1 : Int))), (x.2.2.2.2.1, Unit.unit)))))))
   else none))
   else none)
   else none)
   else (if ((List.length x.2.2.2.2.1) = (List.length x.2.2.2.2.1)) then (some (Sum.inr (Sum.inl (x.1, (x.2.1, (x.2.2.1, (x.2.2.2.2.1, Unit.unit)))))))
   else none))
theorem b10_2_eq (x : g10_2.D) : b10_2 x = evF P (T28.orc _) Go.Proofs.Try.f10.ntmps fx10 (Code.at [true, true, true, true, true, true, false, true, false, false, true, false, false, true, true, false, false] c10) (planAt 64 []) g10_2 x (injK fx10 ((.normal, g10_2) :: o10_2) some) := by kernel_rfl
noncomputable def l10_2 : g10_2.D → Option (outD o10_2) := loopN g10_2 o10_2 b10_2 18446744073709551616
theorem at10_2 : Code.at [true, true, true, true, true, true, false, true, false, false, true, false, false, true, true, false] c10 = .loop (Code.at [true, true, true, true, true, true, false, true, false, false, true, false, false, true, true, false, false] c10) := by kernel_rfl
theorem s10_2_ok : SubOk P Go.Proofs.Try.f10.ntmps fx10 (Code.at [true, true, true, true, true, true, false, true, false, false, true, false, false, true, true, false] c10) ⟨g10_2, o10_2, l10_2⟩ := by
  rw [at10_2]
  exact loop_ok (sub_ok (g := g10_2) (outs := ((.normal, g10_2) :: o10_2)) (f := b10_2) (Table.ok T28_ok _) hmix (planAt_ok (P := P) (n := Go.Proofs.Try.f10.ntmps) (fx := fx10) (c := (Code.at [true, true, true, true, true, true, false, true, false, false, true, false, false, true, true, false, false] c10)) (d := 64) (l := []) trivial) b10_2_eq) rfl _
abbrev g10_1 : Sg := ⟨[0, 5, 6, 7], [.lf (.sl (.int .i64)), .lf (.gr (.int .i64) 0), .lf (.int .i64), .lf (.int .i64)], [some (.arr true (.int .i64))]⟩
abbrev o10_1 : Outs := [(.exit 0, ⟨[5], [.lf (.gr (.int .i64) 0)], [some (.arr true (.int .i64))]⟩)]
noncomputable def b10_1 (x : g10_1.D) : Option (outD ((.normal, g10_1) :: o10_1)) :=
  (if ((decide (x.2.2.1 ≤ (15 : Int))) = true) then (if ((List.length x.2.2.2.1) = (List.length x.2.2.2.1)) then (Option.bind (Go.Ev.Huff.l10_2 (x.1, ((Go.IntKind.wrap Go.IntKind.i64 ((2 : Int) * x.2.1)), (x.2.2.1, ((0 : Int), (x.2.2.2.1, Unit.unit)))))) (Sum.elim (fun y1 => (if ((List.length y1.2.2.2.1) = (List.length y1.2.2.2.1)) then (some (Sum.inl (y1.1, (y1.2.1, ((Go.IntKind.wrap Go.IntKind.i64 (y1.2.2.1 + (1 : Int))), (y1.2.2.2.1, Unit.unit))))))
   else none)) Empty.elim))
   else none)
   else (if ((List.length x.2.2.2.1) = (List.length x.2.2.2.1)) then (some (Sum.inr (Sum.inl (x.2.2.2.1, Unit.unit))))
   else none))
theorem b10_1_eq (x : g10_1.D) : b10_1 x = evF P (T28.orc _) Go.Proofs.Try.f10.ntmps fx10 (Code.at [true, true, true, true, true, true, false, true, false, false] c10) (planAt 64 [([true, false, false, true, true, false], ⟨g10_2, o10_2, l10_2⟩)]) g10_1 x (injK fx10 ((.normal, g10_1) :: o10_1) some) := by kernel_rfl
noncomputable def l10_1 : g10_1.D → Option (outD o10_1) := loopN g10_1 o10_1 b10_1 18446744073709551616
theorem p10_1 : AllSub P Go.Proofs.Try.f10.ntmps fx10 (Code.at [true, true, true, true, true, true, false, true, false, false] c10) [([true, false, false, true, true, false], ⟨g10_2, o10_2, l10_2⟩)] := And.intro s10_2_ok (trivial)
theorem q10_1 : PlanOk P Go.Proofs.Try.f10.ntmps fx10 (planAt 64 [([true, false, false, true, true, false], ⟨g10_2, o10_2, l10_2⟩)]) (Code.at [true, true, true, true, true, true, false, true, false, false] c10) := planAt_ok p10_1
theorem at10_1 : Code.at [true, true, true, true, true, true, false, true, false] c10 = .loop (Code.at [true, true, true, true, true, true, false, true, false, false] c10) := by kernel_rfl
theorem s10_1_ok : SubOk P Go.Proofs.Try.f10.ntmps fx10 (Code.at [true, true, true, true, true, true, false, true, false] c10) ⟨g10_1, o10_1, l10_1⟩ := by
  rw [at10_1]
  exact loop_ok (sub_ok (g := g10_1) (outs := ((.normal, g10_1) :: o10_1)) (f := b10_1) (Table.ok T28_ok _) hmix (q10_1) b10_1_eq) rfl _
noncomputable def f10 (x : gi10.D) : Option go10.D :=
  (Option.bind (Go.Ev.Huff.f28 (x.1, Unit.unit)) (fun y1 => (if ((decide (y1.1 < (0 : Int))) = true) then (some ((1 : Int), ([], Unit.unit)))
   else (if ((decide (y1.1 > (32768 : Int))) = true) then (some ((4 : Int), ([], Unit.unit)))
   else (if ((((List.length x.1) : Nat) : Int) ≤ (((List.length x.1) : Nat) : Int)) then (if ((((List.length x.1) : Nat) : Int) ≤ (35184372088832 : Int)) then (if ((Int.toNat (((List.length x.1) : Nat) : Int)) = (List.length (List.replicate (Int.toNat (((List.length x.1) : Nat) : Int)) (0 : Int)))) then (Option.bind (Go.Ev.Huff.l10_1 (x.1, ((0 : Int), ((1 : Int), ((List.replicate (Int.toNat (((List.length x.1) : Nat) : Int)) (0 : Int)), Unit.unit))))) (Sum.elim (fun y2 => (if ((List.length y2.1) = (List.length y2.1)) then (some ((0 : Int), (y2.1, Unit.unit)))
   else none)) Empty.elim))
   else none)
   else none)
   else none)))))
theorem f10_eq (x : gi10.D) : f10 x = evF P (T28.orc _) Go.Proofs.Try.f10.ntmps fx10 c10 (planAt 64 [([true, true, true, true, true, true, false, true, false], ⟨g10_1, o10_1, l10_1⟩)]) gi10 x (fnK fx10 [go10]) := by kernel_rfl
theorem pf10 : AllSub P Go.Proofs.Try.f10.ntmps fx10 c10 [([true, true, true, true, true, true, false, true, false], ⟨g10_1, o10_1, l10_1⟩)] := And.intro s10_1_ok (trivial)
theorem qf10 : PlanOk P Go.Proofs.Try.f10.ntmps fx10 (planAt 64 [([true, true, true, true, true, true, false, true, false], ⟨g10_1, o10_1, l10_1⟩)]) c10 := planAt_ok pf10
theorem f10_ok : EntOk P 10 ⟨gi10, [go10], f10⟩ :=
  ent_ok (fn := Go.Proofs.Try.f10) (gi := gi10) (gos := [go10]) (f := f10) (c := c10) (fx := fx10) ⟨Go.Proofs.Try.func10, by kernel_rfl, rfl, by decide +kernel, rfl, rfl⟩ (by kernel_rfl) (Table.ok T28_ok _) hmix (qf10) f10_eq
noncomputable def T10 : Table := T28.add 10 [⟨gi10, [go10], f10⟩] []
theorem T10_ok : TableOk P T10 := Table.plus T28_ok (es := [⟨gi10, [go10], f10⟩]) ⟨f10_ok, trivial⟩ []

/-! ## 29: slices.Clone[[]int,int] -/
noncomputable def c29 : Code := Func.code Go.Proofs.Try.f29
abbrev gi29 : Sg := ⟨[0], [.lf (.sl (.int .i64))], []⟩
abbrev go29 : Sg := ⟨[2], [.lf (.gr (.int .i64) 0)], [some (.arr true (.int .i64))]⟩
def fx29 : List Bool := []
noncomputable def f29 (x : gi29.D) : Option go29.D :=
  (if ((List.length x.1) = (0 : Nat)) then (Go.Ev.amb (Go.Ev.Orc.eq (Go.Ev.Table.orcE Go.Ev.Huff.T10 (Go.Ev.Sg.D Go.Ev.Huff.go29) (Go.Ev.Sg.eq Go.Ev.Huff.go29) (Go.Ev.Sg.eq_eq Go.Ev.Huff.go29))) (some ([], Unit.unit)) (if (((0 : Nat) + (List.length x.1)) ≤ (17592186044416 : Nat)) then (if ((List.length ((List.take (0 : Nat) (List.drop (0 : Nat) (List.replicate (0 : Nat) (0 : Int)))) ++ x.1)) = (List.length ((List.take (0 : Nat) (List.drop (0 : Nat) (List.replicate (0 : Nat) (0 : Int)))) ++ x.1))) then (some (((List.take (0 : Nat) (List.drop (0 : Nat) (List.replicate (0 : Nat) (0 : Int)))) ++ x.1), Unit.unit))
   else none)
   else none))
   else (if (((0 : Nat) + (List.length x.1)) ≤ (17592186044416 : Nat)) then (if ((List.length ((List.take (0 : Nat) (List.drop (0 : Nat) (List.replicate (0 : Nat) (0 : Int)))) ++ x.1)) = (List.length ((List.take (0 : Nat) (List.drop (0 : Nat) (List.replicate (0 : Nat) (0 : Int)))) ++ x.1))) then (some (((List.take (0 : Nat) (List.drop (0 : Nat) (List.replicate (0 : Nat) (0 : Int)))) ++ x.1), Unit.unit))
   else none)
   else none))
theorem f29_eq (x : gi29.D) : f29 x = evF P (T10.orcE go29.D go29.eq go29.eq_eq) Go.Proofs.Try.f29.ntmps fx29 c29 (planAt 64 []) gi29 x (fnK fx29 [go29]) := by kernel_rfl
theorem f29_ok : EntOk P 29 ⟨gi29, [go29], f29⟩ :=
  ent_ok (fn := Go.Proofs.Try.f29) (gi := gi29) (gos := [go29]) (f := f29) (c := c29) (fx := fx29) ⟨Go.Proofs.Try.func29, by kernel_rfl, rfl, by decide +kernel, rfl, rfl⟩ (by kernel_rfl) (Table.okE T10_ok _ _ _) hmix (planAt_ok (P := P) (n := Go.Proofs.Try.f29.ntmps) (fx := fx29) (c := c29) (d := 64) (l := []) trivial) f29_eq
noncomputable def T29 : Table := T10.add 29 [⟨gi29, [go29], f29⟩] []
theorem T29_ok : TableOk P T29 := Table.plus T10_ok (es := [⟨gi29, [go29], f29⟩]) ⟨f29_ok, trivial⟩ []

/-! ## 11: erasure/huff.Make -/
noncomputable def c11 : Code := Func.code Go.Proofs.Try.f11
abbrev gi11 : Sg := ⟨[0], [.lf (.sl (.int .i64))], []⟩
abbrev go11 : List Sg := [⟨[2, 3], [.lf .nilp, .lf (.int .i64)], []⟩, ⟨[2, 3], [.lf (.ptr 0 0), .lf (.int .i64)], [some (.box true [.many (.int .i64) 16, .lf (.sl (.int .i64)), .lf (.sl (.int .i64)), .lf (.gr (.int .i64) 1)]), some (.arr true (.int .i64))]⟩]
def fx11 : List Bool := []
abbrev g11_2 : Sg := ⟨[0, 6, 7, 8, 24, 27, 28, 29], [.lf (.sl (.int .i64)), .lf (.ptr 0 0), .lf (.int .i64), .lf (.int .i64), .lf (.int .i64), .lf (.sl (.int .i64)), .lf (.int .i64), .lf (.int .i64)], [some (.box true [.many (.int .i64) 16, .lf (.sl (.int .i64)), .lf (.sl (.int .i64)), .lf (.gr (.int .i64) 1)]), some (.arr true (.int .i64))]⟩
abbrev o11_2 : Outs := [(.exit 2, ⟨[0, 6, 7, 24], [.lf (.sl (.int .i64)), .lf (.ptr 0 0), .lf (.int .i64), .lf (.int .i64)], [some (.box true [.many (.int .i64) 16, .lf (.sl (.int .i64)), .lf (.sl (.int .i64)), .lf (.gr (.int .i64) 1)]), some (.arr true (.int .i64))]⟩)]
noncomputable def b11_2 (x : g11_2.D) : Option (outD ((.normal, g11_2) :: o11_2)) :=
  (if ((decide (x.2.2.2.2.2.2.1 < x.2.2.2.2.2.1)) = true) then (if ((0 : Int) ≤ x.2.2.2.2.2.2.1) then (if (x.2.2.2.2.2.2.1 < (((List.length x.2.2.2.2.1) : Nat) : Int)) then (if (((List.getD x.2.2.2.2.1 (Int.toNat x.2.2.2.2.2.2.1) (0 : Int)) == (Go.IntKind.wrap Go.IntKind.i64 (x.2.2.1 + (1 : Int)))) = true) then (if (((List.length (List.take (List.length x.2.2.2.2.2.2.2.2.2.2.1) (List.drop (0 : Nat) x.2.2.2.2.2.2.2.2.2.2.1))) + (List.length (List.take (1 : Nat) (List.drop (0 : Nat) (List.set (List.replicate (1 : Nat) (0 : Int)) (0 : Nat) x.2.2.2.2.2.2.1))))) ≤ (17592186044416 : Nat)) then (if ((0 : Int) ≤ (List.getD x.2.2.2.2.1 (Int.toNat x.2.2.2.2.2.2.1) (0 : Int))) then (if ((List.getD x.2.2.2.2.1 (Int.toNat x.2.2.2.2.2.2.1) (0 : Int)) < (16 : Int)) then (if ((0 : Int) ≤ (List.getD x.2.2.2.2.1 (Int.toNat x.2.2.2.2.2.2.1) (0 : Int))) then (if ((List.getD x.2.2.2.2.1 (Int.toNat x.2.2.2.2.2.2.1) (0 : Int)) < (16 : Int)) then (if ((List.getD x.2.2.2.2.1 (Int.toNat x.2.2.2.2.2.2.1) (0 : Int)) < (0 : Int)) then none
   else (if ((List.length ((List.take (List.length x.2.2.2.2.2.2.2.2.2.2.1) (List.drop (0 : Nat) x.2.2.2.2.2.2.2.2.2.2.1)) ++ (List.take (1 : Nat) (List.drop (0 : Nat) (List.set (List.replicate (1 : Nat) (0 : Int)) (0 : Nat) x.2.2.2.2.2.2.1))))) = (List.length ((List.take (List.length x.2.2.2.2.2.2.2.2.2.2.1) (List.drop (0 : Nat) x.2.2.2.2.2.2.2.2.2.2.1)) ++ (List.take (1 : Nat) (List.drop (0 : Nat) (List.set (List.replicate (1 : Nat) (0 : Int)) (0 : Nat) x.2.2.2.2.2.2.1)))))) then (some (Sum.inl (x.1, ((Go.IntKind.wrap Go.IntKind.i64 (x.2.1 + (Int.fdiv (32768 : Int) ((2 : Int) ^ (Min.min (Int.toNat (List.getD x.2.2.2.2.1 (Int.toNat x.2.2.2.2.2.2.1) (0 : Int))) (64 : Nat)))))), (x.2.2.1, (x.2.2.2.1, (x.2.2.2.2.1, (x.2.2.2.2.2.1, ((Go.IntKind.wrap Go.IntKind.i64 (x.2.2.2.2.2.2.1 + (1 : Int))), ((List.set x.2.2.2.2.2.2.2.1 (Int.toNat (List.getD x.2.2.2.2.1 (Int.toNat x.2.2.2.2.2.2.1) (0 : Int))) (Go.IntKind.wrap Go.IntKind.i64 ((List.getD x.2.2.2.2.2.2.2.1 (Int.toNat (List.getD x.2.2.2.2.1 (Int.toNat x.2.2.2.2.2.2.1) (0 : Int))) (0 : Int)) + (1 : Int)))), (x.2.2.2.2.2.2.2.2.1, (x.2.2.2.2.2.2.2.2.2.1, (((List.take (List.length x.2.2.2.2.2.2.2.2.2.2.1) (List.drop (0 : Nat) x.2.2.2.2.2.2.2.2.2.2.1)) ++ (List.take (1 : Nat) (List.drop (0 : Nat) (List.set (List.replicate (1 : Nat) (0 : Int)) (0 : Nat) x.2.2.2.2.2.2.1)))), Unit.unit)))))))))))))
   else none))
   else none)
   else none)
   else none)
   else none)
   else none)
   else (if ((List.length x.2.2.2.2.2.2.2.2.2.2.1) = (List.length x.2.2.2.2.2.2.2.2.2.2.1)) then (some (Sum.inl (x.1, (x.2.1, (x.2.2.1, (x.2.2.2.1, (x.2.2.2.2.1, (x.2.2.2.2.2.1, ((Go.IntKind.wrap Go.IntKind.i64 (x.2.2.2.2.2.2.1 + (1 : Int))), (x.2.2.2.2.2.2.2.1, (x.2.2.2.2.2.2.2.2.1, (x.2.2.2.2.2.2.2.2.2.1, (x.2.2.2.2.2.2.2.2.2.2.1, Unit.unit)))))))))))))
   else none))
   else none)
   else none)
   else (if ((List.length x.2.2.2.2.2.2.2.2.2.2.1) = (List.length x.2.2.2.2.2.2.2.2.2.2.1)) then (some (Sum.inr (Sum.inl (x.1, (x.2.1, (x.2.2.2.1, (x.2.2.2.2.2.2.2.1, (x.2.2.2.2.2.2.2.2.1, (x.2.2.2.2.2.2.2.2.2.1, (x.2.2.2.2.2.2.2.2.2.2.1, Unit.unit))))))))))
   else none))
theorem b11_2_eq (x : g11_2.D) : b11_2 x = evF P (T29.orc _) Go.Proofs.Try.f11.ntmps fx11 (Code.at [true, true, true, true, true, false, true, false, false, true, true, false, false, true, true, false, false] c11) (planAt 64 []) g11_2 x (injK fx11 ((.normal, g11_2) :: o11_2) some) := by kernel_rfl
noncomputable def l11_2 : g11_2.D → Option (outD o11_2) := loopN g11_2 o11_2 b11_2 18446744073709551616
theorem at11_2 : Code.at [true, true, true, true, true, false, true, false, false, true, true, false, false, true, true, false] c11 = .loop (Code.at [true, true, true, true, true, false, true, false, false, true, true, false, false, true, true, false, false] c11) := by kernel_rfl
theorem s11_2_ok : SubOk P Go.Proofs.Try.f11.ntmps fx11 (Code.at [true, true, true, true, true, false, true, false, false, true, true, false, false, true, true, false] c11) ⟨g11_2, o11_2, l11_2⟩ := by
  rw [at11_2]
  exact loop_ok (sub_ok (g := g11_2) (outs := ((.normal, g11_2) :: o11_2)) (f := b11_2) (Table.ok T29_ok _) hmix (planAt_ok (P := P) (n := Go.Proofs.Try.f11.ntmps) (fx := fx11) (c := (Code.at [true, true, true, true, true, false, true, false, false, true, true, false, false, true, true, false, false] c11)) (d := 64) (l := []) trivial) b11_2_eq) rfl _
abbrev g11_1 : Sg := ⟨[0, 6, 7, 24], [.lf (.sl (.int .i64)), .lf (.ptr 0 0), .lf (.int .i64), .lf (.int .i64)], [some (.box true [.many (.int .i64) 16, .lf (.sl (.int .i64)), .lf (.sl (.int .i64)), .lf (.gr (.int .i64) 1)]), some (.arr true (.int .i64))]⟩
abbrev o11_1 : Outs := [(.exit 0, ⟨[6, 7], [.lf (.ptr 0 0), .lf (.int .i64)], [some (.box true [.many (.int .i64) 16, .lf (.sl (.int .i64)), .lf (.sl (.int .i64)), .lf (.gr (.int .i64) 1)]), some (.arr true (.int .i64))]⟩)]
noncomputable def b11_1 (x : g11_1.D) : Option (outD ((.normal, g11_1) :: o11_1)) :=
  (if ((decide (x.2.2.1 < (15 : Int))) = true) then (if ((List.length x.2.2.2.2.2.2.1) = (List.length x.2.2.2.2.2.2.1)) then (Option.bind (Go.Ev.Huff.l11_2 (x.1, (x.2.1, (x.2.2.1, (x.2.2.1, (x.1, ((((List.length x.1) : Nat) : Int), ((0 : Int), (x.2.2.2.1, (x.2.2.2.2.1, (x.2.2.2.2.2.1, (x.2.2.2.2.2.2.1, Unit.unit)))))))))))) (Sum.elim (fun y1 => (if ((List.length y1.2.2.2.2.2.2.1) = (List.length y1.2.2.2.2.2.2.1)) then (some (Sum.inl (y1.1, (y1.2.1, ((Go.IntKind.wrap Go.IntKind.i64 (y1.2.2.1 + (1 : Int))), (y1.2.2.2.1, (y1.2.2.2.2.1, (y1.2.2.2.2.2.1, (y1.2.2.2.2.2.2.1, Unit.unit)))))))))
   else none)) Empty.elim))
   else none)
   else (if ((List.length x.2.2.2.2.2.2.1) = (List.length x.2.2.2.2.2.2.1)) then (some (Sum.inr (Sum.inl (x.2.1, (x.2.2.2.1, (x.2.2.2.2.1, (x.2.2.2.2.2.1, (x.2.2.2.2.2.2.1, Unit.unit))))))))
   else none))
theorem b11_1_eq (x : g11_1.D) : b11_1 x = evF P (T29.orc _) Go.Proofs.Try.f11.ntmps fx11 (Code.at [true, true, true, true, true, false, true, false, false] c11) (planAt 64 [([true, true, false, false, true, true, false], ⟨g11_2, o11_2, l11_2⟩)]) g11_1 x (injK fx11 ((.normal, g11_1) :: o11_1) some) := by kernel_rfl
noncomputable def l11_1 : g11_1.D → Option (outD o11_1) := loopN g11_1 o11_1 b11_1 18446744073709551616
theorem p11_1 : AllSub P Go.Proofs.Try.f11.ntmps fx11 (Code.at [true, true, true, true, true, false, true, false, false] c11) [([true, true, false, false, true, true, false], ⟨g11_2, o11_2, l11_2⟩)] := And.intro s11_2_ok (trivial)
theorem q11_1 : PlanOk P Go.Proofs.Try.f11.ntmps fx11 (planAt 64 [([true, true, false, false, true, true, false], ⟨g11_2, o11_2, l11_2⟩)]) (Code.at [true, true, true, true, true, false, true, false, false] c11) := planAt_ok p11_1
theorem at11_1 : Code.at [true, true, true, true, true, false, true, false] c11 = .loop (Code.at [true, true, true, true, true, false, true, false, false] c11) := by kernel_rfl
theorem s11_1_ok : SubOk P Go.Proofs.Try.f11.ntmps fx11 (Code.at [true, true, true, true, true, false, true, false] c11) ⟨g11_1, o11_1, l11_1⟩ := by
  rw [at11_1]
  exact loop_ok (sub_ok (g := g11_1) (outs := ((.normal, g11_1) :: o11_1)) (f := b11_1) (Table.ok T29_ok _) hmix (q11_1) b11_1_eq) rfl _
noncomputable def f11 (x : gi11.D) : Option (alt go11) :=
  (Option.bind (Go.Ev.Huff.f9 (x.1, Unit.unit)) (fun y1 => (if ((y1.1 != (0 : Int)) = true) then (some (Sum.inl (y1.1, Unit.unit)))
   else (Option.bind (Go.Ev.Huff.f29 (x.1, Unit.unit)) (fun y2 => (Option.bind (Go.Ev.Huff.l11_1 (x.1, ((0 : Int), ((0 : Int), ((List.replicate (16 : Nat) (0 : Int)), ((List.take (List.length y2.1) (List.drop (0 : Nat) y2.1)), ((List.take (List.length y1.2.1) (List.drop (0 : Nat) y1.2.1)), ([], Unit.unit)))))))) (Sum.elim (fun y3 => (if ((decide (y3.1 < (32768 : Int))) = true) then (if ((decide ((((List.length y3.2.2.2.2.1) : Nat) : Int) > (0 : Int))) = true) then (if ((decide ((((List.length y3.2.2.2.2.1) : Nat) : Int) > (1 : Int))) = true) then (some (Sum.inl ((4 : Int), Unit.unit)))
   else (if (((List.getD y3.2.1 (1 : Nat) (0 : Int)) == (0 : Int)) = true) then (some (Sum.inl ((4 : Int), Unit.unit)))
   else (if ((List.length y3.2.2.2.2.1) = (List.length y3.2.2.2.2.1)) then (some (Sum.inr ((0 : Int), (y3.2.1, (y3.2.2.1, (y3.2.2.2.1, (y3.2.2.2.2.1, Unit.unit)))))))
   else none)))
   else (if ((List.length y3.2.2.2.2.1) = (List.length y3.2.2.2.2.1)) then (some (Sum.inr ((0 : Int), (y3.2.1, (y3.2.2.1, (y3.2.2.2.1, (y3.2.2.2.2.1, Unit.unit)))))))
   else none))
   else (if ((List.length y3.2.2.2.2.1) = (List.length y3.2.2.2.2.1)) then (some (Sum.inr ((0 : Int), (y3.2.1, (y3.2.2.1, (y3.2.2.2.1, (y3.2.2.2.2.1, Unit.unit)))))))
   else none))) Empty.elim)))))))
theorem f11_eq (x : gi11.D) : f11 x = evF P (T29.orc _) Go.Proofs.Try.f11.ntmps fx11 c11 (planAt 64 [([true, true, true, true, true, false, true, false], ⟨g11_1, o11_1, l11_1⟩)]) gi11 x (fnK fx11 go11) := by kernel_rfl
theorem pf11 : AllSub P Go.Proofs.Try.f11.ntmps fx11 c11 [([true, true, true, true, true, false, true, false], ⟨g11_1, o11_1, l11_1⟩)] := And.intro s11_1_ok (trivial)
theorem qf11 : PlanOk P Go.Proofs.Try.f11.ntmps fx11 (planAt 64 [([true, true, true, true, true, false, true, false], ⟨g11_1, o11_1, l11_1⟩)]) c11 := planAt_ok pf11
theorem f11_ok : EntOk P 11 ⟨gi11, go11, f11⟩ :=
  ent_ok (fn := Go.Proofs.Try.f11) (gi := gi11) (gos := go11) (f := f11) (c := c11) (fx := fx11) ⟨Go.Proofs.Try.func11, by kernel_rfl, rfl, by decide +kernel, rfl, rfl⟩ (by kernel_rfl) (Table.ok T29_ok _) hmix (qf11) f11_eq
noncomputable def T11 : Table := T29.add 11 [⟨gi11, go11, f11⟩] []
theorem T11_ok : TableOk P T11 := Table.plus T29_ok (es := [⟨gi11, go11, f11⟩]) ⟨f11_ok, trivial⟩ []

/-! ## 13: erasure/erasureref05.Ints -/
noncomputable def c13 : Code := Func.code Go.Proofs.Try.f13
abbrev gi13 : Sg := ⟨[0, 1], [.lf (.sl (.int .i64)), .lf (.sl (.int .i64))], []⟩
abbrev go13 : Sg := ⟨[4], [.lf .bool], []⟩
def fx13 : List Bool := []
abbrev g13_1 : Sg := ⟨[0, 1, 5], [.lf (.sl (.int .i64)), .lf (.sl (.int .i64)), .lf (.int .i64)], []⟩
abbrev o13_1 : Outs := [(.exit 0, ⟨[], [], []⟩), (.ret, ⟨[4], [.lf .bool], []⟩)]
noncomputable def b13_1 (x : g13_1.D) : Option (outD ((.normal, g13_1) :: o13_1)) :=
  (if ((decide (x.2.2.1 < (((List.length x.1) : Nat) : Int))) = true) then (if ((0 : Int) ≤ x.2.2.1) then (if (x.2.2.1 < (((List.length x.1) : Nat) : Int)) then (if ((0 : Int) ≤ x.2.2.1) then (if (x.2.2.1 < (((List.length x.2.1) : Nat) : Int)) then (if (((List.getD x.1 (Int.toNat x.2.2.1) (0 : Int)) != (List.getD x.2.1 (Int.toNat x.2.2.1) (0 : Int))) = true) then (some (Sum.inr (Sum.inr (Sum.inl (false, Unit.unit)))))
   else (some (Sum.inl (x.1, (x.2.1, ((Go.IntKind.wrap Go.IntKind.i64 (x.2.2.1 + (1 : Int))), Unit.unit))))))
   else none)
   else none)
   else none)
   else none)
   else (some (Sum.inr (Sum.inl Unit.unit))))
theorem b13_1_eq (x : g13_1.D) : b13_1 x = evF P (T11.orc _) Go.Proofs.Try.f13.ntmps fx13 (Code.at [true, true, false, true, false, false] c13) (planAt 64 []) g13_1 x (injK fx13 ((.normal, g13_1) :: o13_1) some) := by kernel_rfl
noncomputable def l13_1 : g13_1.D → Option (outD o13_1) := loopN g13_1 o13_1 b13_1 18446744073709551616
theorem at13_1 : Code.at [true, true, false, true, false] c13 = .loop (Code.at [true, true, false, true, false, false] c13) := by kernel_rfl
theorem s13_1_ok : SubOk P Go.Proofs.Try.f13.ntmps fx13 (Code.at [true, true, false, true, false] c13) ⟨g13_1, o13_1, l13_1⟩ := by
  rw [at13_1]
  exact loop_ok (sub_ok (g := g13_1) (outs := ((.normal, g13_1) :: o13_1)) (f := b13_1) (Table.ok T11_ok _) hmix (planAt_ok (P := P) (n := Go.Proofs.Try.f13.ntmps) (fx := fx13) (c := (Code.at [true, true, false, true, false, false] c13)) (d := 64) (l := []) trivial) b13_1_eq) rfl _
noncomputable def f13 (x : gi13.D) : Option go13.D :=
  (if (((((List.length x.1) : Nat) : Int) != (((List.length x.2.1) : Nat) : Int)) = true) then (some (false, Unit.unit))
   else (Option.bind (Go.Ev.Huff.l13_1 (x.1, (x.2.1, ((0 : Int), Unit.unit)))) (Sum.elim (fun _ => (some (true, Unit.unit))) (Sum.elim (fun y1 => (some (y1.1, Unit.unit))) Empty.elim))))
theorem f13_eq (x : gi13.D) : f13 x = evF P (T11.orc _) Go.Proofs.Try.f13.ntmps fx13 c13 (planAt 64 [([true, true, false, true, false], ⟨g13_1, o13_1, l13_1⟩)]) gi13 x (fnK fx13 [go13]) := by kernel_rfl
theorem pf13 : AllSub P Go.Proofs.Try.f13.ntmps fx13 c13 [([true, true, false, true, false], ⟨g13_1, o13_1, l13_1⟩)] := And.intro s13_1_ok (trivial)
theorem qf13 : PlanOk P Go.Proofs.Try.f13.ntmps fx13 (planAt 64 [([true, true, false, true, false], ⟨g13_1, o13_1, l13_1⟩)]) c13 := planAt_ok pf13
theorem f13_ok : EntOk P 13 ⟨gi13, [go13], f13⟩ :=
  ent_ok (fn := Go.Proofs.Try.f13) (gi := gi13) (gos := [go13]) (f := f13) (c := c13) (fx := fx13) ⟨Go.Proofs.Try.func13, by kernel_rfl, rfl, by decide +kernel, rfl, rfl⟩ (by kernel_rfl) (Table.ok T11_ok _) hmix (qf13) f13_eq
noncomputable def T13 : Table := T11.add 13 [⟨gi13, [go13], f13⟩] []
theorem T13_ok : TableOk P T13 := Table.plus T11_ok (es := [⟨gi13, [go13], f13⟩]) ⟨f13_ok, trivial⟩ []

/-! ## 40: math/bits.Mul64 -/
noncomputable def c40 : Code := Func.code Go.Proofs.Try.f40
abbrev gi40 : Sg := ⟨[0, 1], [.lf (.int .u64), .lf (.int .u64)], []⟩
abbrev go40 : Sg := ⟨[4, 5], [.lf (.int .u64), .lf (.int .u64)], []⟩
def fx40 : List Bool := []
noncomputable def f40 (x : gi40.D) : Option go40.D :=
  (some ((Go.IntKind.wrap Go.IntKind.u64 ((Go.IntKind.wrap Go.IntKind.u64 ((Go.IntKind.wrap Go.IntKind.u64 ((Int.fdiv x.1 (4294967296 : Int)) * (Int.fdiv x.2.1 (4294967296 : Int)))) + (Int.fdiv (Go.IntKind.wrap Go.IntKind.u64 ((Go.IntKind.wrap Go.IntKind.u64 ((Int.fdiv x.1 (4294967296 : Int)) * (Go.IntKind.wrap Go.IntKind.u64 (((BitVec.toNat ((BitVec.ofInt (64 : Nat) x.2.1) &&& (BitVec.ofInt (64 : Nat) (4294967295 : Int)))) : Nat) : Int)))) + (Int.fdiv (Go.IntKind.wrap Go.IntKind.u64 ((Go.IntKind.wrap Go.IntKind.u64 (((BitVec.toNat ((BitVec.ofInt (64 : Nat) x.1) &&& (BitVec.ofInt (64 : Nat) (4294967295 : Int)))) : Nat) : Int)) * (Go.IntKind.wrap Go.IntKind.u64 (((BitVec.toNat ((BitVec.ofInt (64 : Nat) x.2.1) &&& (BitVec.ofInt (64 : Nat) (4294967295 : Int)))) : Nat) : Int)))) (4294967296 : Int)))) (4294967296 : Int)))) + (Int.fdiv (Go.IntKind.wrap Go.IntKind.u64 ((Go.IntKind.wrap Go.IntKind.u64 (((BitVec.toNat ((BitVec.ofInt (64 : Nat) (Go.IntKind.wrap Go.IntKind.u64 ((Go.IntKind.wrap Go.IntKind.u64 ((Int.fdiv x.1 (4294967296 : Int)) * (Go.IntKind.wrap Go.IntKind.u64 (((BitVec.toNat ((BitVec.ofInt (64 : Nat) x.2.1) &&& (BitVec.ofInt (64 : Nat) (4294967295 : Int)))) : Nat) : Int)))) + (Int.fdiv (Go.IntKind.wrap Go.IntKind.u64 ((Go.IntKind.wrap Go.IntKind.u64 (((BitVec.toNat ((BitVec.ofInt (64 : Nat) x.1) &&& (BitVec.ofInt (64 : Nat) (4294967295 : Int)))) : Nat) : Int)) * (Go.IntKind.wrap Go.IntKind.u64 (((BitVec.toNat ((BitVec.ofInt (64 : Nat) x.2.1) &&& (BitVec.ofInt (64 : Nat) (4294967295 : Int)))) : Nat) : Int)))) (4294967296 : Int))))) &&& (BitVec.ofInt (64 : Nat) (4294967295 : Int)))) : Nat) : Int)) + (Go.IntKind.wrap Go.IntKind.u64 ((Go.IntKind.wrap Go.IntKind.u64 (((BitVec.toNat ((BitVec.ofInt (64 : Nat) x.1) &&& (BitVec.ofInt (64 : Nat) (4294967295 : Int)))) : Nat) : Int)) * (Int.fdiv x.2.1 (4294967296 : Int)))))) (4294967296 : Int)))), ((Go.IntKind.wrap Go.IntKind.u64 (x.1 * x.2.1)), Unit.unit)))
theorem f40_eq (x : gi40.D) : f40 x = evF P (T13.orc _) Go.Proofs.Try.f40.ntmps fx40 c40 (planAt 64 []) gi40 x (fnK fx40 [go40]) := by kernel_rfl
theorem f40_ok : EntOk P 40 ⟨gi40, [go40], f40⟩ :=
  ent_ok (fn := Go.Proofs.Try.f40) (gi := gi40) (gos := [go40]) (f := f40) (c := c40) (fx := fx40) ⟨Go.Proofs.Try.func40, by kernel_rfl, rfl, by decide +kernel, rfl, rfl⟩ (by kernel_rfl) (Table.ok T13_ok _) hmix (planAt_ok (P := P) (n := Go.Proofs.Try.f40.ntmps) (fx := fx40) (c := c40) (d := 64) (l := []) trivial) f40_eq
noncomputable def T40 : Table := T13.add 40 [⟨gi40, [go40], f40⟩] []
theorem T40_ok : TableOk P T40 := Table.plus T13_ok (es := [⟨gi40, [go40], f40⟩]) ⟨f40_ok, trivial⟩ []

/-! ## 37: math/bits.Mul -/
noncomputable def c37 : Code := Func.code Go.Proofs.Try.f37
abbrev gi37 : Sg := ⟨[0, 1], [.lf (.int .u64), .lf (.int .u64)], []⟩
abbrev go37 : Sg := ⟨[4, 5], [.lf (.int .u64), .lf (.int .u64)], []⟩
def fx37 : List Bool := []
noncomputable def f37 (x : gi37.D) : Option go37.D :=
  (Option.bind (Go.Ev.Huff.f40 (x.1, (x.2.1, Unit.unit))) (fun y1 => (some (y1.1, (y1.2.1, Unit.unit)))))
theorem f37_eq (x : gi37.D) : f37 x = evF P (T40.orc _) Go.Proofs.Try.f37.ntmps fx37 c37 (planAt 64 []) gi37 x (fnK fx37 [go37]) := by kernel_rfl
theorem f37_ok : EntOk P 37 ⟨gi37, [go37], f37⟩ :=
  ent_ok (fn := Go.Proofs.Try.f37) (gi := gi37) (gos := [go37]) (f := f37) (c := c37) (fx := fx37) ⟨Go.Proofs.Try.func37, by kernel_rfl, rfl, by decide +kernel, rfl, rfl⟩ (by kernel_rfl) (Table.ok T40_ok _) hmix (planAt_ok (P := P) (n := Go.Proofs.Try.f37.ntmps) (fx := fx37) (c := c37) (d := 64) (l := []) trivial) f37_eq
noncomputable def T37 : Table := T40.add 37 [⟨gi37, [go37], f37⟩] []
theorem T37_ok : TableOk P T37 := Table.plus T40_ok (es := [⟨gi37, [go37], f37⟩]) ⟨f37_ok, trivial⟩ []

/-! ## 30: slices.Repeat[[]int,int] -/
noncomputable def c30 : Code := Func.code Go.Proofs.Try.f30
abbrev gi30 : Sg := ⟨[0, 1], [.lf (.sl (.int .i64)), .lf (.int .i64)], []⟩
abbrev go30 : Sg := ⟨[4], [.lf (.gr (.int .i64) 0)], [some (.arr true (.int .i64))]⟩
def fx30 : List Bool := []
abbrev g30_1 : Sg := ⟨[7, 8], [.lf (.gr (.int .i64) 0), .lf (.int .i64)], [some (.arr true (.int .i64))]⟩
abbrev o30_1 : Outs := [(.exit 0, ⟨[7], [.lf (.gr (.int .i64) 0)], [some (.arr true (.int .i64))]⟩)]
noncomputable def b30_1 (x : g30_1.D) : Option (outD ((.normal, g30_1) :: o30_1)) :=
  (if ((decide (x.1 < (((List.length x.2.1) : Nat) : Int))) = true) then (if ((0 : Int) ≤ x.1) then (if (x.1 ≤ (((List.length x.2.1) : Nat) : Int)) then (if ((0 : Int) ≤ x.1) then (if (x.1 ≤ (((List.length x.2.1) : Nat) : Int)) then (if ((Min.min (List.length (List.take ((Int.toNat x.1) - (0 : Nat)) (List.drop (0 : Nat) x.2.1))) ((List.length x.2.1) - (Int.toNat x.1))) = (0 : Nat)) then (if ((List.length x.2.1) = (List.length x.2.1)) then (some (Sum.inl ((Go.IntKind.wrap Go.IntKind.i64 (x.1 + (0 : Int))), (x.2.1, Unit.unit))))
   else none)
   else (if ((List.length x.2.1) = (List.length ((List.take ((0 : Nat) + (Int.toNat x.1)) x.2.1) ++ ((List.take (Min.min (List.length (List.take ((Int.toNat x.1) - (0 : Nat)) (List.drop (0 : Nat) x.2.1))) ((List.length x.2.1) - (Int.toNat x.1))) (List.take ((Int.toNat x.1) - (0 : Nat)) (List.drop (0 : Nat) x.2.1))) ++ (List.drop (((0 : Nat) + (Int.toNat x.1)) + (Min.min (List.length (List.take ((Int.toNat x.1) - (0 : Nat)) (List.drop (0 : Nat) x.2.1))) ((List.length x.2.1) - (Int.toNat x.1)))) x.2.1))))) then (some (Sum.inl ((Go.IntKind.wrap Go.IntKind.i64 (x.1 + (((Min.min (List.length (List.take ((Int.toNat x.1) - (0 : Nat)) (List.drop (0 : Nat) x.2.1))) ((List.length x.2.1) - (Int.toNat x.1))) : Nat) : Int))), (((List.take ((0 : Nat) + (Int.toNat x.1)) x.2.1) ++ ((List.take (Min.min (List.length (List.take ((Int.toNat x.1) - (0 : Nat)) (List.drop (0 : Nat) x.2.1))) ((List.length x.2.1) - (Int.toNat x.1))) (List.take ((Int.toNat x.1) - (0 : Nat)) (List.drop (0 : Nat) x.2.1))) ++ (List.drop (((0 : Nat) + (Int.toNat x.1)) + (Min.min (List.length (List.take ((Int.toNat x.1) - (0 : Nat)) (List.drop (0 : Nat) x.2.1))) ((List.length x.2.1) - (Int.toNat x.1)))) x.2.1))), Unit.unit))))
   else none))
   else none)
   else none)
   else none)
   else none)
   else (if ((List.length x.2.1) = (List.length x.2.1)) then (some (Sum.inr (Sum.inl (x.2.1, Unit.unit))))
   else none))
theorem b30_1_eq (x : g30_1.D) : b30_1 x = evF P (T37.orc _) Go.Proofs.Try.f30.ntmps fx30 (Code.at [true, true, true, true, true, true, false, false, false] c30) (planAt 64 []) g30_1 x (injK fx30 ((.normal, g30_1) :: o30_1) some) := by kernel_rfl
noncomputable def l30_1 : g30_1.D → Option (outD o30_1) := loopN g30_1 o30_1 b30_1 18446744073709551616
theorem at30_1 : Code.at [true, true, true, true, true, true, false, false] c30 = .loop (Code.at [true, true, true, true, true, true, false, false, false] c30) := by kernel_rfl
theorem s30_1_ok : SubOk P Go.Proofs.Try.f30.ntmps fx30 (Code.at [true, true, true, true, true, true, false, false] c30) ⟨g30_1, o30_1, l30_1⟩ := by
  rw [at30_1]
  exact loop_ok (sub_ok (g := g30_1) (outs := ((.normal, g30_1) :: o30_1)) (f := b30_1) (Table.ok T37_ok _) hmix (planAt_ok (P := P) (n := Go.Proofs.Try.f30.ntmps) (fx := fx30) (c := (Code.at [true, true, true, true, true, true, false, false, false] c30)) (d := 64) (l := []) trivial) b30_1_eq) rfl _
noncomputable def f30 (x : gi30.D) : Option go30.D :=
  (if ((decide (x.2.1 < (0 : Int))) = true) then none
   else (Option.bind (Go.Ev.Huff.f37 ((Go.IntKind.wrap Go.IntKind.u64 (((List.length x.1) : Nat) : Int)), ((Go.IntKind.wrap Go.IntKind.u64 x.2.1), Unit.unit))) (fun y1 => (if ((decide (y1.1 > (0 : Int))) = true) then none
   else (if ((decide (y1.2.1 > (9223372036854775807 : Int))) = true) then none
   else (if ((0 : Int) ≤ (Go.IntKind.wrap Go.IntKind.i64 y1.2.1)) then (if ((Go.IntKind.wrap Go.IntKind.i64 y1.2.1) ≤ (Go.IntKind.wrap Go.IntKind.i64 y1.2.1)) then (if ((Go.IntKind.wrap Go.IntKind.i64 y1.2.1) ≤ (35184372088832 : Int)) then (if ((Min.min (List.length x.1) (Int.toNat (Go.IntKind.wrap Go.IntKind.i64 y1.2.1))) = (0 : Nat)) then (if ((Int.toNat (Go.IntKind.wrap Go.IntKind.i64 y1.2.1)) = (List.length (List.replicate (Int.toNat (Go.IntKind.wrap Go.IntKind.i64 y1.2.1)) (0 : Int)))) then (Option.bind (Go.Ev.Huff.l30_1 ((0 : Int), ((List.replicate (Int.toNat (Go.IntKind.wrap Go.IntKind.i64 y1.2.1)) (0 : Int)), Unit.unit))) (Sum.elim (fun y2 => (if ((List.length y2.1) = (List.length y2.1)) then (some (y2.1, Unit.unit))
   else none)) Empty.elim))
   else none)
   else (if ((Int.toNat (Go.IntKind.wrap Go.IntKind.i64 y1.2.1)) = (List.length ((List.take (0 : Nat) (List.replicate (Int.toNat (Go.IntKind.wrap Go.IntKind.i64 y1.2.1)) (0 : Int))) ++ ((List.take (Min.min (List.length x.1) (Int.toNat (Go.IntKind.wrap Go.IntKind.i64 y1.2.1))) x.1) ++ (List.drop ((0 : Nat) + (Min.min (List.length x.1) (Int.toNat (Go.IntKind.wrap Go.IntKind.i64 y1.2.1)))) (List.replicate (Int.toNat (Go.IntKind.wrap Go.IntKind.i64 y1.2.1)) (0 : Int))))))) then (Option.bind (Go.Ev.Huff.l30_1 ((((Min.min (List.length x.1) (Int.toNat (Go.IntKind.wrap Go.IntKind.i64 y1.2.1))) : Nat) : Int), (((List.take (0 : Nat) (List.replicate (Int.toNat (Go.IntKind.wrap Go.IntKind.i64 y1.2.1)) (0 : Int))) ++ ((List.take (Min.min (List.length x.1) (Int.toNat (Go.IntKind.wrap Go.IntKind.i64 y1.2.1))) x.1) ++ (List.drop ((0 : Nat) + (Min.min (List.length x.1) (Int.toNat (Go.IntKind.wrap Go.IntKind.i64 y1.2.1)))) (List.replicate (Int.toNat (Go.IntKind.wrap Go.IntKind.i64 y1.2.1)) (0 : Int))))), Unit.unit))) (Sum.elim (fun y2 => (if ((List.length y2.1) = (List.length y2.1)) then (some (y2.1, Unit.unit))
   else none)) Empty.elim))
   else none))
   else none)
   else none)
   else none))))))
theorem f30_eq (x : gi30.D) : f30 x = evF P (T37.orc _) Go.Proofs.Try.f30.ntmps fx30 c30 (planAt 64 [([true, true, true, true, true, true, false, false], ⟨g30_1, o30_1, l30_1⟩)]) gi30 x (fnK fx30 [go30]) := by kernel_rfl
theorem pf30 : AllSub P Go.Proofs.Try.f30.ntmps fx30 c30 [([true, true, true, true, true, true, false, false], ⟨g30_1, o30_1, l30_1⟩)] := And.intro s30_1_ok (trivial)
theorem qf30 : PlanOk P Go.Proofs.Try.f30.ntmps fx30 (planAt 64 [([true, true, true, true, true, true, false, false], ⟨g30_1, o30_1, l30_1⟩)]) c30 := planAt_ok pf30
theorem f30_ok : EntOk P 30 ⟨gi30, [go30], f30⟩ :=
  ent_ok (fn := Go.Proofs.Try.f30) (gi := gi30) (gos := [go30]) (f := f30) (c := c30) (fx := fx30) ⟨Go.Proofs.Try.func30, by kernel_rfl, rfl, by decide +kernel, rfl, rfl⟩ (by kernel_rfl) (Table.ok T37_ok _) hmix (qf30) f30_eq
noncomputable def T30 : Table := T37.add 30 [⟨gi30, [go30], f30⟩] []
theorem T30_ok : TableOk P T30 := Table.plus T37_ok (es := [⟨gi30, [go30], f30⟩]) ⟨f30_ok, trivial⟩ []

/-! ## 15: erasure/huff.Fixed -/
noncomputable def c15 : Code := Func.code Go.Proofs.Try.f15
abbrev gi15 : Sg := ⟨[], [], []⟩
abbrev go15 : Sg := ⟨[0], [.lf (.gr (.int .i64) 0)], [some (.arr true (.int .i64))]⟩
def fx15 : List Bool := []
abbrev g15_1 : Sg := ⟨[1, 2], [.lf (.gr (.int .i64) 0), .lf (.int .i64)], [some (.arr true (.int .i64))]⟩
abbrev o15_1 : Outs := [(.exit 0, ⟨[1], [.lf (.gr (.int .i64) 0)], [some (.arr true (.int .i64))]⟩)]
noncomputable def b15_1 (x : g15_1.D) : Option (outD ((.normal, g15_1) :: o15_1)) :=
  (if ((decide (x.1 < (280 : Int))) = true) then (if ((0 : Int) ≤ x.1) then (if (x.1 < (((List.length x.2.1) : Nat) : Int)) then (if ((decide (x.1 > (255 : Int))) = true) then (if ((0 : Int) ≤ x.1) then (if (x.1 < (((List.length x.2.1) : Nat) : Int)) then (if ((List.length x.2.1) = (List.length (List.set (List.set x.2.1 ((0 : Nat) + (Int.toNat x.1)) (9 : Int)) ((0 : Nat) + (Int.toNat x.1)) (7 : Int)))) then (some (Sum.inl ((Go.IntKind.wrap Go.IntKind.i64 (x.1 + (1 : Int))), ((List.set (List.set x.2.1 ((0 : Nat) + (Int.toNat x.1)) (9 : Int)) ((0 : Nat) + (Int.toNat x.1)) (7 : Int)), Unit.unit))))
   else none)
   else none)
   else none)
   else (if ((List.length x.2.1) = (List.length (List.set x.2.1 ((0 : Nat) + (Int.toNat x.1)) (9 : Int)))) then (some (Sum.inl ((Go.IntKind.wrap Go.IntKind.i64 (x.1 + (1 : Int))), ((List.set x.2.1 ((0 : Nat) + (Int.toNat x.1)) (9 : Int)), Unit.unit))))
   else none))
   else none)
   else none)
   else (if ((List.length x.2.1) = (List.length x.2.1)) then (some (Sum.inr (Sum.inl (x.2.1, Unit.unit))))
   else none))
theorem b15_1_eq (x : g15_1.D) : b15_1 x = evF P (T30.orc _) Go.Proofs.Try.f15.ntmps fx15 (Code.at [true, true, false, true, false, false] c15) (planAt 64 []) g15_1 x (injK fx15 ((.normal, g15_1) :: o15_1) some) := by kernel_rfl
noncomputable def l15_1 : g15_1.D → Option (outD o15_1) := loopN g15_1 o15_1 b15_1 18446744073709551616
theorem at15_1 : Code.at [true, true, false, true, false] c15 = .loop (Code.at [true, true, false, true, false, false] c15) := by kernel_rfl
theorem s15_1_ok : SubOk P Go.Proofs.Try.f15.ntmps fx15 (Code.at [true, true, false, true, false] c15) ⟨g15_1, o15_1, l15_1⟩ := by
  rw [at15_1]
  exact loop_ok (sub_ok (g := g15_1) (outs := ((.normal, g15_1) :: o15_1)) (f := b15_1) (Table.ok T30_ok _) hmix (planAt_ok (P := P) (n := Go.Proofs.Try.f15.ntmps) (fx := fx15) (c := (Code.at [true, true, false, true, false, false] c15)) (d := 64) (l := []) trivial) b15_1_eq) rfl _
noncomputable def f15 (_ : gi15.D) : Option go15.D :=
  (Option.bind (Go.Ev.Huff.f30 ((List.take (1 : Nat) (List.drop (0 : Nat) (List.set (List.replicate (1 : Nat) (0 : Int)) (0 : Nat) (8 : Int)))), ((288 : Int), Unit.unit))) (fun y1 => (if ((List.length y1.1) = (List.length y1.1)) then (Option.bind (Go.Ev.Huff.l15_1 ((144 : Int), (y1.1, Unit.unit))) (Sum.elim (fun y2 => (if ((List.length y2.1) = (List.length y2.1)) then (some (y2.1, Unit.unit))
   else none)) Empty.elim))
   else none)))
theorem f15_eq (x : gi15.D) : f15 x = evF P (T30.orc _) Go.Proofs.Try.f15.ntmps fx15 c15 (planAt 64 [([true, true, false, true, false], ⟨g15_1, o15_1, l15_1⟩)]) gi15 x (fnK fx15 [go15]) := by kernel_rfl
theorem pf15 : AllSub P Go.Proofs.Try.f15.ntmps fx15 c15 [([true, true, false, true, false], ⟨g15_1, o15_1, l15_1⟩)] := And.intro s15_1_ok (trivial)
theorem qf15 : PlanOk P Go.Proofs.Try.f15.ntmps fx15 (planAt 64 [([true, true, false, true, false], ⟨g15_1, o15_1, l15_1⟩)]) c15 := planAt_ok pf15
theorem f15_ok : EntOk P 15 ⟨gi15, [go15], f15⟩ :=
  ent_ok (fn := Go.Proofs.Try.f15) (gi := gi15) (gos := [go15]) (f := f15) (c := c15) (fx := fx15) ⟨Go.Proofs.Try.func15, by kernel_rfl, rfl, by decide +kernel, rfl, rfl⟩ (by kernel_rfl) (Table.ok T30_ok _) hmix (qf15) f15_eq
noncomputable def T15 : Table := T30.add 15 [⟨gi15, [go15], f15⟩] []
theorem T15_ok : TableOk P T15 := Table.plus T30_ok (es := [⟨gi15, [go15], f15⟩]) ⟨f15_ok, trivial⟩ []

/-! ## 12: erasure/erasurelaw05.awake -/
noncomputable def c12 : Code := Func.code Go.Proofs.Try.f12
abbrev gi12 : Sg := ⟨[], [], []⟩
abbrev go12 : Sg := ⟨[0], [.lf .bool], []⟩
def fx12 : List Bool := []
abbrev g12_2 : Sg := ⟨[1, 2, 4], [.lf (.sl (.int .i64)), .lf (.int .i64), .lf (.int .i64)], []⟩
abbrev o12_2 : Outs := [(.normal, ⟨[1, 2, 4, 5, 6], [.lf (.sl (.int .i64)), .lf (.int .i64), .lf (.int .i64), .lf .nilp, .lf (.int .i64)], []⟩), (.normal, ⟨[1, 2, 4, 5, 6], [.lf (.sl (.int .i64)), .lf (.int .i64), .lf (.int .i64), .lf (.ptr 0 0), .lf (.int .i64)], [some (.box true [.many (.int .i64) 16, .lf (.sl (.int .i64)), .lf (.sl (.int .i64)), .lf (.gr (.int .i64) 1)]), some (.arr true (.int .i64))]⟩)]
noncomputable def b12_2 (x : g12_2.D) : Option (outD o12_2) :=
  (Option.bind (Go.Ev.Huff.f11 ((List.take (1 : Nat) (List.drop (0 : Nat) (List.set (List.replicate (1 : Nat) (0 : Int)) (0 : Nat) (1 : Int)))), Unit.unit)) (Sum.elim (fun y1 => (some (Sum.inl (x.1, (x.2.1, (x.2.2.1, (y1.1, Unit.unit))))))) (fun y1 => (if ((List.length y1.2.2.2.2.1) = (List.length y1.2.2.2.2.1)) then (some (Sum.inr (Sum.inl (x.1, (x.2.1, (x.2.2.1, (y1.1, (y1.2.1, (y1.2.2.1, (y1.2.2.2.1, (y1.2.2.2.2.1, Unit.unit)))))))))))
   else none))))
theorem b12_2_eq (x : g12_2.D) : b12_2 x = evF P (T15.orc _) Go.Proofs.Try.f12.ntmps fx12 (Code.at [true, true, true, false] c12) (planAt 64 []) g12_2 x (injK fx12 o12_2 some) := by kernel_rfl
theorem s12_2_ok : SubOk P Go.Proofs.Try.f12.ntmps fx12 (Code.at [true, true, true, false] c12) ⟨g12_2, o12_2, b12_2⟩ :=
  sub_ok (g := g12_2) (outs := o12_2) (f := b12_2) (Table.ok T15_ok _) hmix (planAt_ok (P := P) (n := Go.Proofs.Try.f12.ntmps) (fx := fx12) (c := (Code.at [true, true, true, false] c12)) (d := 64) (l := []) trivial) b12_2_eq
abbrev g12_1 : Sg := ⟨[1, 2], [.lf (.sl (.int .i64)), .lf (.int .i64)], []⟩
abbrev o12_1 : Outs := [(.normal, ⟨[1, 2, 4], [.lf (.sl (.int .i64)), .lf (.int .i64), .lf (.int .i64)], []⟩)]
noncomputable def b12_1 (x : g12_1.D) : Option (outD o12_1) :=
  (Option.bind (Go.Ev.Huff.f11 ((List.take (3 : Nat) (List.drop (0 : Nat) (List.set (List.set (List.set (List.replicate (3 : Nat) (0 : Int)) (0 : Nat) (1 : Int)) (1 : Nat) (1 : Int)) (2 : Nat) (1 : Int)))), Unit.unit)) (Sum.elim (fun y1 => (some (Sum.inl (x.1, (x.2.1, (y1.1, Unit.unit)))))) (fun y1 => (some (Sum.inl (x.1, (x.2.1, (y1.1, Unit.unit))))))))
theorem b12_1_eq (x : g12_1.D) : b12_1 x = evF P (T15.orc _) Go.Proofs.Try.f12.ntmps fx12 (Code.at [true, true, false] c12) (planAt 64 []) g12_1 x (injK fx12 o12_1 some) := by kernel_rfl
theorem s12_1_ok : SubOk P Go.Proofs.Try.f12.ntmps fx12 (Code.at [true, true, false] c12) ⟨g12_1, o12_1, b12_1⟩ :=
  sub_ok (g := g12_1) (outs := o12_1) (f := b12_1) (Table.ok T15_ok _) hmix (planAt_ok (P := P) (n := Go.Proofs.Try.f12.ntmps) (fx := fx12) (c := (Code.at [true, true, false] c12)) (d := 64) (l := []) trivial) b12_1_eq
noncomputable def f12 (_ : gi12.D) : Option go12.D :=
  (Option.bind (Go.Ev.Huff.f9 ((List.take (8 : Nat) (List.drop (0 : Nat) (List.set (List.set (List.set (List.set (List.set (List.set (List.set (List.set (List.replicate (8 : Nat) (0 : Int)) (0 : Nat) (3 : Int)) (1 : Nat) (3 : Int)) (2 : Nat) (3 : Int)) (3 : Nat) (3 : Int)) (4 : Nat) (3 : Int)) (5 : Nat) (2 : Int)) (6 : Nat) (4 : Int)) (7 : Nat) (4 : Int)))), Unit.unit)) (fun y1 => (Option.bind (Go.Ev.Huff.b12_1 ((List.take (List.length y1.2.1) (List.drop (0 : Nat) y1.2.1)), (y1.1, Unit.unit))) (Sum.elim (fun y2 => (Option.bind (Go.Ev.Huff.b12_2 (y2.1, (y2.2.1, (y2.2.2.1, Unit.unit)))) (Sum.elim (fun y3 => (Option.bind (Go.Ev.Huff.f11 ((List.take (1 : Nat) (List.drop (0 : Nat) (List.set (List.replicate (1 : Nat) (0 : Int)) (0 : Nat) (2 : Int)))), Unit.unit)) (Sum.elim (fun _ => (Option.bind (Go.Ev.Huff.f13 (y3.1, ((List.take (8 : Nat) (List.drop (0 : Nat) (List.set (List.set (List.set (List.set (List.set (List.set (List.set (List.set (List.replicate (8 : Nat) (0 : Int)) (0 : Nat) (2 : Int)) (1 : Nat) (3 : Int)) (2 : Nat) (4 : Int)) (3 : Nat) (5 : Int)) (4 : Nat) (6 : Int)) (5 : Nat) (0 : Int)) (6 : Nat) (14 : Int)) (7 : Nat) (15 : Int)))), Unit.unit))) (fun y5 => (if (y5.1 = true) then (if ((y3.2.1 == (0 : Int)) = true) then (if ((y3.2.2.1 == (4 : Int)) = true) then (some (false, Unit.unit))
   else (some (false, Unit.unit)))
   else (some (false, Unit.unit)))
   else (some (false, Unit.unit)))))) (fun _ => (Option.bind (Go.Ev.Huff.f13 (y3.1, ((List.take (8 : Nat) (List.drop (0 : Nat) (List.set (List.set (List.set (List.set (List.set (List.set (List.set (List.set (List.replicate (8 : Nat) (0 : Int)) (0 : Nat) (2 : Int)) (1 : Nat) (3 : Int)) (2 : Nat) (4 : Int)) (3 : Nat) (5 : Int)) (4 : Nat) (6 : Int)) (5 : Nat) (0 : Int)) (6 : Nat) (14 : Int)) (7 : Nat) (15 : Int)))), Unit.unit))) (fun y5 => (if (y5.1 = true) then (if ((y3.2.1 == (0 : Int)) = true) then (if ((y3.2.2.1 == (4 : Int)) = true) then (some (false, Unit.unit))
   else (some (false, Unit.unit)))
   else (some (false, Unit.unit)))
   else (some (false, Unit.unit))))))))) (Sum.elim (fun y3 => (Option.bind (Go.Ev.Huff.f11 ((List.take (1 : Nat) (List.drop (0 : Nat) (List.set (List.replicate (1 : Nat) (0 : Int)) (0 : Nat) (2 : Int)))), Unit.unit)) (Sum.elim (fun y4 => (Option.bind (Go.Ev.Huff.f13 (y3.1, ((List.take (8 : Nat) (List.drop (0 : Nat) (List.set (List.set (List.set (List.set (List.set (List.set (List.set (List.set (List.replicate (8 : Nat) (0 : Int)) (0 : Nat) (2 : Int)) (1 : Nat) (3 : Int)) (2 : Nat) (4 : Int)) (3 : Nat) (5 : Int)) (4 : Nat) (6 : Int)) (5 : Nat) (0 : Int)) (6 : Nat) (14 : Int)) (7 : Nat) (15 : Int)))), Unit.unit))) (fun y5 => (if (y5.1 = true) then (if ((y3.2.1 == (0 : Int)) = true) then (if ((y3.2.2.1 == (4 : Int)) = true) then (if ((y3.2.2.2.1 == y3.2.1) = true) then (if ((y4.1 == y3.2.2.1) = true) then (Option.bind (Go.Ev.Huff.f15 Unit.unit) (fun y6 => (some (((((List.length y6.1) : Nat) : Int) == (288 : Int)), Unit.unit))))
   else (some (false, Unit.unit)))
   else (some (false, Unit.unit)))
   else (some (false, Unit.unit)))
   else (some (false, Unit.unit)))
   else (some (false, Unit.unit)))))) (fun y4 => (Option.bind (Go.Ev.Huff.f13 (y3.1, ((List.take (8 : Nat) (List.drop (0 : Nat) (List.set (List.set (List.set (List.set (List.set (List.set (List.set (List.set (List.replicate (8 : Nat) (0 : Int)) (0 : Nat) (2 : Int)) (1 : Nat) (3 : Int)) (2 : Nat) (4 : Int)) (3 : Nat) (5 : Int)) (4 : Nat) (6 : Int)) (5 : Nat) (0 : Int)) (6 : Nat) (14 : Int)) (7 : Nat) (15 : Int)))), Unit.unit))) (fun y5 => (if (y5.1 = true) then (if ((y3.2.1 == (0 : Int)) = true) then (if ((y3.2.2.1 == (4 : Int)) = true) then (if ((y3.2.2.2.1 == y3.2.1) = true) then (if ((y4.1 == y3.2.2.1) = true) then (Option.bind (Go.Ev.Huff.f15 Unit.unit) (fun y6 => (some (((((List.length y6.1) : Nat) : Int) == (288 : Int)), Unit.unit))))
   else (some (false, Unit.unit)))
   else (some (false, Unit.unit)))
   else (some (false, Unit.unit)))
   else (some (false, Unit.unit)))
   else (some (false, Unit.unit))))))))) Empty.elim)))) Empty.elim))))
theorem f12_eq (x : gi12.D) : f12 x = evF P (T15.orc _) Go.Proofs.Try.f12.ntmps fx12 c12 (planAt 64 [([true, true, false], ⟨g12_1, o12_1, b12_1⟩), ([true, true, true, false], ⟨g12_2, o12_2, b12_2⟩)]) gi12 x (fnK fx12 [go12]) := by kernel_rfl
theorem pf12 : AllSub P Go.Proofs.Try.f12.ntmps fx12 c12 [([true, true, false], ⟨g12_1, o12_1, b12_1⟩), ([true, true, true, false], ⟨g12_2, o12_2, b12_2⟩)] := And.intro s12_1_ok (And.intro s12_2_ok (trivial))
theorem qf12 : PlanOk P Go.Proofs.Try.f12.ntmps fx12 (planAt 64 [([true, true, false], ⟨g12_1, o12_1, b12_1⟩), ([true, true, true, false], ⟨g12_2, o12_2, b12_2⟩)]) c12 := planAt_ok pf12
theorem f12_ok : EntOk P 12 ⟨gi12, [go12], f12⟩ :=
  ent_ok (fn := Go.Proofs.Try.f12) (gi := gi12) (gos := [go12]) (f := f12) (c := c12) (fx := fx12) ⟨Go.Proofs.Try.func12, by kernel_rfl, rfl, by decide +kernel, rfl, rfl⟩ (by kernel_rfl) (Table.ok T15_ok _) hmix (qf12) f12_eq
noncomputable def T12 : Table := T15.add 12 [⟨gi12, [go12], f12⟩] []
theorem T12_ok : TableOk P T12 := Table.plus T15_ok (es := [⟨gi12, [go12], f12⟩]) ⟨f12_ok, trivial⟩ []

/-! ## 14: erasure/erasureref05.Make -/
noncomputable def c14 : Code := Func.code Go.Proofs.Try.f14
abbrev gi14 : Sg := ⟨[0], [.lf (.sl (.int .i64))], []⟩
abbrev go14 : Sg := ⟨[2], [.lf (.int .i64)], []⟩
def fx14 : List Bool := []
abbrev g14_1 : Sg := ⟨[0, 5, 6, 7], [.lf (.sl (.int .i64)), .lf (.int .i64), .lf (.int .i64), .lf (.int .i64)], []⟩
abbrev o14_1 : Outs := [(.exit 0, ⟨[0, 5, 6], [.lf (.sl (.int .i64)), .lf (.int .i64), .lf (.int .i64)], []⟩)]
noncomputable def b14_1 (x : g14_1.D) : Option (outD ((.normal, g14_1) :: o14_1)) :=
  (if ((decide (x.2.2.2.1 < (((List.length x.1) : Nat) : Int))) = true) then (if ((0 : Int) ≤ x.2.2.2.1) then (if (x.2.2.2.1 < (((List.length x.1) : Nat) : Int)) then (if ((decide ((List.getD x.1 (Int.toNat x.2.2.2.1) (0 : Int)) > (0 : Int))) = true) then (if ((0 : Int) ≤ x.2.2.2.1) then (if (x.2.2.2.1 < (((List.length x.1) : Nat) : Int)) then (if (((List.getD x.1 (Int.toNat x.2.2.2.1) (0 : Int)) == (1 : Int)) = true) then (some (Sum.inl (x.1, ((Go.IntKind.wrap Go.IntKind.i64 (x.2.1 + (1 : Int))), ((Go.IntKind.wrap Go.IntKind.i64 (x.2.2.1 + (1 : Int))), ((Go.IntKind.wrap Go.IntKind.i64 (x.2.2.2.1 + (1 : Int))), Unit.unit))))))
   else (some (Sum.inl (x.1, ((Go.IntKind.wrap Go.IntKind.i64 (x.2.1 + (1 : Int))), (x.2.2.1, ((Go.IntKind.wrap Go.IntKind.i64 (x.2.2.2.1 + (1 : Int))), Unit.unit)))))))
   else none)
   else none)
   else (if ((0 : Int) ≤ x.2.2.2.1) then (if (x.2.2.2.1 < (((List.length x.1) : Nat) : Int)) then (if (((List.getD x.1 (Int.toNat x.2.2.2.1) (0 : Int)) == (1 : Int)) = true) then (some (Sum.inl (x.1, (x.2.1, ((Go.IntKind.wrap Go.IntKind.i64 (x.2.2.1 + (1 : Int))), ((Go.IntKind.wrap Go.IntKind.i64 (x.2.2.2.1 + (1 : Int))), Unit.unit))))))
   else (some (Sum.inl (x.1, (x.2.1, (x.2.2.1, ((Go.IntKind.wrap Go.IntKind.i64 (x.2.2.2.1 + (1 : Int))), Unit.unit)))))))
   else none)
   else none))
   else none)
   else none)
   else (some (Sum.inr (Sum.inl (x.1, (x.2.1, (x.2.2.1, Unit.unit)))))))
theorem b14_1_eq (x : g14_1.D) : b14_1 x = evF P (T12.orc _) Go.Proofs.Try.f14.ntmps fx14 (Code.at [true, true, true, true, true, false, true, false, false] c14) (planAt 64 []) g14_1 x (injK fx14 ((.normal, g14_1) :: o14_1) some) := by kernel_rfl
noncomputable def l14_1 : g14_1.D → Option (outD o14_1) := loopN g14_1 o14_1 b14_1 18446744073709551616
theorem at14_1 : Code.at [true, true, true, true, true, false, true, false] c14 = .loop (Code.at [true, true, true, true, true, false, true, false, false] c14) := by kernel_rfl
theorem s14_1_ok : SubOk P Go.Proofs.Try.f14.ntmps fx14 (Code.at [true, true, true, true, true, false, true, false] c14) ⟨g14_1, o14_1, l14_1⟩ := by
  rw [at14_1]
  exact loop_ok (sub_ok (g := g14_1) (outs := ((.normal, g14_1) :: o14_1)) (f := b14_1) (Table.ok T12_ok _) hmix (planAt_ok (P := P) (n := Go.Proofs.Try.f14.ntmps) (fx := fx14) (c := (Code.at [true, true, true, true, true, false, true, false, false] c14)) (d := 64) (l := []) trivial) b14_1_eq) rfl _
noncomputable def f14 (x : gi14.D) : Option go14.D :=
  (Option.bind (Go.Ev.Huff.f10 (x.1, Unit.unit)) (fun y1 => (if ((y1.1 != (0 : Int)) = true) then (some (y1.1, Unit.unit))
   else (Option.bind (Go.Ev.Huff.l14_1 (x.1, ((0 : Int), ((0 : Int), ((0 : Int), Unit.unit))))) (Sum.elim (fun y2 => (Option.bind (Go.Ev.Huff.f28 (y2.1, Unit.unit)) (fun y3 => (if ((y3.1 == (32768 : Int)) = true) then (some ((0 : Int), Unit.unit))
   else (if ((y2.2.1 == (0 : Int)) = true) then (some ((0 : Int), Unit.unit))
   else (if ((y2.2.1 == (1 : Int)) = true) then (if ((y2.2.2.1 == (1 : Int)) = true) then (some ((0 : Int), Unit.unit))
   else (some ((4 : Int), Unit.unit)))
   else (some ((4 : Int), Unit.unit)))))))) Empty.elim)))))
theorem f14_eq (x : gi14.D) : f14 x = evF P (T12.orc _) Go.Proofs.Try.f14.ntmps fx14 c14 (planAt 64 [([true, true, true, true, true, false, true, false], ⟨g14_1, o14_1, l14_1⟩)]) gi14 x (fnK fx14 [go14]) := by kernel_rfl
theorem pf14 : AllSub P Go.Proofs.Try.f14.ntmps fx14 c14 [([true, true, true, true, true, false, true, false], ⟨g14_1, o14_1, l14_1⟩)] := And.intro s14_1_ok (trivial)
theorem qf14 : PlanOk P Go.Proofs.Try.f14.ntmps fx14 (planAt 64 [([true, true, true, true, true, false, true, false], ⟨g14_1, o14_1, l14_1⟩)]) c14 := planAt_ok pf14
theorem f14_ok : EntOk P 14 ⟨gi14, [go14], f14⟩ :=
  ent_ok (fn := Go.Proofs.Try.f14) (gi := gi14) (gos := [go14]) (f := f14) (c := c14) (fx := fx14) ⟨Go.Proofs.Try.func14, by kernel_rfl, rfl, by decide +kernel, rfl, rfl⟩ (by kernel_rfl) (Table.ok T12_ok _) hmix (qf14) f14_eq
noncomputable def T14 : Table := T12.add 14 [⟨gi14, [go14], f14⟩] []
theorem T14_ok : TableOk P T14 := Table.plus T12_ok (es := [⟨gi14, [go14], f14⟩]) ⟨f14_ok, trivial⟩ []

/-! ## 16: erasure/erasureref05.Fixed -/
noncomputable def c16 : Code := Func.code Go.Proofs.Try.f16
abbrev gi16 : Sg := ⟨[], [], []⟩
abbrev go16 : Sg := ⟨[0], [.lf (.gr (.int .i64) 0)], [some (.arr true (.int .i64))]⟩
def fx16 : List Bool := []
abbrev g16_2 : Sg := ⟨[1, 2, 3], [.lf (.gr (.int .i64) 0), .lf (.int .i64), .lf (.int .i64)], [some (.arr true (.int .i64))]⟩
abbrev o16_2 : Outs := [(.normal, ⟨[1, 2, 3], [.lf (.gr (.int .i64) 0), .lf (.int .i64), .lf (.int .i64)], [some (.arr true (.int .i64))]⟩)]
noncomputable def b16_2 (x : g16_2.D) : Option (outD o16_2) :=
  (if ((decide (x.1 > (143 : Int))) = true) then (if ((decide (x.1 < (256 : Int))) = true) then (if ((List.length x.2.2.1) = (List.length x.2.2.1)) then (some (Sum.inl (x.1, ((9 : Int), (x.2.2.1, Unit.unit)))))
   else none)
   else (if ((List.length x.2.2.1) = (List.length x.2.2.1)) then (some (Sum.inl (x.1, (x.2.1, (x.2.2.1, Unit.unit)))))
   else none))
   else (if ((List.length x.2.2.1) = (List.length x.2.2.1)) then (some (Sum.inl (x.1, (x.2.1, (x.2.2.1, Unit.unit)))))
   else none))
theorem b16_2_eq (x : g16_2.D) : b16_2 x = evF P (T14.orc _) Go.Proofs.Try.f16.ntmps fx16 (Code.at [true, true, false, true, false, false, true, false, false, true, false] c16) (planAt 64 []) g16_2 x (injK fx16 o16_2 some) := by kernel_rfl
theorem s16_2_ok : SubOk P Go.Proofs.Try.f16.ntmps fx16 (Code.at [true, true, false, true, false, false, true, false, false, true, false] c16) ⟨g16_2, o16_2, b16_2⟩ :=
  sub_ok (g := g16_2) (outs := o16_2) (f := b16_2) (Table.ok T14_ok _) hmix (planAt_ok (P := P) (n := Go.Proofs.Try.f16.ntmps) (fx := fx16) (c := (Code.at [true, true, false, true, false, false, true, false, false, true, false] c16)) (d := 64) (l := []) trivial) b16_2_eq
abbrev g16_1 : Sg := ⟨[1, 2], [.lf (.gr (.int .i64) 0), .lf (.int .i64)], [some (.arr true (.int .i64))]⟩
abbrev o16_1 : Outs := [(.exit 0, ⟨[1], [.lf (.gr (.int .i64) 0)], [some (.arr true (.int .i64))]⟩)]
noncomputable def b16_1 (x : g16_1.D) : Option (outD ((.normal, g16_1) :: o16_1)) :=
  (if ((decide (x.1 < (288 : Int))) = true) then (if ((List.length x.2.1) = (List.length x.2.1)) then (Option.bind (Go.Ev.Huff.b16_2 (x.1, ((8 : Int), (x.2.1, Unit.unit)))) (Sum.elim (fun y1 => (if ((decide (y1.1 > (255 : Int))) = true) then (if ((decide (y1.1 < (280 : Int))) = true) then (if (((List.length (List.take (List.length y1.2.2.1) (List.drop (0 : Nat) y1.2.2.1))) + (1 : Nat)) ≤ (17592186044416 : Nat)) then (if ((List.length ((List.take (List.length y1.2.2.1) (List.drop (0 : Nat) y1.2.2.1)) ++ (List.take (1 : Nat) (List.drop (0 : Nat) (List.set (List.replicate (1 : Nat) (0 : Int)) (0 : Nat) (7 : Int)))))) = (List.length ((List.take (List.length y1.2.2.1) (List.drop (0 : Nat) y1.2.2.1)) ++ (List.take (1 : Nat) (List.drop (0 : Nat) (List.set (List.replicate (1 : Nat) (0 : Int)) (0 : Nat) (7 : Int))))))) then (some (Sum.inl ((Go.IntKind.wrap Go.IntKind.i64 (y1.1 + (1 : Int))), (((List.take (List.length y1.2.2.1) (List.drop (0 : Nat) y1.2.2.1)) ++ (List.take (1 : Nat) (List.drop (0 : Nat) (List.set (List.replicate (1 : Nat) (0 : Int)) (0 : Nat) (7 : Int))))), Unit.unit))))
   else none)
   else none)
   else (if (((List.length (List.take (List.length y1.2.2.1) (List.drop (0 : Nat) y1.2.2.1))) + (List.length (List.take (1 : Nat) (List.drop (0 : Nat) (List.set (List.replicate (1 : Nat) (0 : Int)) (0 : Nat) y1.2.1))))) ≤ (17592186044416 : Nat)) then (if ((List.length ((List.take (List.length y1.2.2.1) (List.drop (0 : Nat) y1.2.2.1)) ++ (List.take (1 : Nat) (List.drop (0 : Nat) (List.set (List.replicate (1 : Nat) (0 : Int)) (0 : Nat) y1.2.1))))) = (List.length ((List.take (List.length y1.2.2.1) (List.drop (0 : Nat) y1.2.2.1)) ++ (List.take (1 : Nat) (List.drop (0 : Nat) (List.set (List.replicate (1 : Nat) (0 : Int)) (0 : Nat) y1.2.1)))))) then (some (Sum.inl ((Go.IntKind.wrap Go.IntKind.i64 (y1.1 + (1 : Int))), (((List.take (List.length y1.2.2.1) (List.drop (0 : Nat) y1.2.2.1)) ++ (List.take (1 : Nat) (List.drop (0 : Nat) (List.set (List.replicate (1 : Nat) (0 : Int)) (0 : Nat) y1.2.1)))), Unit.unit))))
   else none)
   else none))
   else (if (((List.length (List.take (List.length y1.2.2.1) (List.drop (0 : Nat) y1.2.2.1))) + (List.length (List.take (1 : Nat) (List.drop (0 : Nat) (List.set (List.replicate (1 : Nat) (0 : Int)) (0 : Nat) y1.2.1))))) ≤ (17592186044416 : Nat)) then (if ((List.length ((List.take (List.length y1.2.2.1) (List.drop (0 : Nat) y1.2.2.1)) ++ (List.take (1 : Nat) (List.drop (0 : Nat) (List.set (List.replicate (1 : Nat) (0 : Int)) (0 : Nat) y1.2.1))))) = (List.length ((List.take (List.length y1.2.2.1) (List.drop (0 : Nat) y1.2.2.1)) ++ (List.take (1 : Nat) (List.drop (0 : Nat) (List.set (List.replicate (1 : Nat) (0 : Int)) (0 : Nat) y1.2.1)))))) then (some (Sum.inl ((Go.IntKind.wrap Go.IntKind.i64 (y1.1 + (1 : Int))), (((List.take (List.length y1.2.2.1) (List.drop (0 : Nat) y1.2.2.1)) ++ (List.take (1 : Nat) (List.drop (0 : Nat) (List.set (List.replicate (1 : Nat) (0 : Int)) (0 : Nat) y1.2.1)))), Unit.unit))))
   else none)
   else none))) Empty.elim))
   else none)
   else (if ((List.length x.2.1) = (List.length x.2.1)) then (some (Sum.inr (Sum.inl (x.2.1, Unit.unit))))
   else none))
theorem b16_1_eq (x : g16_1.D) : b16_1 x = evF P (T14.orc _) Go.Proofs.Try.f16.ntmps fx16 (Code.at [true, true, false, true, false, false] c16) (planAt 64 [([true, false, false, true, false], ⟨g16_2, o16_2, b16_2⟩)]) g16_1 x (injK fx16 ((.normal, g16_1) :: o16_1) some) := by kernel_rfl
noncomputable def l16_1 : g16_1.D → Option (outD o16_1) := loopN g16_1 o16_1 b16_1 18446744073709551616
theorem p16_1 : AllSub P Go.Proofs.Try.f16.ntmps fx16 (Code.at [true, true, false, true, false, false] c16) [([true, false, false, true, false], ⟨g16_2, o16_2, b16_2⟩)] := And.intro s16_2_ok (trivial)
theorem q16_1 : PlanOk P Go.Proofs.Try.f16.ntmps fx16 (planAt 64 [([true, false, false, true, false], ⟨g16_2, o16_2, b16_2⟩)]) (Code.at [true, true, false, true, false, false] c16) := planAt_ok p16_1
theorem at16_1 : Code.at [true, true, false, true, false] c16 = .loop (Code.at [true, true, false, true, false, false] c16) := by kernel_rfl
theorem s16_1_ok : SubOk P Go.Proofs.Try.f16.ntmps fx16 (Code.at [true, true, false, true, false] c16) ⟨g16_1, o16_1, l16_1⟩ := by
  rw [at16_1]
  exact loop_ok (sub_ok (g := g16_1) (outs := ((.normal, g16_1) :: o16_1)) (f := b16_1) (Table.ok T14_ok _) hmix (q16_1) b16_1_eq) rfl _
noncomputable def f16 (_ : gi16.D) : Option go16.D :=
  (Option.bind (Go.Ev.Huff.l16_1 ((0 : Int), ([], Unit.unit))) (Sum.elim (fun y1 => (if ((List.length y1.1) = (List.length y1.1)) then (some (y1.1, Unit.unit))
   else none)) Empty.elim))
theorem f16_eq (x : gi16.D) : f16 x = evF P (T14.orc _) Go.Proofs.Try.f16.ntmps fx16 c16 (planAt 64 [([true, true, false, true, false], ⟨g16_1, o16_1, l16_1⟩)]) gi16 x (fnK fx16 [go16]) := by kernel_rfl
theorem pf16 : AllSub P Go.Proofs.Try.f16.ntmps fx16 c16 [([true, true, false, true, false], ⟨g16_1, o16_1, l16_1⟩)] := And.intro s16_1_ok (trivial)
theorem qf16 : PlanOk P Go.Proofs.Try.f16.ntmps fx16 (planAt 64 [([true, true, false, true, false], ⟨g16_1, o16_1, l16_1⟩)]) c16 := planAt_ok pf16
theorem f16_ok : EntOk P 16 ⟨gi16, [go16], f16⟩ :=
  ent_ok (fn := Go.Proofs.Try.f16) (gi := gi16) (gos := [go16]) (f := f16) (c := c16) (fx := fx16) ⟨Go.Proofs.Try.func16, by kernel_rfl, rfl, by decide +kernel, rfl, rfl⟩ (by kernel_rfl) (Table.ok T14_ok _) hmix (qf16) f16_eq
noncomputable def T16 : Table := T14.add 16 [⟨gi16, [go16], f16⟩] []
theorem T16_ok : TableOk P T16 := Table.plus T14_ok (es := [⟨gi16, [go16], f16⟩]) ⟨f16_ok, trivial⟩ []

/-! ## 3: erasure/erasurelaw05.HuffCodes -/
noncomputable def c3 : Code := Func.code Go.Proofs.Try.f3
abbrev gi3 : Sg := ⟨[0], [.lf (.sl (.int .i64))], []⟩
abbrev go3 : Sg := ⟨[2], [.lf .bool], []⟩
def fx3 : List Bool := []
abbrev g3_1 : Sg := ⟨[0, 3, 4, 5, 6, 7], [.lf (.sl (.int .i64)), .lf (.sl (.int .i64)), .lf (.sl (.int .i64)), .lf (.int .i64), .lf (.sl (.int .i64)), .lf (.int .i64)], []⟩
abbrev o3_1 : Outs := [(.normal, ⟨[0, 3, 4, 5, 6, 7, 8, 9], [.lf (.sl (.int .i64)), .lf (.sl (.int .i64)), .lf (.sl (.int .i64)), .lf (.int .i64), .lf (.sl (.int .i64)), .lf (.int .i64), .lf .nilp, .lf (.int .i64)], []⟩), (.normal, ⟨[0, 3, 4, 5, 6, 7, 8, 9], [.lf (.sl (.int .i64)), .lf (.sl (.int .i64)), .lf (.sl (.int .i64)), .lf (.int .i64), .lf (.sl (.int .i64)), .lf (.int .i64), .lf (.ptr 0 0), .lf (.int .i64)], [some (.box true [.many (.int .i64) 16, .lf (.sl (.int .i64)), .lf (.sl (.int .i64)), .lf (.gr (.int .i64) 1)]), some (.arr true (.int .i64))]⟩)]
noncomputable def b3_1 (x : g3_1.D) : Option (outD o3_1) :=
  (Option.bind (Go.Ev.Huff.f11 (x.2.1, Unit.unit)) (Sum.elim (fun y1 => (some (Sum.inl (x.1, (x.2.1, (x.2.2.1, (x.2.2.2.1, (x.2.2.2.2.1, (x.2.2.2.2.2.1, (y1.1, Unit.unit)))))))))) (fun y1 => (if ((List.length y1.2.2.2.2.1) = (List.length y1.2.2.2.2.1)) then (some (Sum.inr (Sum.inl (x.1, (x.2.1, (x.2.2.1, (x.2.2.2.1, (x.2.2.2.2.1, (x.2.2.2.2.2.1, (y1.1, (y1.2.1, (y1.2.2.1, (y1.2.2.2.1, (y1.2.2.2.2.1, Unit.unit))))))))))))))
   else none))))
theorem b3_1_eq (x : g3_1.D) : b3_1 x = evF P (T16.orc _) Go.Proofs.Try.f3.ntmps fx3 (Code.at [true, true, true, true, true, false] c3) (planAt 64 []) g3_1 x (injK fx3 o3_1 some) := by kernel_rfl
theorem s3_1_ok : SubOk P Go.Proofs.Try.f3.ntmps fx3 (Code.at [true, true, true, true, true, false] c3) ⟨g3_1, o3_1, b3_1⟩ :=
  sub_ok (g := g3_1) (outs := o3_1) (f := b3_1) (Table.ok T16_ok _) hmix (planAt_ok (P := P) (n := Go.Proofs.Try.f3.ntmps) (fx := fx3) (c := (Code.at [true, true, true, true, true, false] c3)) (d := 64) (l := []) trivial) b3_1_eq
noncomputable def f3 (x : gi3.D) : Option go3.D :=
  (if ((decide ((((List.length x.1) : Nat) : Int) > (400 : Int))) = true) then (some (true, Unit.unit))
   else (Option.bind (Go.Ev.Huff.f8 (x.1, Unit.unit)) (fun y1 => (Option.bind (Go.Ev.Huff.f9 ((List.take (List.length y1.1) (List.drop (0 : Nat) y1.1)), Unit.unit)) (fun y2 => (Option.bind (Go.Ev.Huff.f10 (x.1, Unit.unit)) (fun y3 => (Option.bind (Go.Ev.Huff.b3_1 (x.1, ((List.take (List.length y1.1) (List.drop (0 : Nat) y1.1)), ((List.take (List.length y2.2.1) (List.drop (0 : Nat) y2.2.1)), (y2.1, ((List.take (List.length y3.2.1) (List.drop (0 : Nat) y3.2.1)), (y3.1, Unit.unit))))))) (Sum.elim (fun y4 => (Option.bind (Go.Ev.Huff.f12 Unit.unit) (fun y5 => (if (y5.1 = true) then (Option.bind (Go.Ev.Huff.f13 (y4.2.1, (y4.1, Unit.unit))) (fun y6 => (if (y6.1 = true) then (Option.bind (Go.Ev.Huff.f13 (y4.2.2.1, (y4.2.2.2.2.1, Unit.unit))) (fun y7 => (if (y7.1 = true) then (if ((y4.2.2.2.1 == y4.2.2.2.2.2.1) = true) then (Option.bind (Go.Ev.Huff.f14 (y4.1, Unit.unit)) (fun y8 => (if ((y4.2.2.2.2.2.2.1 == y8.1) = true) then (if ((false == (y4.2.2.2.2.2.2.1 == (0 : Int))) = true) then (Option.bind (Go.Ev.Huff.f15 Unit.unit) (fun y9 => (Option.bind (Go.Ev.Huff.f16 Unit.unit) (fun y10 => (Option.bind (Go.Ev.Huff.f13 ((List.take (List.length y9.1) (List.drop (0 : Nat) y9.1)), ((List.take (List.length y10.1) (List.drop (0 : Nat) y10.1)), Unit.unit))) (fun y11 => (some (y11.1, Unit.unit))))))))
   else (some (false, Unit.unit)))
   else (some (false, Unit.unit)))))
   else (some (false, Unit.unit)))
   else (some (false, Unit.unit)))))
   else (some (false, Unit.unit)))))
   else (some (false, Unit.unit)))))) (Sum.elim (fun y4 => (Option.bind (Go.Ev.Huff.f12 Unit.unit) (fun y5 => (if (y5.1 = true) then (Option.bind (Go.Ev.Huff.f13 (y4.2.1, (y4.1, Unit.unit))) (fun y6 => (if (y6.1 = true) then (Option.bind (Go.Ev.Huff.f13 (y4.2.2.1, (y4.2.2.2.2.1, Unit.unit))) (fun y7 => (if (y7.1 = true) then (if ((y4.2.2.2.1 == y4.2.2.2.2.2.1) = true) then (Option.bind (Go.Ev.Huff.f14 (y4.1, Unit.unit)) (fun y8 => (if ((y4.2.2.2.2.2.2.1 == y8.1) = true) then (if ((true == (y4.2.2.2.2.2.2.1 == (0 : Int))) = true) then (Option.bind (Go.Ev.Huff.f15 Unit.unit) (fun y9 => (Option.bind (Go.Ev.Huff.f16 Unit.unit) (fun y10 => (Option.bind (Go.Ev.Huff.f13 ((List.take (List.length y9.1) (List.drop (0 : Nat) y9.1)), ((List.take (List.length y10.1) (List.drop (0 : Nat) y10.1)), Unit.unit))) (fun y11 => (some (y11.1, Unit.unit))))))))
   else (some (false, Unit.unit)))
   else (some (false, Unit.unit)))))
   else (some (false, Unit.unit)))
   else (some (false, Unit.unit)))))
   else (some (false, Unit.unit)))))
   else (some (false, Unit.unit)))))) Empty.elim))))))))))
theorem f3_eq (x : gi3.D) : f3 x = evF P (T16.orc _) Go.Proofs.Try.f3.ntmps fx3 c3 (planAt 64 [([true, true, true, true, true, false], ⟨g3_1, o3_1, b3_1⟩)]) gi3 x (fnK fx3 [go3]) := by kernel_rfl
theorem pf3 : AllSub P Go.Proofs.Try.f3.ntmps fx3 c3 [([true, true, true, true, true, false], ⟨g3_1, o3_1, b3_1⟩)] := And.intro s3_1_ok (trivial)
theorem qf3 : PlanOk P Go.Proofs.Try.f3.ntmps fx3 (planAt 64 [([true, true, true, true, true, false], ⟨g3_1, o3_1, b3_1⟩)]) c3 := planAt_ok pf3
theorem f3_ok : EntOk P 3 ⟨gi3, [go3], f3⟩ :=
  ent_ok (fn := Go.Proofs.Try.f3) (gi := gi3) (gos := [go3]) (f := f3) (c := c3) (fx := fx3) ⟨Go.Proofs.Try.func3, by kernel_rfl, rfl, by decide +kernel, rfl, rfl⟩ (by kernel_rfl) (Table.ok T16_ok _) hmix (qf3) f3_eq
noncomputable def T3 : Table := T16.add 3 [⟨gi3, [go3], f3⟩] []
theorem T3_ok : TableOk P T3 := Table.plus T16_ok (es := [⟨gi3, [go3], f3⟩]) ⟨f3_ok, trivial⟩ []

/-! ## 17: erasure/bits.NewWriter -/
noncomputable def c17 : Code := Func.code Go.Proofs.Try.f17
abbrev gi17 : Sg := ⟨[], [], []⟩
abbrev go17 : Sg := ⟨[0], [.lf (.ptr 0 0)], [some (.box true [.lf (.gr (.int .u8) 1), .lf (.int .i64), .lf (.int .i64)]), some (.arr true (.int .u8))]⟩
def fx17 : List Bool := []
noncomputable def f17 (_ : gi17.D) : Option go17.D :=
  (some ((0 : Int), ((0 : Int), ([], Unit.unit))))
theorem f17_eq (x : gi17.D) : f17 x = evF P (T3.orc _) Go.Proofs.Try.f17.ntmps fx17 c17 (planAt 64 []) gi17 x (fnK fx17 [go17]) := by kernel_rfl
theorem f17_ok : EntOk P 17 ⟨gi17, [go17], f17⟩ :=
  ent_ok (fn := Go.Proofs.Try.f17) (gi := gi17) (gos := [go17]) (f := f17) (c := c17) (fx := fx17) ⟨Go.Proofs.Try.func17, by kernel_rfl, rfl, by decide +kernel, rfl, rfl⟩ (by kernel_rfl) (Table.ok T3_ok _) hmix (planAt_ok (P := P) (n := Go.Proofs.Try.f17.ntmps) (fx := fx17) (c := c17) (d := 64) (l := []) trivial) f17_eq
noncomputable def T17 : Table := T3.add 17 [⟨gi17, [go17], f17⟩] []
theorem T17_ok : TableOk P T17 := Table.plus T3_ok (es := [⟨gi17, [go17], f17⟩]) ⟨f17_ok, trivial⟩ []

/-! ## 18: erasure/erasureref05.Word -/
noncomputable def c18 : Code := Func.code Go.Proofs.Try.f18
abbrev gi18 : Sg := ⟨[0, 1], [.lf (.sl (.int .i64)), .lf (.int .i64)], []⟩
abbrev go18 : Sg := ⟨[4], [.lf (.gr .bool 0)], [some (.arr true .bool)]⟩
def fx18 : List Bool := []
abbrev g18_1 : Sg := ⟨[7, 8, 9], [.lf (.gr .bool 0), .lf (.int .i64), .lf (.int .i64)], [some (.arr true .bool)]⟩
abbrev o18_1 : Outs := [(.exit 0, ⟨[7], [.lf (.gr .bool 0)], [some (.arr true .bool)]⟩)]
noncomputable def b18_1 (x : g18_1.D) : Option (outD ((.normal, g18_1) :: o18_1)) :=
  (if ((decide (x.2.1 ≥ (0 : Int))) = true) then (if ((0 : Int) ≤ x.2.1) then (if (x.2.1 < (((List.length x.2.2.1) : Nat) : Int)) then (if ((List.length x.2.2.1) = (List.length (List.set x.2.2.1 ((0 : Nat) + (Int.toNat x.2.1)) ((Int.tmod x.1 (2 : Int)) == (1 : Int))))) then (some (Sum.inl ((Go.IntKind.wrap Go.IntKind.i64 (Int.tdiv x.1 (2 : Int))), ((Go.IntKind.wrap Go.IntKind.i64 (x.2.1 - (1 : Int))), ((List.set x.2.2.1 ((0 : Nat) + (Int.toNat x.2.1)) ((Int.tmod x.1 (2 : Int)) == (1 : Int))), Unit.unit)))))
   else none)
   else none)
   else none)
   else (if ((List.length x.2.2.1) = (List.length x.2.2.1)) then (some (Sum.inr (Sum.inl (x.2.2.1, Unit.unit))))
   else none))
theorem b18_1_eq (x : g18_1.D) : b18_1 x = evF P (T17.orc _) Go.Proofs.Try.f18.ntmps fx18 (Code.at [true, true, true, true, true, false, true, false, false] c18) (planAt 64 []) g18_1 x (injK fx18 ((.normal, g18_1) :: o18_1) some) := by kernel_rfl
noncomputable def l18_1 : g18_1.D → Option (outD o18_1) := loopN g18_1 o18_1 b18_1 18446744073709551616
theorem at18_1 : Code.at [true, true, true, true, true, false, true, false] c18 = .loop (Code.at [true, true, true, true, true, false, true, false, false] c18) := by kernel_rfl
theorem s18_1_ok : SubOk P Go.Proofs.Try.f18.ntmps fx18 (Code.at [true, true, true, true, true, false, true, false] c18) ⟨g18_1, o18_1, l18_1⟩ := by
  rw [at18_1]
  exact loop_ok (sub_ok (g := g18_1) (outs := ((.normal, g18_1) :: o18_1)) (f := b18_1) (Table.ok T17_ok _) hmix (planAt_ok (P := P) (n := Go.Proofs.Try.f18.ntmps) (fx := fx18) (c := (Code.at [true, true, true, true, true, false, true, false, false] c18)) (d := 64) (l := []) trivial) b18_1_eq) rfl _
noncomputable def f18 (x : gi18.D) : Option go18.D :=
  (if ((decide (x.2.1 < (0 : Int))) = true) then (some ([], Unit.unit))
   else (if ((decide (x.2.1 ≥ (((List.length x.1) : Nat) : Int))) = true) then (some ([], Unit.unit))
   else (if ((0 : Int) ≤ x.2.1) then (if (x.2.1 < (((List.length x.1) : Nat) : Int)) then (if (((List.getD x.1 (Int.toNat x.2.1) (0 : Int)) == (0 : Int)) = true) then (some ([], Unit.unit))
   else (Option.bind (Go.Ev.Huff.f10 (x.1, Unit.unit)) (fun y1 => (if ((0 : Int) ≤ x.2.1) then (if (x.2.1 < (((List.length x.1) : Nat) : Int)) then (if ((0 : Int) ≤ (List.getD x.1 (Int.toNat x.2.1) (0 : Int))) then (if ((List.getD x.1 (Int.toNat x.2.1) (0 : Int)) ≤ (List.getD x.1 (Int.toNat x.2.1) (0 : Int))) then (if ((List.getD x.1 (Int.toNat x.2.1) (0 : Int)) ≤ (281474976710656 : Int)) then (if ((0 : Int) ≤ x.2.1) then (if (x.2.1 < (((List.length y1.2.1) : Nat) : Int)) then (if ((0 : Int) ≤ x.2.1) then (if (x.2.1 < (((List.length x.1) : Nat) : Int)) then (if ((Int.toNat (List.getD x.1 (Int.toNat x.2.1) (0 : Int))) = (List.length (List.replicate (Int.toNat (List.getD x.1 (Int.toNat x.2.1) (0 : Int))) false))) then (Option.bind (Go.Ev.Huff.l18_1 ((List.getD y1.2.1 ((0 : Nat) + (Int.toNat x.2.1)) (0 : Int)), ((Go.IntKind.wrap Go.IntKind.i64 ((List.getD x.1 (Int.toNat x.2.1) (0 : Int)) - (1 : Int))), ((List.replicate (Int.toNat (List.getD x.1 (Int.toNat x.2.1) (0 : Int))) false), Unit.unit)))) (Sum.elim (fun y2 => (if ((List.length y2.1) = (List.length y2.1)) then (some (y2.1, Unit.unit))
   else none)) Empty.elim))
   else none)
   else none)
   else none)
   else none)
   else none)
   else none)
   else none)
   else none)
   else none)
   else none))))
   else none)
   else none)))
theorem f18_eq (x : gi18.D) : f18 x = evF P (T17.orc _) Go.Proofs.Try.f18.ntmps fx18 c18 (planAt 64 [([true, true, true, true, true, false, true, false], ⟨g18_1, o18_1, l18_1⟩)]) gi18 x (fnK fx18 [go18]) := by kernel_rfl
theorem pf18 : AllSub P Go.Proofs.Try.f18.ntmps fx18 c18 [([true, true, true, true, true, false, true, false], ⟨g18_1, o18_1, l18_1⟩)] := And.intro s18_1_ok (trivial)
theorem qf18 : PlanOk P Go.Proofs.Try.f18.ntmps fx18 (planAt 64 [([true, true, true, true, true, false, true, false], ⟨g18_1, o18_1, l18_1⟩)]) c18 := planAt_ok pf18
theorem f18_ok : EntOk P 18 ⟨gi18, [go18], f18⟩ :=
  ent_ok (fn := Go.Proofs.Try.f18) (gi := gi18) (gos := [go18]) (f := f18) (c := c18) (fx := fx18) ⟨Go.Proofs.Try.func18, by kernel_rfl, rfl, by decide +kernel, rfl, rfl⟩ (by kernel_rfl) (Table.ok T17_ok _) hmix (qf18) f18_eq
noncomputable def T18 : Table := T17.add 18 [⟨gi18, [go18], f18⟩] []
theorem T18_ok : TableOk P T18 := Table.plus T17_ok (es := [⟨gi18, [go18], f18⟩]) ⟨f18_ok, trivial⟩ []

/-! ## 31: (*erasure/huff.Table).Put$1 -/
noncomputable def c31 : Code := Func.code Go.Proofs.Try.f31
abbrev gi31 : Sg := ⟨[0, 1, 2], [.lf (.int .i64), .lf (.ptr 0 0), .lf (.ptr 3 0)], [some (.box true [.lf (.ptr 1 0)]), some (.box true [.many (.int .i64) 16, .lf (.sl (.int .i64)), .lf (.sl (.int .i64)), .lf (.gr (.int .i64) 2)]), some (.arr true (.int .i64)), some (.box true [.lf (.int .i64)])]⟩
abbrev go31 : Sg := ⟨[4], [.lf (.int .i64)], [some (.box true [.lf (.ptr 1 0)]), some (.box true [.many (.int .i64) 16, .lf (.sl (.int .i64)), .lf (.sl (.int .i64)), .lf (.gr (.int .i64) 2)]), some (.arr true (.int .i64)), some (.box true [.lf (.int .i64)])]⟩
def fx31 : List Bool := [true, true, true, true]
noncomputable def f31 (x : gi31.D) : Option go31.D :=
  (if ((0 : Int) ≤ x.2.2.2.2.2.1) then (if (x.2.2.2.2.2.1 < (((List.length x.2.2.2.1) : Nat) : Int)) then (if ((0 : Int) ≤ x.2.2.2.2.2.1) then (if (x.2.2.2.2.2.1 < (((List.length x.2.2.1) : Nat) : Int)) then (if ((Go.IntKind.wrap Go.IntKind.i64 ((Go.IntKind.wrap Go.IntKind.i64 ((List.getD x.2.2.1 (Int.toNat x.2.2.2.2.2.1) (0 : Int)) - (1 : Int))) - x.1)) < (0 : Int)) then none
   else (if ((List.length x.2.2.2.2.1) = (List.length x.2.2.2.2.1)) then (some ((Go.IntKind.wrap Go.IntKind.i64 (((BitVec.toNat ((BitVec.ofInt (64 : Nat) (Int.fdiv (List.getD x.2.2.2.1 (Int.toNat x.2.2.2.2.2.1) (0 : Int)) ((2 : Int) ^ (Min.min (Int.toNat (Go.IntKind.wrap Go.IntKind.i64 ((Go.IntKind.wrap Go.IntKind.i64 ((List.getD x.2.2.1 (Int.toNat x.2.2.2.2.2.1) (0 : Int)) - (1 : Int))) - x.1))) (64 : Nat))))) &&& (BitVec.ofInt (64 : Nat) (1 : Int)))) : Nat) : Int)), (x.2.1, (x.2.2.1, (x.2.2.2.1, (x.2.2.2.2.1, (x.2.2.2.2.2.1, Unit.unit)))))))
   else none))
   else none)
   else none)
   else none)
   else none)
theorem f31_eq (x : gi31.D) : f31 x = evF P (T18.orc _) Go.Proofs.Try.f31.ntmps fx31 c31 (planAt 64 []) gi31 x (fnK fx31 [go31]) := by kernel_rfl
theorem f31_ok : EntOk P 31 ⟨gi31, [go31], f31⟩ :=
  ent_ok (fn := Go.Proofs.Try.f31) (gi := gi31) (gos := [go31]) (f := f31) (c := c31) (fx := fx31) ⟨Go.Proofs.Try.func31, by kernel_rfl, rfl, by decide +kernel, rfl, rfl⟩ (by kernel_rfl) (Table.ok T18_ok _) hmix (planAt_ok (P := P) (n := Go.Proofs.Try.f31.ntmps) (fx := fx31) (c := c31) (d := 64) (l := []) trivial) f31_eq
noncomputable def T31 : Table := T18.add 31 [⟨gi31, [go31], f31⟩] []
theorem T31_ok : TableOk P T31 := Table.plus T18_ok (es := [⟨gi31, [go31], f31⟩]) ⟨f31_ok, trivial⟩ []

/-! ## 32: (*erasure/bits.Writer).Put -/
noncomputable def c32 : Code := Func.code Go.Proofs.Try.f32
abbrev gi32 : Sg := ⟨[0, 1, 2], [.lf (.ptr 0 0), .lf (.int .i64), .lf (.int .i64)], [some (.box true [.lf (.gr (.int .u8) 1), .lf (.int .i64), .lf (.int .i64)]), some (.arr true (.int .u8))]⟩
abbrev go32 : Sg := ⟨[6], [.lf (.int .i64)], [some (.box true [.lf (.gr (.int .u8) 2), .lf (.int .i64), .lf (.int .i64)]), none, some (.arr true (.int .u8))]⟩
def fx32 : List Bool := [true, false]
abbrev g32_1 : Sg := ⟨[0], [.lf (.ptr 0 0)], [some (.box true [.lf (.gr (.int .u8) 2), .lf (.int .i64), .lf (.int .i64)]), none, some (.arr true (.int .u8))]⟩
abbrev o32_1 : Outs := [(.exit 1, ⟨[], [], [some (.box true [.lf (.gr (.int .u8) 2), .lf (.int .i64), .lf (.int .i64)]), none, some (.arr true (.int .u8))]⟩)]
noncomputable def b32_1 (x : g32_1.D) : Option (outD ((.normal, g32_1) :: o32_1)) :=
  (if ((decide (x.2.1 ≥ (8 : Int))) = true) then (if (((List.length (List.take (List.length x.2.2.1) (List.drop (0 : Nat) x.2.2.1))) + (List.length (List.take (1 : Nat) (List.drop (0 : Nat) (List.set (List.replicate (1 : Nat) (0 : Int)) (0 : Nat) (Go.IntKind.wrap Go.IntKind.u8 x.1)))))) ≤ (140737488355328 : Nat)) then (if ((List.length ((List.take (List.length x.2.2.1) (List.drop (0 : Nat) x.2.2.1)) ++ (List.take (1 : Nat) (List.drop (0 : Nat) (List.set (List.replicate (1 : Nat) (0 : Int)) (0 : Nat) (Go.IntKind.wrap Go.IntKind.u8 x.1)))))) = (List.length ((List.take (List.length x.2.2.1) (List.drop (0 : Nat) x.2.2.1)) ++ (List.take (1 : Nat) (List.drop (0 : Nat) (List.set (List.replicate (1 : Nat) (0 : Int)) (0 : Nat) (Go.IntKind.wrap Go.IntKind.u8 x.1))))))) then (some (Sum.inl ((Int.fdiv x.1 (256 : Int)), ((Go.IntKind.wrap Go.IntKind.i64 (x.2.1 - (8 : Int))), (((List.take (List.length x.2.2.1) (List.drop (0 : Nat) x.2.2.1)) ++ (List.take (1 : Nat) (List.drop (0 : Nat) (List.set (List.replicate (1 : Nat) (0 : Int)) (0 : Nat) (Go.IntKind.wrap Go.IntKind.u8 x.1))))), Unit.unit)))))
   else none)
   else none)
   else (if ((List.length x.2.2.1) = (List.length x.2.2.1)) then (some (Sum.inr (Sum.inl (x.1, (x.2.1, (x.2.2.1, Unit.unit))))))
   else none))
theorem b32_1_eq (x : g32_1.D) : b32_1 x = evF P (T31.orc _) Go.Proofs.Try.f32.ntmps fx32 (Code.at [true, true, true, false, true, false, false] c32) (planAt 64 []) g32_1 x (injK fx32 ((.normal, g32_1) :: o32_1) some) := by kernel_rfl
noncomputable def l32_1 : g32_1.D → Option (outD o32_1) := loopN g32_1 o32_1 b32_1 18446744073709551616
theorem at32_1 : Code.at [true, true, true, false, true, false] c32 = .loop (Code.at [true, true, true, false, true, false, false] c32) := by kernel_rfl
theorem s32_1_ok : SubOk P Go.Proofs.Try.f32.ntmps fx32 (Code.at [true, true, true, false, true, false] c32) ⟨g32_1, o32_1, l32_1⟩ := by
  rw [at32_1]
  exact loop_ok (sub_ok (g := g32_1) (outs := ((.normal, g32_1) :: o32_1)) (f := b32_1) (Table.ok T31_ok _) hmix (planAt_ok (P := P) (n := Go.Proofs.Try.f32.ntmps) (fx := fx32) (c := (Code.at [true, true, true, false, true, false, false] c32)) (d := 64) (l := []) trivial) b32_1_eq) rfl _
noncomputable def f32 (x : gi32.D) : Option go32.D :=
  (if ((decide (x.2.1 < (0 : Int))) = true) then (if ((List.length x.2.2.2.2.1) = (List.length x.2.2.2.2.1)) then (some ((1 : Int), (x.2.2.1, (x.2.2.2.1, (x.2.2.2.2.1, Unit.unit)))))
   else none)
   else (if ((decide (x.2.1 > (24 : Int))) = true) then (if ((List.length x.2.2.2.2.1) = (List.length x.2.2.2.2.1)) then (some ((1 : Int), (x.2.2.1, (x.2.2.2.1, (x.2.2.2.2.1, Unit.unit)))))
   else none)
   else (if ((decide (x.1 < (0 : Int))) = true) then (if ((List.length x.2.2.2.2.1) = (List.length x.2.2.2.2.1)) then (some ((1 : Int), (x.2.2.1, (x.2.2.2.1, (x.2.2.2.2.1, Unit.unit)))))
   else none)
   else (if (x.2.1 < (0 : Int)) then none
   else (if (((Int.fdiv x.1 ((2 : Int) ^ (Min.min (Int.toNat x.2.1) (64 : Nat)))) != (0 : Int)) = true) then (if ((List.length x.2.2.2.2.1) = (List.length x.2.2.2.2.1)) then (some ((1 : Int), (x.2.2.1, (x.2.2.2.1, (x.2.2.2.2.1, Unit.unit)))))
   else none)
   else (if (x.2.2.2.1 < (0 : Int)) then none
   else (if ((List.length x.2.2.2.2.1) = (List.length x.2.2.2.2.1)) then (Option.bind (Go.Ev.Huff.l32_1 ((Go.IntKind.wrap Go.IntKind.i64 (((BitVec.toNat ((BitVec.ofInt (64 : Nat) x.2.2.1) ||| (BitVec.ofInt (64 : Nat) (Go.IntKind.wrap Go.IntKind.i64 (x.1 * ((2 : Int) ^ (Min.min (Int.toNat x.2.2.2.1) (64 : Nat)))))))) : Nat) : Int)), ((Go.IntKind.wrap Go.IntKind.i64 (x.2.2.2.1 + x.2.1)), (x.2.2.2.2.1, Unit.unit)))) (Sum.elim (fun y1 => (if ((List.length y1.2.2.1) = (List.length y1.2.2.1)) then (some ((0 : Int), (y1.1, (y1.2.1, (y1.2.2.1, Unit.unit)))))
   else none)) Empty.elim))
   else none)))))))
theorem f32_eq (x : gi32.D) : f32 x = evF P (T31.orc _) Go.Proofs.Try.f32.ntmps fx32 c32 (planAt 64 [([true, true, true, false, true, false], ⟨g32_1, o32_1, l32_1⟩)]) gi32 x (fnK fx32 [go32]) := by kernel_rfl
theorem pf32 : AllSub P Go.Proofs.Try.f32.ntmps fx32 c32 [([true, true, true, false, true, false], ⟨g32_1, o32_1, l32_1⟩)] := And.intro s32_1_ok (trivial)
theorem qf32 : PlanOk P Go.Proofs.Try.f32.ntmps fx32 (planAt 64 [([true, true, true, false, true, false], ⟨g32_1, o32_1, l32_1⟩)]) c32 := planAt_ok pf32
theorem f32_ok : EntOk P 32 ⟨gi32, [go32], f32⟩ :=
  ent_ok (fn := Go.Proofs.Try.f32) (gi := gi32) (gos := [go32]) (f := f32) (c := c32) (fx := fx32) ⟨Go.Proofs.Try.func32, by kernel_rfl, rfl, by decide +kernel, rfl, rfl⟩ (by kernel_rfl) (Table.ok T31_ok _) hmix (qf32) f32_eq
noncomputable def T32 : Table := T31.add 32 [⟨gi32, [go32], f32⟩] []
theorem T32_ok : TableOk P T32 := Table.plus T31_ok (es := [⟨gi32, [go32], f32⟩]) ⟨f32_ok, trivial⟩ []

/-! ## 19: (*erasure/huff.Table).Put -/
noncomputable def c19 : Code := Func.code Go.Proofs.Try.f19
abbrev gi19 : Sg := ⟨[0, 1, 2], [.lf (.ptr 0 0), .lf (.ptr 2 0), .lf (.int .i64)], [some (.box true [.many (.int .i64) 16, .lf (.sl (.int .i64)), .lf (.sl (.int .i64)), .lf (.gr (.int .i64) 1)]), some (.arr true (.int .i64)), some (.box true [.lf (.gr (.int .u8) 3), .lf (.int .i64), .lf (.int .i64)]), some (.arr true (.int .u8))]⟩
abbrev go19 : Sg := ⟨[6], [.lf (.int .i64)], [some (.box true [.many (.int .i64) 16, .lf (.sl (.int .i64)), .lf (.sl (.int .i64)), .lf (.gr (.int .i64) 1)]), some (.arr true (.int .i64)), some (.box true [.lf (.gr (.int .u8) 4), .lf (.int .i64), .lf (.int .i64)]), none, some (.arr true (.int .u8))]⟩
def fx19 : List Bool := [true, true, true, false]
abbrev g19_1 : Sg := ⟨[1, 7, 46, 47], [.lf (.ptr 2 0), .lf (.fnc 31 [(.ptr 4 0), (.ptr 5 0)]), .lf (.int .i64), .lf (.int .i64)], [some (.box true [.many (.int .i64) 16, .lf (.sl (.int .i64)), .lf (.sl (.int .i64)), .lf (.gr (.int .i64) 1)]), some (.arr true (.int .i64)), some (.box true [.lf (.gr (.int .u8) 6), .lf (.int .i64), .lf (.int .i64)]), none, some (.box true [.lf (.ptr 0 0)]), some (.box true [.lf (.int .i64)]), some (.arr true (.int .u8))]⟩
abbrev o19_1 : Outs := [(.exit 1, ⟨[], [], [some (.box true [.many (.int .i64) 16, .lf (.sl (.int .i64)), .lf (.sl (.int .i64)), .lf (.gr (.int .i64) 1)]), some (.arr true (.int .i64)), some (.box true [.lf (.gr (.int .u8) 4), .lf (.int .i64), .lf (.int .i64)]), none, some (.arr true (.int .u8))]⟩), (.ret, ⟨[6], [.lf (.int .i64)], [some (.box true [.many (.int .i64) 16, .lf (.sl (.int .i64)), .lf (.sl (.int .i64)), .lf (.gr (.int .i64) 1)]), some (.arr true (.int .i64)), some (.box true [.lf (.gr (.int .u8) 4), .lf (.int .i64), .lf (.int .i64)]), none, some (.arr true (.int .u8))]⟩)]
noncomputable def b19_1 (x : g19_1.D) : Option (outD ((.normal, g19_1) :: o19_1)) :=
  (if ((decide (x.2.1 < x.1)) = true) then (if ((List.length x.2.2.2.2.2.1) = (List.length x.2.2.2.2.2.1)) then (Option.bind (Go.Ev.Huff.f31 (x.2.1, (x.2.2.1, (x.2.2.2.1, (x.2.2.2.2.1, (x.2.2.2.2.2.1, (x.2.2.2.2.2.2.2.2.1, Unit.unit))))))) (fun y1 => (if ((List.length x.2.2.2.2.2.2.2.2.2.1) = (List.length x.2.2.2.2.2.2.2.2.2.1)) then (Option.bind (Go.Ev.Huff.f32 (y1.1, ((1 : Int), (x.2.2.2.2.2.2.1, (x.2.2.2.2.2.2.2.1, (x.2.2.2.2.2.2.2.2.2.1, Unit.unit)))))) (fun y2 => (if ((y2.1 != (0 : Int)) = true) then (if ((List.length y1.2.2.2.2.1) = (List.length y1.2.2.2.2.1)) then (if ((List.length y2.2.2.2.1) = (List.length y2.2.2.2.1)) then (some (Sum.inr (Sum.inr (Sum.inl (y2.1, (y1.2.1, (y1.2.2.1, (y1.2.2.2.1, (y1.2.2.2.2.1, (y2.2.1, (y2.2.2.1, (y2.2.2.2.1, Unit.unit))))))))))))
   else none)
   else none)
   else (if ((List.length y1.2.2.2.2.1) = (List.length y1.2.2.2.2.1)) then (if ((List.length y2.2.2.2.1) = (List.length y2.2.2.2.1)) then (some (Sum.inl (x.1, ((Go.IntKind.wrap Go.IntKind.i64 (x.2.1 + (1 : Int))), (y1.2.1, (y1.2.2.1, (y1.2.2.2.1, (y1.2.2.2.2.1, (y2.2.1, (y2.2.2.1, (y1.2.2.2.2.2.1, (y2.2.2.2.1, Unit.unit))))))))))))
   else none)
   else none))))
   else none)))
   else none)
   else (if ((List.length x.2.2.2.2.2.1) = (List.length x.2.2.2.2.2.1)) then (if ((List.length x.2.2.2.2.2.2.2.2.2.1) = (List.length x.2.2.2.2.2.2.2.2.2.1)) then (some (Sum.inr (Sum.inl (x.2.2.1, (x.2.2.2.1, (x.2.2.2.2.1, (x.2.2.2.2.2.1, (x.2.2.2.2.2.2.1, (x.2.2.2.2.2.2.2.1, (x.2.2.2.2.2.2.2.2.2.1, Unit.unit))))))))))
   else none)
   else none))
theorem b19_1_eq (x : g19_1.D) : b19_1 x = evF P (T32.orc _) Go.Proofs.Try.f19.ntmps fx19 (Code.at [true, true, true, false, true, false, false] c19) (planAt 64 []) g19_1 x (injK fx19 ((.normal, g19_1) :: o19_1) some) := by kernel_rfl
noncomputable def l19_1 : g19_1.D → Option (outD o19_1) := loopN g19_1 o19_1 b19_1 18446744073709551616
theorem at19_1 : Code.at [true, true, true, false, true, false] c19 = .loop (Code.at [true, true, true, false, true, false, false] c19) := by kernel_rfl
theorem s19_1_ok : SubOk P Go.Proofs.Try.f19.ntmps fx19 (Code.at [true, true, true, false, true, false] c19) ⟨g19_1, o19_1, l19_1⟩ := by
  rw [at19_1]
  exact loop_ok (sub_ok (g := g19_1) (outs := ((.normal, g19_1) :: o19_1)) (f := b19_1) (Table.ok T32_ok _) hmix (planAt_ok (P := P) (n := Go.Proofs.Try.f19.ntmps) (fx := fx19) (c := (Code.at [true, true, true, false, true, false, false] c19)) (d := 64) (l := []) trivial) b19_1_eq) rfl _
noncomputable def f19 (x : gi19.D) : Option go19.D :=
  (if ((decide (x.1 < (0 : Int))) = true) then (if ((List.length x.2.2.2.2.1) = (List.length x.2.2.2.2.1)) then (if ((List.length x.2.2.2.2.2.2.2.1) = (List.length x.2.2.2.2.2.2.2.1)) then (some ((8 : Int), (x.2.1, (x.2.2.1, (x.2.2.2.1, (x.2.2.2.2.1, (x.2.2.2.2.2.1, (x.2.2.2.2.2.2.1, (x.2.2.2.2.2.2.2.1, Unit.unit)))))))))
   else none)
   else none)
   else (if ((decide (x.1 ≥ (((List.length x.2.2.1) : Nat) : Int))) = true) then (if ((List.length x.2.2.2.2.1) = (List.length x.2.2.2.2.1)) then (if ((List.length x.2.2.2.2.2.2.2.1) = (List.length x.2.2.2.2.2.2.2.1)) then (some ((8 : Int), (x.2.1, (x.2.2.1, (x.2.2.2.1, (x.2.2.2.2.1, (x.2.2.2.2.2.1, (x.2.2.2.2.2.2.1, (x.2.2.2.2.2.2.2.1, Unit.unit)))))))))
   else none)
   else none)
   else (if ((0 : Int) ≤ x.1) then (if (x.1 < (((List.length x.2.2.1) : Nat) : Int)) then (if (((List.getD x.2.2.1 (Int.toNat x.1) (0 : Int)) == (0 : Int)) = true) then (if ((List.length x.2.2.2.2.1) = (List.length x.2.2.2.2.1)) then (if ((List.length x.2.2.2.2.2.2.2.1) = (List.length x.2.2.2.2.2.2.2.1)) then (some ((8 : Int), (x.2.1, (x.2.2.1, (x.2.2.2.1, (x.2.2.2.2.1, (x.2.2.2.2.2.1, (x.2.2.2.2.2.2.1, (x.2.2.2.2.2.2.2.1, Unit.unit)))))))))
   else none)
   else none)
   else (if ((0 : Int) ≤ x.1) then (if (x.1 < (((List.length x.2.2.1) : Nat) : Int)) then (if ((List.length x.2.2.2.2.1) = (List.length x.2.2.2.2.1)) then (if ((List.length x.2.2.2.2.2.2.2.1) = (List.length x.2.2.2.2.2.2.2.1)) then (Option.bind (Go.Ev.Huff.l19_1 ((List.getD x.2.2.1 (Int.toNat x.1) (0 : Int)), ((0 : Int), (x.2.1, (x.2.2.1, (x.2.2.2.1, (x.2.2.2.2.1, (x.2.2.2.2.2.1, (x.2.2.2.2.2.2.1, (x.1, (x.2.2.2.2.2.2.2.1, Unit.unit))))))))))) (Sum.elim (fun y1 => (if ((List.length y1.2.2.2.1) = (List.length y1.2.2.2.1)) then (if ((List.length y1.2.2.2.2.2.2.1) = (List.length y1.2.2.2.2.2.2.1)) then (some ((0 : Int), (y1.1, (y1.2.1, (y1.2.2.1, (y1.2.2.2.1, (y1.2.2.2.2.1, (y1.2.2.2.2.2.1, (y1.2.2.2.2.2.2.1, Unit.unit)))))))))
   else none)
   else none)) (Sum.elim (fun y1 => (if ((List.length y1.2.2.2.2.1) = (List.length y1.2.2.2.2.1)) then (if ((List.length y1.2.2.2.2.2.2.2.1) = (List.length y1.2.2.2.2.2.2.2.1)) then (some (y1.1, (y1.2.1, (y1.2.2.1, (y1.2.2.2.1, (y1.2.2.2.2.1, (y1.2.2.2.2.2.1, (y1.2.2.2.2.2.2.1, (y1.2.2.2.2.2.2.2.1, Unit.unit)))))))))
   else none)
   else none)) Empty.elim)))
   else none)
   else none)
   else none)
   else none))
   else none)
   else none)))
theorem f19_eq (x : gi19.D) : f19 x = evF P (T32.orc _) Go.Proofs.Try.f19.ntmps fx19 c19 (planAt 64 [([true, true, true, false, true, false], ⟨g19_1, o19_1, l19_1⟩)]) gi19 x (fnK fx19 [go19]) := by kernel_rfl
theorem pf19 : AllSub P Go.Proofs.Try.f19.ntmps fx19 c19 [([true, true, true, false, true, false], ⟨g19_1, o19_1, l19_1⟩)] := And.intro s19_1_ok (trivial)
theorem qf19 : PlanOk P Go.Proofs.Try.f19.ntmps fx19 (planAt 64 [([true, true, true, false, true, false], ⟨g19_1, o19_1, l19_1⟩)]) c19 := planAt_ok pf19
theorem f19_ok : EntOk P 19 ⟨gi19, [go19], f19⟩ :=
  ent_ok (fn := Go.Proofs.Try.f19) (gi := gi19) (gos := [go19]) (f := f19) (c := c19) (fx := fx19) ⟨Go.Proofs.Try.func19, by kernel_rfl, rfl, by decide +kernel, rfl, rfl⟩ (by kernel_rfl) (Table.ok T32_ok _) hmix (qf19) f19_eq
abbrev gi19_b : Sg := ⟨[0, 1, 2], [.lf .nilp, .lf (.ptr 0 0), .lf (.int .i64)], [some (.box true [.lf (.gr (.int .u8) 1), .lf (.int .i64), .lf (.int .i64)]), some (.arr true (.int .u8))]⟩
abbrev go19_b : Sg := ⟨[6], [.lf (.int .i64)], [some (.box true [.lf (.gr (.int .u8) 1), .lf (.int .i64), .lf (.int .i64)]), some (.arr true (.int .u8))]⟩
def fx19_b : List Bool := [true, true]
noncomputable def f19_b (x : gi19_b.D) : Option go19_b.D :=
  (if ((List.length x.2.2.2.1) = (List.length x.2.2.2.1)) then (some ((3 : Int), (x.2.1, (x.2.2.1, (x.2.2.2.1, Unit.unit)))))
   else none)
theorem f19_b_eq (x : gi19_b.D) : f19_b x = evF P (T32.orc _) Go.Proofs.Try.f19.ntmps fx19_b c19 (planAt 64 []) gi19_b x (fnK fx19_b [go19_b]) := by kernel_rfl
theorem f19_b_ok : EntOk P 19 ⟨gi19_b, [go19_b], f19_b⟩ :=
  ent_ok (fn := Go.Proofs.Try.f19) (gi := gi19_b) (gos := [go19_b]) (f := f19_b) (c := c19) (fx := fx19_b) ⟨Go.Proofs.Try.func19, by kernel_rfl, rfl, by decide +kernel, rfl, rfl⟩ (by kernel_rfl) (Table.ok T32_ok _) hmix (planAt_ok (P := P) (n := Go.Proofs.Try.f19.ntmps) (fx := fx19_b) (c := c19) (d := 64) (l := []) trivial) f19_b_eq
abbrev gi19_c : Sg := ⟨[0, 1, 2], [.lf (.ptr 0 0), .lf .nilp, .lf (.int .i64)], [some (.box true [.many (.int .i64) 16, .lf (.sl (.int .i64)), .lf (.sl (.int .i64)), .lf (.gr (.int .i64) 1)]), some (.arr true (.int .i64))]⟩
abbrev go19_c : Sg := ⟨[6], [.lf (.int .i64)], [some (.box true [.many (.int .i64) 16, .lf (.sl (.int .i64)), .lf (.sl (.int .i64)), .lf (.gr (.int .i64) 1)]), some (.arr true (.int .i64))]⟩
def fx19_c : List Bool := [true, true]
noncomputable def f19_c (x : gi19_c.D) : Option go19_c.D :=
  (if ((List.length x.2.2.2.2.1) = (List.length x.2.2.2.2.1)) then (some ((3 : Int), (x.2.1, (x.2.2.1, (x.2.2.2.1, (x.2.2.2.2.1, Unit.unit))))))
   else none)
theorem f19_c_eq (x : gi19_c.D) : f19_c x = evF P (T32.orc _) Go.Proofs.Try.f19.ntmps fx19_c c19 (planAt 64 []) gi19_c x (fnK fx19_c [go19_c]) := by kernel_rfl
theorem f19_c_ok : EntOk P 19 ⟨gi19_c, [go19_c], f19_c⟩ :=
  ent_ok (fn := Go.Proofs.Try.f19) (gi := gi19_c) (gos := [go19_c]) (f := f19_c) (c := c19) (fx := fx19_c) ⟨Go.Proofs.Try.func19, by kernel_rfl, rfl, by decide +kernel, rfl, rfl⟩ (by kernel_rfl) (Table.ok T32_ok _) hmix (planAt_ok (P := P) (n := Go.Proofs.Try.f19.ntmps) (fx := fx19_c) (c := c19) (d := 64) (l := []) trivial) f19_c_eq
noncomputable def T19 : Table := T32.add 19 [⟨gi19, [go19], f19⟩, ⟨gi19_b, [go19_b], f19_b⟩, ⟨gi19_c, [go19_c], f19_c⟩] []
theorem T19_ok : TableOk P T19 := Table.plus T32_ok (es := [⟨gi19, [go19], f19⟩, ⟨gi19_b, [go19_b], f19_b⟩, ⟨gi19_c, [go19_c], f19_c⟩]) ⟨f19_ok, f19_b_ok, f19_c_ok, trivial⟩ []

/-! ## 33: slices.Clone[[]byte,byte] -/
noncomputable def c33 : Code := Func.code Go.Proofs.Try.f33
abbrev gi33 : Sg := ⟨[0], [.lf (.sl (.int .u8))], []⟩
abbrev go33 : Sg := ⟨[2], [.lf (.gr (.int .u8) 0)], [some (.arr true (.int .u8))]⟩
def fx33 : List Bool := []
noncomputable def f33 (x : gi33.D) : Option go33.D :=
  (if ((List.length x.1) = (0 : Nat)) then (Go.Ev.amb (Go.Ev.Orc.eq (Go.Ev.Table.orcE Go.Ev.Huff.T19 (Go.Ev.Sg.D Go.Ev.Huff.go33) (Go.Ev.Sg.eq Go.Ev.Huff.go33) (Go.Ev.Sg.eq_eq Go.Ev.Huff.go33))) (some ([], Unit.unit)) (if (((0 : Nat) + (List.length x.1)) ≤ (140737488355328 : Nat)) then (if ((List.length ((List.take (0 : Nat) (List.drop (0 : Nat) (List.replicate (0 : Nat) (0 : Int)))) ++ x.1)) = (List.length ((List.take (0 : Nat) (List.drop (0 : Nat) (List.replicate (0 : Nat) (0 : Int)))) ++ x.1))) then (some (((List.take (0 : Nat) (List.drop (0 : Nat) (List.replicate (0 : Nat) (0 : Int)))) ++ x.1), Unit.unit))
   else none)
   else none))
   else (if (((0 : Nat) + (List.length x.1)) ≤ (140737488355328 : Nat)) then (if ((List.length ((List.take (0 : Nat) (List.drop (0 : Nat) (List.replicate (0 : Nat) (0 : Int)))) ++ x.1)) = (List.length ((List.take (0 : Nat) (List.drop (0 : Nat) (List.replicate (0 : Nat) (0 : Int)))) ++ x.1))) then (some (((List.take (0 : Nat) (List.drop (0 : Nat) (List.replicate (0 : Nat) (0 : Int)))) ++ x.1), Unit.unit))
   else none)
   else none))
theorem f33_eq (x : gi33.D) : f33 x = evF P (T19.orcE go33.D go33.eq go33.eq_eq) Go.Proofs.Try.f33.ntmps fx33 c33 (planAt 64 []) gi33 x (fnK fx33 [go33]) := by kernel_rfl
theorem f33_ok : EntOk P 33 ⟨gi33, [go33], f33⟩ :=
  ent_ok (fn := Go.Proofs.Try.f33) (gi := gi33) (gos := [go33]) (f := f33) (c := c33) (fx := fx33) ⟨Go.Proofs.Try.func33, by kernel_rfl, rfl, by decide +kernel, rfl, rfl⟩ (by kernel_rfl) (Table.okE T19_ok _ _ _) hmix (planAt_ok (P := P) (n := Go.Proofs.Try.f33.ntmps) (fx := fx33) (c := c33) (d := 64) (l := []) trivial) f33_eq
noncomputable def T33 : Table := T19.add 33 [⟨gi33, [go33], f33⟩] []
theorem T33_ok : TableOk P T33 := Table.plus T19_ok (es := [⟨gi33, [go33], f33⟩]) ⟨f33_ok, trivial⟩ []

/-! ## 20: (*erasure/bits.Writer).Bytes -/
noncomputable def c20 : Code := Func.code Go.Proofs.Try.f20
abbrev gi20 : Sg := ⟨[0], [.lf (.ptr 0 0)], [some (.box true [.lf (.gr (.int .u8) 1), .lf (.int .i64), .lf (.int .i64)]), some (.arr true (.int .u8))]⟩
abbrev go20 : Sg := ⟨[2], [.lf (.gr (.int .u8) 2)], [some (.box true [.lf (.gr (.int .u8) 1), .lf (.int .i64), .lf (.int .i64)]), some (.arr true (.int .u8)), some (.arr true (.int .u8))]⟩
def fx20 : List Bool := [true, true]
noncomputable def f20 (x : gi20.D) : Option go20.D :=
  (Option.bind (Go.Ev.Huff.f33 ((List.take (List.length x.2.2.1) (List.drop (0 : Nat) x.2.2.1)), Unit.unit)) (fun y1 => (if ((decide (x.2.1 > (0 : Int))) = true) then (if (((List.length (List.take (List.length y1.1) (List.drop (0 : Nat) y1.1))) + (List.length (List.take (1 : Nat) (List.drop (0 : Nat) (List.set (List.replicate (1 : Nat) (0 : Int)) (0 : Nat) (Go.IntKind.wrap Go.IntKind.u8 x.1)))))) ≤ (140737488355328 : Nat)) then (if ((List.length ((List.take (List.length y1.1) (List.drop (0 : Nat) y1.1)) ++ (List.take (1 : Nat) (List.drop (0 : Nat) (List.set (List.replicate (1 : Nat) (0 : Int)) (0 : Nat) (Go.IntKind.wrap Go.IntKind.u8 x.1)))))) = (List.length ((List.take (List.length y1.1) (List.drop (0 : Nat) y1.1)) ++ (List.take (1 : Nat) (List.drop (0 : Nat) (List.set (List.replicate (1 : Nat) (0 : Int)) (0 : Nat) (Go.IntKind.wrap Go.IntKind.u8 x.1))))))) then (if ((List.length x.2.2.1) = (List.length x.2.2.1)) then (some (x.1, (x.2.1, (x.2.2.1, (((List.take (List.length y1.1) (List.drop (0 : Nat) y1.1)) ++ (List.take (1 : Nat) (List.drop (0 : Nat) (List.set (List.replicate (1 : Nat) (0 : Int)) (0 : Nat) (Go.IntKind.wrap Go.IntKind.u8 x.1))))), Unit.unit)))))
   else none)
   else none)
   else none)
   else (if ((List.length y1.1) = (List.length y1.1)) then (if ((List.length x.2.2.1) = (List.length x.2.2.1)) then (some (x.1, (x.2.1, (x.2.2.1, (y1.1, Unit.unit)))))
   else none)
   else none))))
theorem f20_eq (x : gi20.D) : f20 x = evF P (T33.orc _) Go.Proofs.Try.f20.ntmps fx20 c20 (planAt 64 []) gi20 x (fnK fx20 [go20]) := by kernel_rfl
theorem f20_ok : EntOk P 20 ⟨gi20, [go20], f20⟩ :=
  ent_ok (fn := Go.Proofs.Try.f20) (gi := gi20) (gos := [go20]) (f := f20) (c := c20) (fx := fx20) ⟨Go.Proofs.Try.func20, by kernel_rfl, rfl, by decide +kernel, rfl, rfl⟩ (by kernel_rfl) (Table.ok T33_ok _) hmix (planAt_ok (P := P) (n := Go.Proofs.Try.f20.ntmps) (fx := fx20) (c := c20) (d := 64) (l := []) trivial) f20_eq
noncomputable def T20 : Table := T33.add 20 [⟨gi20, [go20], f20⟩] []
theorem T20_ok : TableOk P T20 := Table.plus T33_ok (es := [⟨gi20, [go20], f20⟩]) ⟨f20_ok, trivial⟩ []

/-! ## 21: erasure/erasureref04.Bytes -/
noncomputable def c21 : Code := Func.code Go.Proofs.Try.f21
abbrev gi21 : Sg := ⟨[0], [.lf (.sl .bool)], []⟩
abbrev go21 : Sg := ⟨[2], [.lf (.gr (.int .u8) 0)], [some (.arr true (.int .u8))]⟩
def fx21 : List Bool := []
abbrev g21_2 : Sg := ⟨[0, 3, 4, 5, 6], [.lf (.sl .bool), .lf (.gr (.int .u8) 0), .lf (.int .i64), .lf (.int .i64), .lf (.int .i64)], [some (.arr true (.int .u8))]⟩
abbrev o21_2 : Outs := [(.exit 2, ⟨[0, 3, 4, 5], [.lf (.sl .bool), .lf (.gr (.int .u8) 0), .lf (.int .i64), .lf (.int .i64)], [some (.arr true (.int .u8))]⟩)]
noncomputable def b21_2 (x : g21_2.D) : Option (outD ((.normal, g21_2) :: o21_2)) :=
  (if ((decide (x.2.2.2.1 < (Int.tmod x.2.1 (8 : Int)))) = true) then (if ((List.length x.2.2.2.2.1) = (List.length x.2.2.2.2.1)) then (some (Sum.inl (x.1, (x.2.1, ((Go.IntKind.wrap Go.IntKind.i64 ((2 : Int) * x.2.2.1)), ((Go.IntKind.wrap Go.IntKind.i64 (x.2.2.2.1 + (1 : Int))), (x.2.2.2.2.1, Unit.unit)))))))
   else none)
   else (if ((List.length x.2.2.2.2.1) = (List.length x.2.2.2.2.1)) then (some (Sum.inr (Sum.inl (x.1, (x.2.1, (x.2.2.1, (x.2.2.2.2.1, Unit.unit)))))))
   else none))
theorem b21_2_eq (x : g21_2.D) : b21_2 x = evF P (T20.orc _) Go.Proofs.Try.f21.ntmps fx21 (Code.at [true, true, false, true, false, false, true, false, false, true, false, true, false, true, false, false] c21) (planAt 64 []) g21_2 x (injK fx21 ((.normal, g21_2) :: o21_2) some) := by kernel_rfl
noncomputable def l21_2 : g21_2.D → Option (outD o21_2) := loopN g21_2 o21_2 b21_2 18446744073709551616
theorem at21_2 : Code.at [true, true, false, true, false, false, true, false, false, true, false, true, false, true, false] c21 = .loop (Code.at [true, true, false, true, false, false, true, false, false, true, false, true, false, true, false, false] c21) := by kernel_rfl
theorem s21_2_ok : SubOk P Go.Proofs.Try.f21.ntmps fx21 (Code.at [true, true, false, true, false, false, true, false, false, true, false, true, false, true, false] c21) ⟨g21_2, o21_2, l21_2⟩ := by
  rw [at21_2]
  exact loop_ok (sub_ok (g := g21_2) (outs := ((.normal, g21_2) :: o21_2)) (f := b21_2) (Table.ok T20_ok _) hmix (planAt_ok (P := P) (n := Go.Proofs.Try.f21.ntmps) (fx := fx21) (c := (Code.at [true, true, false, true, false, false, true, false, false, true, false, true, false, true, false, false] c21)) (d := 64) (l := []) trivial) b21_2_eq) rfl _
abbrev g21_1 : Sg := ⟨[0, 3, 4], [.lf (.sl .bool), .lf (.gr (.int .u8) 0), .lf (.int .i64)], [some (.arr true (.int .u8))]⟩
abbrev o21_1 : Outs := [(.exit 0, ⟨[3], [.lf (.gr (.int .u8) 0)], [some (.arr true (.int .u8))]⟩)]
noncomputable def b21_1 (x : g21_1.D) : Option (outD ((.normal, g21_1) :: o21_1)) :=
  (if ((decide (x.2.1 ≥ (0 : Int))) = true) then (if ((0 : Int) ≤ x.2.1) then (if (x.2.1 < (((List.length x.1) : Nat) : Int)) then (if ((List.getD x.1 (Int.toNat x.2.1) false) = true) then (if ((List.length x.2.2.1) = (List.length x.2.2.1)) then (Option.bind (Go.Ev.Huff.l21_2 (x.1, (x.2.1, ((1 : Int), ((0 : Int), (x.2.2.1, Unit.unit)))))) (Sum.elim (fun y1 => (if ((0 : Int) ≤ (Go.IntKind.wrap Go.IntKind.i64 (Int.tdiv y1.2.1 (8 : Int)))) then (if ((Go.IntKind.wrap Go.IntKind.i64 (Int.tdiv y1.2.1 (8 : Int))) < (((List.length y1.2.2.2.1) : Nat) : Int)) then (if ((0 : Int) ≤ (Go.IntKind.wrap Go.IntKind.i64 (Int.tdiv y1.2.1 (8 : Int)))) then (if ((Go.IntKind.wrap Go.IntKind.i64 (Int.tdiv y1.2.1 (8 : Int))) < (((List.length y1.2.2.2.1) : Nat) : Int)) then (if ((List.length y1.2.2.2.1) = (List.length (List.set y1.2.2.2.1 ((0 : Nat) + (Int.toNat (Go.IntKind.wrap Go.IntKind.i64 (Int.tdiv y1.2.1 (8 : Int))))) (Go.IntKind.wrap Go.IntKind.u8 ((List.getD y1.2.2.2.1 ((0 : Nat) + (Int.toNat (Go.IntKind.wrap Go.IntKind.i64 (Int.tdiv y1.2.1 (8 : Int))))) (0 : Int)) + (Go.IntKind.wrap Go.IntKind.u8 y1.2.2.1)))))) then (some (Sum.inl (y1.1, ((Go.IntKind.wrap Go.IntKind.i64 (y1.2.1 - (1 : Int))), ((List.set y1.2.2.2.1 ((0 : Nat) + (Int.toNat (Go.IntKind.wrap Go.IntKind.i64 (Int.tdiv y1.2.1 (8 : Int))))) (Go.IntKind.wrap Go.IntKind.u8 ((List.getD y1.2.2.2.1 ((0 : Nat) + (Int.toNat (Go.IntKind.wrap Go.IntKind.i64 (Int.tdiv y1.2.1 (8 : Int))))) (0 : Int)) + (Go.IntKind.wrap Go.IntKind.u8 y1.2.2.1)))), Unit.unit)))))
   else none)
   else none)
   else none)
   else none)
   else none)) Empty.elim))
   else none)
   else (if ((List.length x.2.2.1) = (List.length x.2.2.1)) then (some (Sum.inl (x.1, ((Go.IntKind.wrap Go.IntKind.i64 (x.2.1 - (1 : Int))), (x.2.2.1, Unit.unit)))))
   else none))
   else none)
   else none)
   else (if ((List.length x.2.2.1) = (List.length x.2.2.1)) then (some (Sum.inr (Sum.inl (x.2.2.1, Unit.unit))))
   else none))
theorem b21_1_eq (x : g21_1.D) : b21_1 x = evF P (T20.orc _) Go.Proofs.Try.f21.ntmps fx21 (Code.at [true, true, false, true, false, false] c21) (planAt 64 [([true, false, false, true, false, true, false, true, false], ⟨g21_2, o21_2, l21_2⟩)]) g21_1 x (injK fx21 ((.normal, g21_1) :: o21_1) some) := by kernel_rfl
noncomputable def l21_1 : g21_1.D → Option (outD o21_1) := loopN g21_1 o21_1 b21_1 18446744073709551616
theorem p21_1 : AllSub P Go.Proofs.Try.f21.ntmps fx21 (Code.at [true, true, false, true, false, false] c21) [([true, false, false, true, false, true, false, true, false], ⟨g21_2, o21_2, l21_2⟩)] := And.intro s21_2_ok (trivial)
theorem q21_1 : PlanOk P Go.Proofs.Try.f21.ntmps fx21 (planAt 64 [([true, false, false, true, false, true, false, true, false], ⟨g21_2, o21_2, l21_2⟩)]) (Code.at [true, true, false, true, false, false] c21) := planAt_ok p21_1
theorem at21_1 : Code.at [true, true, false, true, false] c21 = .loop (Code.at [true, true, false, true, false, false] c21) := by kernel_rfl
theorem s21_1_ok : SubOk P Go.Proofs.Try.f21.ntmps fx21 (Code.at [true, true, false, true, false] c21) ⟨g21_1, o21_1, l21_1⟩ := by
  rw [at21_1]
  exact loop_ok (sub_ok (g := g21_1) (outs := ((.normal, g21_1) :: o21_1)) (f := b21_1) (Table.ok T20_ok _) hmix (q21_1) b21_1_eq) rfl _
noncomputable def f21 (x : gi21.D) : Option go21.D :=
  (if ((0 : Int) ≤ (Go.IntKind.wrap Go.IntKind.i64 (Int.tdiv (Go.IntKind.wrap Go.IntKind.i64 ((((List.length x.1) : Nat) : Int) + (7 : Int))) (8 : Int)))) then (if ((Go.IntKind.wrap Go.IntKind.i64 (Int.tdiv (Go.IntKind.wrap Go.IntKind.i64 ((((List.length x.1) : Nat) : Int) + (7 : Int))) (8 : Int))) ≤ (Go.IntKind.wrap Go.IntKind.i64 (Int.tdiv (Go.IntKind.wrap Go.IntKind.i64 ((((List.length x.1) : Nat) : Int) + (7 : Int))) (8 : Int)))) then (if ((Go.IntKind.wrap Go.IntKind.i64 (Int.tdiv (Go.IntKind.wrap Go.IntKind.i64 ((((List.length x.1) : Nat) : Int) + (7 : Int))) (8 : Int))) ≤ (281474976710656 : Int)) then (if ((Int.toNat (Go.IntKind.wrap Go.IntKind.i64 (Int.tdiv (Go.IntKind.wrap Go.IntKind.i64 ((((List.length x.1) : Nat) : Int) + (7 : Int))) (8 : Int)))) = (List.length (List.replicate (Int.toNat (Go.IntKind.wrap Go.IntKind.i64 (Int.tdiv (Go.IntKind.wrap Go.IntKind.i64 ((((List.length x.1) : Nat) : Int) + (7 : Int))) (8 : Int)))) (0 : Int)))) then (Option.bind (Go.Ev.Huff.l21_1 (x.1, ((Go.IntKind.wrap Go.IntKind.i64 ((((List.length x.1) : Nat) : Int) - (1 : Int))), ((List.replicate (Int.toNat (Go.IntKind.wrap Go.IntKind.i64 (Int.tdiv (Go.IntKind.wrap Go.IntKind.i64 ((((List.length x.1) : Nat) : Int) + (7 : Int))) (8 : Int)))) (0 : Int)), Unit.unit)))) (Sum.elim (fun y1 => (if ((List.length y1.1) = (List.length y1.1)) then (some (y1.1, Unit.unit))
   else none)) Empty.elim))
   else none)
   else none)
   else none)
   else none)
theorem f21_eq (x : gi21.D) : f21 x = evF P (T20.orc _) Go.Proofs.Try.f21.ntmps fx21 c21 (planAt 64 [([true, true, false, true, false], ⟨g21_1, o21_1, l21_1⟩)]) gi21 x (fnK fx21 [go21]) := by kernel_rfl
theorem pf21 : AllSub P Go.Proofs.Try.f21.ntmps fx21 c21 [([true, true, false, true, false], ⟨g21_1, o21_1, l21_1⟩)] := And.intro s21_1_ok (trivial)
theorem qf21 : PlanOk P Go.Proofs.Try.f21.ntmps fx21 (planAt 64 [([true, true, false, true, false], ⟨g21_1, o21_1, l21_1⟩)]) c21 := planAt_ok pf21
theorem f21_ok : EntOk P 21 ⟨gi21, [go21], f21⟩ :=
  ent_ok (fn := Go.Proofs.Try.f21) (gi := gi21) (gos := [go21]) (f := f21) (c := c21) (fx := fx21) ⟨Go.Proofs.Try.func21, by kernel_rfl, rfl, by decide +kernel, rfl, rfl⟩ (by kernel_rfl) (Table.ok T20_ok _) hmix (qf21) f21_eq
noncomputable def T21 : Table := T20.add 21 [⟨gi21, [go21], f21⟩] []
theorem T21_ok : TableOk P T21 := Table.plus T20_ok (es := [⟨gi21, [go21], f21⟩]) ⟨f21_ok, trivial⟩ []

/-! ## 4: erasure/erasurelaw05.HuffPuts -/
noncomputable def c4 : Code := Func.code Go.Proofs.Try.f4
abbrev gi4 : Sg := ⟨[0, 1], [.lf (.sl (.int .i64)), .lf (.sl (.int .i64))], []⟩
abbrev go4 : Sg := ⟨[4], [.lf .bool], []⟩
def fx4 : List Bool := []
abbrev g4_3 : Sg := ⟨[0, 1, 5, 7, 8, 9, 10, 11], [.lf (.sl (.int .i64)), .lf (.sl (.int .i64)), .lf (.ptr 0 0), .lf (.ptr 1 0), .lf (.gr .bool 2), .lf (.int .i64), .lf (.sl .bool), .lf (.int .i64)], [some (.box true [.many (.int .i64) 16, .lf (.sl (.int .i64)), .lf (.sl (.int .i64)), .lf (.gr (.int .i64) 3)]), some (.box true [.lf (.gr (.int .u8) 4), .lf (.int .i64), .lf (.int .i64)]), some (.arr true .bool), some (.arr true (.int .i64)), some (.arr true (.int .u8))]⟩
abbrev o4_3 : Outs := [(.normal, ⟨[0, 1, 5, 7, 8, 9, 10, 79], [.lf (.sl (.int .i64)), .lf (.sl (.int .i64)), .lf (.ptr 0 0), .lf (.ptr 1 0), .lf (.gr .bool 2), .lf (.int .i64), .lf (.sl .bool), .lf .bool], [some (.box true [.many (.int .i64) 16, .lf (.sl (.int .i64)), .lf (.sl (.int .i64)), .lf (.gr (.int .i64) 3)]), some (.box true [.lf (.gr (.int .u8) 4), .lf (.int .i64), .lf (.int .i64)]), some (.arr true .bool), some (.arr true (.int .i64)), some (.arr true (.int .u8))]⟩)]
noncomputable def b4_3 (x : g4_3.D) : Option (outD o4_3) :=
  (if (((((List.length x.2.2.2.1) : Nat) : Int) == (0 : Int)) = true) then (if ((x.2.2.2.2.1 != (8 : Int)) = true) then (if ((List.length x.2.2.2.2.2.2.2.2.2.2.1) = (List.length x.2.2.2.2.2.2.2.2.2.2.1)) then (if ((List.length x.2.2.2.2.2.2.2.2.2.2.2.1) = (List.length x.2.2.2.2.2.2.2.2.2.2.2.1)) then (if ((List.length x.2.2.2.2.2.2.2.2.2.2.2.2.1) = (List.length x.2.2.2.2.2.2.2.2.2.2.2.2.1)) then (some (Sum.inl (x.1, (x.2.1, (x.2.2.1, (x.2.2.2.1, (true, (x.2.2.2.2.2.1, (x.2.2.2.2.2.2.1, (x.2.2.2.2.2.2.2.1, (x.2.2.2.2.2.2.2.2.1, (x.2.2.2.2.2.2.2.2.2.1, (x.2.2.2.2.2.2.2.2.2.2.1, (x.2.2.2.2.2.2.2.2.2.2.2.1, (x.2.2.2.2.2.2.2.2.2.2.2.2.1, Unit.unit)))))))))))))))
   else none)
   else none)
   else none)
   else (if ((decide ((((List.length x.2.2.2.1) : Nat) : Int) > (0 : Int))) = true) then (if ((List.length x.2.2.2.2.2.2.2.2.2.2.1) = (List.length x.2.2.2.2.2.2.2.2.2.2.1)) then (if ((List.length x.2.2.2.2.2.2.2.2.2.2.2.1) = (List.length x.2.2.2.2.2.2.2.2.2.2.2.1)) then (if ((List.length x.2.2.2.2.2.2.2.2.2.2.2.2.1) = (List.length x.2.2.2.2.2.2.2.2.2.2.2.2.1)) then (some (Sum.inl (x.1, (x.2.1, (x.2.2.1, (x.2.2.2.1, ((x.2.2.2.2.1 != (0 : Int)), (x.2.2.2.2.2.1, (x.2.2.2.2.2.2.1, (x.2.2.2.2.2.2.2.1, (x.2.2.2.2.2.2.2.2.1, (x.2.2.2.2.2.2.2.2.2.1, (x.2.2.2.2.2.2.2.2.2.2.1, (x.2.2.2.2.2.2.2.2.2.2.2.1, (x.2.2.2.2.2.2.2.2.2.2.2.2.1, Unit.unit)))))))))))))))
   else none)
   else none)
   else none)
   else (if ((List.length x.2.2.2.2.2.2.2.2.2.2.1) = (List.length x.2.2.2.2.2.2.2.2.2.2.1)) then (if ((List.length x.2.2.2.2.2.2.2.2.2.2.2.1) = (List.length x.2.2.2.2.2.2.2.2.2.2.2.1)) then (if ((List.length x.2.2.2.2.2.2.2.2.2.2.2.2.1) = (List.length x.2.2.2.2.2.2.2.2.2.2.2.2.1)) then (some (Sum.inl (x.1, (x.2.1, (x.2.2.1, (x.2.2.2.1, (false, (x.2.2.2.2.2.1, (x.2.2.2.2.2.2.1, (x.2.2.2.2.2.2.2.1, (x.2.2.2.2.2.2.2.2.1, (x.2.2.2.2.2.2.2.2.2.1, (x.2.2.2.2.2.2.2.2.2.2.1, (x.2.2.2.2.2.2.2.2.2.2.2.1, (x.2.2.2.2.2.2.2.2.2.2.2.2.1, Unit.unit)))))))))))))))
   else none)
   else none)
   else none)))
   else (if ((decide ((((List.length x.2.2.2.1) : Nat) : Int) > (0 : Int))) = true) then (if ((List.length x.2.2.2.2.2.2.2.2.2.2.1) = (List.length x.2.2.2.2.2.2.2.2.2.2.1)) then (if ((List.length x.2.2.2.2.2.2.2.2.2.2.2.1) = (List.length x.2.2.2.2.2.2.2.2.2.2.2.1)) then (if ((List.length x.2.2.2.2.2.2.2.2.2.2.2.2.1) = (List.length x.2.2.2.2.2.2.2.2.2.2.2.2.1)) then (some (Sum.inl (x.1, (x.2.1, (x.2.2.1, (x.2.2.2.1, ((x.2.2.2.2.1 != (0 : Int)), (x.2.2.2.2.2.1, (x.2.2.2.2.2.2.1, (x.2.2.2.2.2.2.2.1, (x.2.2.2.2.2.2.2.2.1, (x.2.2.2.2.2.2.2.2.2.1, (x.2.2.2.2.2.2.2.2.2.2.1, (x.2.2.2.2.2.2.2.2.2.2.2.1, (x.2.2.2.2.2.2.2.2.2.2.2.2.1, Unit.unit)))))))))))))))
   else none)
   else none)
   else none)
   else (if ((List.length x.2.2.2.2.2.2.2.2.2.2.1) = (List.length x.2.2.2.2.2.2.2.2.2.2.1)) then (if ((List.length x.2.2.2.2.2.2.2.2.2.2.2.1) = (List.length x.2.2.2.2.2.2.2.2.2.2.2.1)) then (if ((List.length x.2.2.2.2.2.2.2.2.2.2.2.2.1) = (List.length x.2.2.2.2.2.2.2.2.2.2.2.2.1)) then (some (Sum.inl (x.1, (x.2.1, (x.2.2.1, (x.2.2.2.1, (false, (x.2.2.2.2.2.1, (x.2.2.2.2.2.2.1, (x.2.2.2.2.2.2.2.1, (x.2.2.2.2.2.2.2.2.1, (x.2.2.2.2.2.2.2.2.2.1, (x.2.2.2.2.2.2.2.2.2.2.1, (x.2.2.2.2.2.2.2.2.2.2.2.1, (x.2.2.2.2.2.2.2.2.2.2.2.2.1, Unit.unit)))))))))))))))
   else none)
   else none)
   else none)))
theorem b4_3_eq (x : g4_3.D) : b4_3 x = evF P (T21.orc _) Go.Proofs.Try.f4.ntmps fx4 (Code.at [true, true, true, true, true, true, false, true, false, false, true, false, false, true, true, false, false] c4) (planAt 64 []) g4_3 x (injK fx4 o4_3 some) := by kernel_rfl
theorem s4_3_ok : SubOk P Go.Proofs.Try.f4.ntmps fx4 (Code.at [true, true, true, true, true, true, false, true, false, false, true, false, false, true, true, false, false] c4) ⟨g4_3, o4_3, b4_3⟩ :=
  sub_ok (g := g4_3) (outs := o4_3) (f := b4_3) (Table.ok T21_ok _) hmix (planAt_ok (P := P) (n := Go.Proofs.Try.f4.ntmps) (fx := fx4) (c := (Code.at [true, true, true, true, true, true, false, true, false, false, true, false, false, true, true, false, false] c4)) (d := 64) (l := []) trivial) b4_3_eq
abbrev g4_2 : Sg := ⟨[0, 1, 5, 7, 8, 9], [.lf (.sl (.int .i64)), .lf (.sl (.int .i64)), .lf (.ptr 0 0), .lf (.ptr 1 0), .lf (.gr .bool 2), .lf (.int .i64)], [some (.box true [.many (.int .i64) 16, .lf (.sl (.int .i64)), .lf (.sl (.int .i64)), .lf (.gr (.int .i64) 3)]), some (.box true [.lf (.gr (.int .u8) 4), .lf (.int .i64), .lf (.int .i64)]), some (.arr true .bool), some (.arr true (.int .i64)), some (.arr true (.int .u8))]⟩
abbrev o4_2 : Outs := [(.exit 0, ⟨[7, 8], [.lf (.ptr 0 0), .lf (.gr .bool 1)], [some (.box true [.lf (.gr (.int .u8) 2), .lf (.int .i64), .lf (.int .i64)]), some (.arr true .bool), some (.arr true (.int .u8))]⟩), (.ret, ⟨[4], [.lf .bool], []⟩)]
noncomputable def b4_2 (x : g4_2.D) : Option (outD ((.normal, g4_2) :: o4_2)) :=
  (if ((decide (x.2.2.1 < (((List.length x.2.1) : Nat) : Int))) = true) then (if ((0 : Int) ≤ x.2.2.1) then (if (x.2.2.1 < (((List.length x.2.1) : Nat) : Int)) then (Option.bind (Go.Ev.Huff.f18 (x.1, ((List.getD x.2.1 (Int.toNat x.2.2.1) (0 : Int)), Unit.unit))) (fun y1 => (if ((0 : Int) ≤ x.2.2.1) then (if (x.2.2.1 < (((List.length x.2.1) : Nat) : Int)) then (if ((List.length x.2.2.2.2.2.2.2.2.2.1) = (List.length x.2.2.2.2.2.2.2.2.2.1)) then (if ((List.length x.2.2.2.2.2.2.2.2.2.2.1) = (List.length x.2.2.2.2.2.2.2.2.2.2.1)) then (Option.bind (Go.Ev.Huff.f19 ((List.getD x.2.1 (Int.toNat x.2.2.1) (0 : Int)), (x.2.2.2.1, (x.2.2.2.2.1, (x.2.2.2.2.2.1, (x.2.2.2.2.2.2.2.2.2.1, (x.2.2.2.2.2.2.1, (x.2.2.2.2.2.2.2.1, (x.2.2.2.2.2.2.2.2.2.2.1, Unit.unit))))))))) (fun y2 => (if ((List.length x.2.2.2.2.2.2.2.2.1) = (List.length x.2.2.2.2.2.2.2.2.1)) then (if ((List.length y2.2.2.2.2.1) = (List.length y2.2.2.2.2.1)) then (if ((List.length y2.2.2.2.2.2.2.2.1) = (List.length y2.2.2.2.2.2.2.2.1)) then (Option.bind (Go.Ev.Huff.b4_3 (x.1, (x.2.1, (x.2.2.1, ((List.take (List.length y1.1) (List.drop (0 : Nat) y1.1)), (y2.1, (y2.2.1, (y2.2.2.1, (y2.2.2.2.1, (y2.2.2.2.2.2.1, (y2.2.2.2.2.2.2.1, (x.2.2.2.2.2.2.2.2.1, (y2.2.2.2.2.1, (y2.2.2.2.2.2.2.2.1, Unit.unit)))))))))))))) (Sum.elim (fun y3 => (if (y3.2.2.2.2.1 = true) then (some (Sum.inr (Sum.inr (Sum.inl (false, Unit.unit)))))
   else (if (((List.length (List.take (List.length y3.2.2.2.2.2.2.2.2.2.2.1) (List.drop (0 : Nat) y3.2.2.2.2.2.2.2.2.2.2.1))) + (List.length y3.2.2.2.1)) ≤ (140737488355328 : Nat)) then (if ((List.length ((List.take (List.length y3.2.2.2.2.2.2.2.2.2.2.1) (List.drop (0 : Nat) y3.2.2.2.2.2.2.2.2.2.2.1)) ++ y3.2.2.2.1)) = (List.length ((List.take (List.length y3.2.2.2.2.2.2.2.2.2.2.1) (List.drop (0 : Nat) y3.2.2.2.2.2.2.2.2.2.2.1)) ++ y3.2.2.2.1))) then (if ((List.length y3.2.2.2.2.2.2.2.2.2.2.2.1) = (List.length y3.2.2.2.2.2.2.2.2.2.2.2.1)) then (if ((List.length y3.2.2.2.2.2.2.2.2.2.2.2.2.1) = (List.length y3.2.2.2.2.2.2.2.2.2.2.2.2.1)) then (some (Sum.inl (y3.1, (y3.2.1, ((Go.IntKind.wrap Go.IntKind.i64 (y3.2.2.1 + (1 : Int))), (y3.2.2.2.2.2.1, (y3.2.2.2.2.2.2.1, (y3.2.2.2.2.2.2.2.1, (y3.2.2.2.2.2.2.2.2.1, (y3.2.2.2.2.2.2.2.2.2.1, (((List.take (List.length y3.2.2.2.2.2.2.2.2.2.2.1) (List.drop (0 : Nat) y3.2.2.2.2.2.2.2.2.2.2.1)) ++ y3.2.2.2.1), (y3.2.2.2.2.2.2.2.2.2.2.2.1, (y3.2.2.2.2.2.2.2.2.2.2.2.2.1, Unit.unit)))))))))))))
   else none)
   else none)
   else none)
   else none))) Empty.elim))
   else none)
   else none)
   else none)))
   else none)
   else none)
   else none)
   else none)))
   else none)
   else none)
   else (if ((List.length x.2.2.2.2.2.2.2.2.1) = (List.length x.2.2.2.2.2.2.2.2.1)) then (if ((List.length x.2.2.2.2.2.2.2.2.2.2.1) = (List.length x.2.2.2.2.2.2.2.2.2.2.1)) then (some (Sum.inr (Sum.inl (x.2.2.2.2.2.2.1, (x.2.2.2.2.2.2.2.1, (x.2.2.2.2.2.2.2.2.1, (x.2.2.2.2.2.2.2.2.2.2.1, Unit.unit)))))))
   else none)
   else none))
theorem b4_2_eq (x : g4_2.D) : b4_2 x = evF P (T21.orc _) Go.Proofs.Try.f4.ntmps fx4 (Code.at [true, true, true, true, true, true, false, true, false, false] c4) (planAt 64 [([true, false, false, true, true, false, false], ⟨g4_3, o4_3, b4_3⟩)]) g4_2 x (injK fx4 ((.normal, g4_2) :: o4_2) some) := by kernel_rfl
noncomputable def l4_2 : g4_2.D → Option (outD o4_2) := loopN g4_2 o4_2 b4_2 18446744073709551616
theorem p4_2 : AllSub P Go.Proofs.Try.f4.ntmps fx4 (Code.at [true, true, true, true, true, true, false, true, false, false] c4) [([true, false, false, true, true, false, false], ⟨g4_3, o4_3, b4_3⟩)] := And.intro s4_3_ok (trivial)
theorem q4_2 : PlanOk P Go.Proofs.Try.f4.ntmps fx4 (planAt 64 [([true, false, false, true, true, false, false], ⟨g4_3, o4_3, b4_3⟩)]) (Code.at [true, true, true, true, true, true, false, true, false, false] c4) := planAt_ok p4_2
theorem at4_2 : Code.at [true, true, true, true, true, true, false, true, false] c4 = .loop (Code.at [true, true, true, true, true, true, false, true, false, false] c4) := by kernel_rfl
theorem s4_2_ok : SubOk P Go.Proofs.Try.f4.ntmps fx4 (Code.at [true, true, true, true, true, true, false, true, false] c4) ⟨g4_2, o4_2, l4_2⟩ := by
  rw [at4_2]
  exact loop_ok (sub_ok (g := g4_2) (outs := ((.normal, g4_2) :: o4_2)) (f := b4_2) (Table.ok T21_ok _) hmix (q4_2) b4_2_eq) rfl _
abbrev g4_1 : Sg := ⟨[0, 1], [.lf (.sl (.int .i64)), .lf (.sl (.int .i64))], []⟩
abbrev o4_1 : Outs := [(.normal, ⟨[0, 1, 5, 6], [.lf (.sl (.int .i64)), .lf (.sl (.int .i64)), .lf .nilp, .lf (.int .i64)], []⟩), (.normal, ⟨[0, 1, 5, 6], [.lf (.sl (.int .i64)), .lf (.sl (.int .i64)), .lf (.ptr 0 0), .lf (.int .i64)], [some (.box true [.many (.int .i64) 16, .lf (.sl (.int .i64)), .lf (.sl (.int .i64)), .lf (.gr (.int .i64) 1)]), some (.arr true (.int .i64))]⟩)]
noncomputable def b4_1 (x : g4_1.D) : Option (outD o4_1) :=
  (Option.bind (Go.Ev.Huff.f11 (x.1, Unit.unit)) (Sum.elim (fun y1 => (some (Sum.inl (x.1, (x.2.1, (y1.1, Unit.unit)))))) (fun y1 => (if ((List.length y1.2.2.2.2.1) = (List.length y1.2.2.2.2.1)) then (some (Sum.inr (Sum.inl (x.1, (x.2.1, (y1.1, (y1.2.1, (y1.2.2.1, (y1.2.2.2.1, (y1.2.2.2.2.1, Unit.unit))))))))))
   else none))))
theorem b4_1_eq (x : g4_1.D) : b4_1 x = evF P (T21.orc _) Go.Proofs.Try.f4.ntmps fx4 (Code.at [true, true, false] c4) (planAt 64 []) g4_1 x (injK fx4 o4_1 some) := by kernel_rfl
theorem s4_1_ok : SubOk P Go.Proofs.Try.f4.ntmps fx4 (Code.at [true, true, false] c4) ⟨g4_1, o4_1, b4_1⟩ :=
  sub_ok (g := g4_1) (outs := o4_1) (f := b4_1) (Table.ok T21_ok _) hmix (planAt_ok (P := P) (n := Go.Proofs.Try.f4.ntmps) (fx := fx4) (c := (Code.at [true, true, false] c4)) (d := 64) (l := []) trivial) b4_1_eq
noncomputable def f4 (x : gi4.D) : Option go4.D :=
  (if ((decide ((((List.length x.1) : Nat) : Int) > (400 : Int))) = true) then (some (true, Unit.unit))
   else (if ((decide ((((List.length x.2.1) : Nat) : Int) > (60 : Int))) = true) then (some (true, Unit.unit))
   else (Option.bind (Go.Ev.Huff.b4_1 (x.1, (x.2.1, Unit.unit))) (Sum.elim (fun y1 => (Option.bind (Go.Ev.Huff.f17 Unit.unit) (fun _ => (if ((y1.2.2.1 != (0 : Int)) = true) then (Option.bind (Go.Ev.Huff.f12 Unit.unit) (fun y3 => (if (y3.1 = true) then (some (true, Unit.unit))
   else (some (false, Unit.unit)))))
   else (Option.bind (Go.Ev.Huff.f12 Unit.unit) (fun y3 => (if (y3.1 = true) then (some (true, Unit.unit))
   else (some (false, Unit.unit))))))))) (Sum.elim (fun y1 => (Option.bind (Go.Ev.Huff.f17 Unit.unit) (fun y2 => (if ((y1.2.2.1 != (0 : Int)) = true) then (Option.bind (Go.Ev.Huff.f12 Unit.unit) (fun y3 => (if (y3.1 = true) then (some (false, Unit.unit))
   else (some (false, Unit.unit)))))
   else (if ((List.length y1.2.2.2.2.2.2.1) = (List.length y1.2.2.2.2.2.2.1)) then (if ((List.length y2.2.2.1) = (List.length y2.2.2.1)) then (Option.bind (Go.Ev.Huff.l4_2 (y1.1, (y1.2.1, ((0 : Int), (y1.2.2.2.1, (y1.2.2.2.2.1, (y1.2.2.2.2.2.1, (y2.1, (y2.2.1, ([], (y1.2.2.2.2.2.2.1, (y2.2.2.1, Unit.unit)))))))))))) (Sum.elim (fun y3 => (Option.bind (Go.Ev.Huff.f12 Unit.unit) (fun y4 => (if (y4.1 = true) then (if ((List.length y3.2.2.2.1) = (List.length y3.2.2.2.1)) then (Option.bind (Go.Ev.Huff.f20 (y3.1, (y3.2.1, (y3.2.2.2.1, Unit.unit)))) (fun y5 => (Option.bind (Go.Ev.Huff.f21 ((List.take (List.length y3.2.2.1) (List.drop (0 : Nat) y3.2.2.1)), Unit.unit)) (fun y6 => (some (((ByteArray.toList (ByteArray.mk (List.toArray (List.map (fun y7 => (UInt8.ofNat (Int.toNat y7))) (List.take (List.length y5.2.2.2.1) (List.drop (0 : Nat) y5.2.2.2.1)))))) == (ByteArray.toList (ByteArray.mk (List.toArray (List.map (fun y7 => (UInt8.ofNat (Int.toNat y7))) (List.take (List.length y6.1) (List.drop (0 : Nat) y6.1))))))), Unit.unit))))))
   else none)
   else (some (false, Unit.unit)))))) (Sum.elim (fun y3 => (some (y3.1, Unit.unit))) Empty.elim)))
   else none)
   else none))))) Empty.elim)))))
theorem f4_eq (x : gi4.D) : f4 x = evF P (T21.orc _) Go.Proofs.Try.f4.ntmps fx4 c4 (planAt 64 [([true, true, false], ⟨g4_1, o4_1, b4_1⟩), ([true, true, true, true, true, true, false, true, false], ⟨g4_2, o4_2, l4_2⟩)]) gi4 x (fnK fx4 [go4]) := by kernel_rfl
theorem pf4 : AllSub P Go.Proofs.Try.f4.ntmps fx4 c4 [([true, true, false], ⟨g4_1, o4_1, b4_1⟩), ([true, true, true, true, true, true, false, true, false], ⟨g4_2, o4_2, l4_2⟩)] := And.intro s4_1_ok (And.intro s4_2_ok (trivial))
theorem qf4 : PlanOk P Go.Proofs.Try.f4.ntmps fx4 (planAt 64 [([true, true, false], ⟨g4_1, o4_1, b4_1⟩), ([true, true, true, true, true, true, false, true, false], ⟨g4_2, o4_2, l4_2⟩)]) c4 := planAt_ok pf4
theorem f4_ok : EntOk P 4 ⟨gi4, [go4], f4⟩ :=
  ent_ok (fn := Go.Proofs.Try.f4) (gi := gi4) (gos := [go4]) (f := f4) (c := c4) (fx := fx4) ⟨Go.Proofs.Try.func4, by kernel_rfl, rfl, by decide +kernel, rfl, rfl⟩ (by kernel_rfl) (Table.ok T21_ok _) hmix (qf4) f4_eq
noncomputable def T4 : Table := T21.add 4 [⟨gi4, [go4], f4⟩] []
theorem T4_ok : TableOk P T4 := Table.plus T21_ok (es := [⟨gi4, [go4], f4⟩]) ⟨f4_ok, trivial⟩ []

/-! ## 22: erasure/bits.NewReader -/
noncomputable def c22 : Code := Func.code Go.Proofs.Try.f22
abbrev gi22 : Sg := ⟨[0], [.lf (.sl (.int .u8))], []⟩
abbrev go22 : Sg := ⟨[2], [.lf (.ptr 0 0)], [some (.box true [.lf (.sl (.int .u8)), .lf (.int .i64), .lf (.int .i64), .lf (.int .i64)])]⟩
def fx22 : List Bool := []
noncomputable def f22 (x : gi22.D) : Option go22.D :=
  (Option.bind (Go.Ev.Huff.f33 (x.1, Unit.unit)) (fun y1 => (some ((List.take (List.length y1.1) (List.drop (0 : Nat) y1.1)), ((0 : Int), ((0 : Int), ((0 : Int), Unit.unit)))))))
theorem f22_eq (x : gi22.D) : f22 x = evF P (T4.orc _) Go.Proofs.Try.f22.ntmps fx22 c22 (planAt 64 []) gi22 x (fnK fx22 [go22]) := by kernel_rfl
theorem f22_ok : EntOk P 22 ⟨gi22, [go22], f22⟩ :=
  ent_ok (fn := Go.Proofs.Try.f22) (gi := gi22) (gos := [go22]) (f := f22) (c := c22) (fx := fx22) ⟨Go.Proofs.Try.func22, by kernel_rfl, rfl, by decide +kernel, rfl, rfl⟩ (by kernel_rfl) (Table.ok T4_ok _) hmix (planAt_ok (P := P) (n := Go.Proofs.Try.f22.ntmps) (fx := fx22) (c := c22) (d := 64) (l := []) trivial) f22_eq
noncomputable def T22 : Table := T4.add 22 [⟨gi22, [go22], f22⟩] []
theorem T22_ok : TableOk P T22 := Table.plus T4_ok (es := [⟨gi22, [go22], f22⟩]) ⟨f22_ok, trivial⟩ []

/-! ## 23: erasure/erasureref04.Of -/
noncomputable def c23 : Code := Func.code Go.Proofs.Try.f23
abbrev gi23 : Sg := ⟨[0], [.lf (.sl (.int .u8))], []⟩
abbrev go23 : Sg := ⟨[2], [.lf (.gr .bool 0)], [some (.arr true .bool)]⟩
def fx23 : List Bool := []
abbrev g23_2 : Sg := ⟨[0, 3, 4, 5, 6], [.lf (.sl (.int .u8)), .lf (.gr .bool 0), .lf (.int .i64), .lf (.int .i64), .lf (.int .i64)], [some (.arr true .bool)]⟩
abbrev o23_2 : Outs := [(.exit 2, ⟨[0, 3, 4], [.lf (.sl (.int .u8)), .lf (.gr .bool 0), .lf (.int .i64)], [some (.arr true .bool)]⟩)]
noncomputable def b23_2 (x : g23_2.D) : Option (outD ((.normal, g23_2) :: o23_2)) :=
  (if ((decide (x.2.2.2.1 < (8 : Int))) = true) then (if (((List.length (List.take (List.length x.2.2.2.2.1) (List.drop (0 : Nat) x.2.2.2.2.1))) + (List.length (List.take (1 : Nat) (List.drop (0 : Nat) (List.set (List.replicate (1 : Nat) false) (0 : Nat) ((Int.tmod x.2.2.1 (2 : Int)) == (1 : Int))))))) ≤ (140737488355328 : Nat)) then (if ((List.length ((List.take (List.length x.2.2.2.2.1) (List.drop (0 : Nat) x.2.2.2.2.1)) ++ (List.take (1 : Nat) (List.drop (0 : Nat) (List.set (List.replicate (1 : Nat) false) (0 : Nat) ((Int.tmod x.2.2.1 (2 : Int)) == (1 : Int))))))) = (List.length ((List.take (List.length x.2.2.2.2.1) (List.drop (0 : Nat) x.2.2.2.2.1)) ++ (List.take (1 : Nat) (List.drop (0 : Nat) (List.set (List.replicate (1 : Nat) false) (0 : Nat) ((Int.tmod x.2.2.1 (2 : Int)) == (1 : Int)))))))) then (some (Sum.inl (x.1, (x.2.1, ((Go.IntKind.wrap Go.IntKind.i64 (Int.tdiv x.2.2.1 (2 : Int))), ((Go.IntKind.wrap Go.IntKind.i64 (x.2.2.2.1 + (1 : Int))), (((List.take (List.length x.2.2.2.2.1) (List.drop (0 : Nat) x.2.2.2.2.1)) ++ (List.take (1 : Nat) (List.drop (0 : Nat) (List.set (List.replicate (1 : Nat) false) (0 : Nat) ((Int.tmod x.2.2.1 (2 : Int)) == (1 : Int)))))), Unit.unit)))))))
   else none)
   else none)
   else (if ((List.length x.2.2.2.2.1) = (List.length x.2.2.2.2.1)) then (some (Sum.inr (Sum.inl (x.1, (x.2.1, (x.2.2.2.2.1, Unit.unit))))))
   else none))
theorem b23_2_eq (x : g23_2.D) : b23_2 x = evF P (T22.orc _) Go.Proofs.Try.f23.ntmps fx23 (Code.at [true, true, false, true, false, false, true, false, false, true, true, false, false] c23) (planAt 64 []) g23_2 x (injK fx23 ((.normal, g23_2) :: o23_2) some) := by kernel_rfl
noncomputable def l23_2 : g23_2.D → Option (outD o23_2) := loopN g23_2 o23_2 b23_2 18446744073709551616
theorem at23_2 : Code.at [true, true, false, true, false, false, true, false, false, true, true, false] c23 = .loop (Code.at [true, true, false, true, false, false, true, false, false, true, true, false, false] c23) := by kernel_rfl
theorem s23_2_ok : SubOk P Go.Proofs.Try.f23.ntmps fx23 (Code.at [true, true, false, true, false, false, true, false, false, true, true, false] c23) ⟨g23_2, o23_2, l23_2⟩ := by
  rw [at23_2]
  exact loop_ok (sub_ok (g := g23_2) (outs := ((.normal, g23_2) :: o23_2)) (f := b23_2) (Table.ok T22_ok _) hmix (planAt_ok (P := P) (n := Go.Proofs.Try.f23.ntmps) (fx := fx23) (c := (Code.at [true, true, false, true, false, false, true, false, false, true, true, false, false] c23)) (d := 64) (l := []) trivial) b23_2_eq) rfl _
abbrev g23_1 : Sg := ⟨[0, 3, 4], [.lf (.sl (.int .u8)), .lf (.gr .bool 0), .lf (.int .i64)], [some (.arr true .bool)]⟩
abbrev o23_1 : Outs := [(.exit 0, ⟨[3], [.lf (.gr .bool 0)], [some (.arr true .bool)]⟩)]
noncomputable def b23_1 (x : g23_1.D) : Option (outD ((.normal, g23_1) :: o23_1)) :=
  (if ((decide (x.2.1 < (((List.length x.1) : Nat) : Int))) = true) then (if ((0 : Int) ≤ x.2.1) then (if (x.2.1 < (((List.length x.1) : Nat) : Int)) then (if ((List.length x.2.2.1) = (List.length x.2.2.1)) then (Option.bind (Go.Ev.Huff.l23_2 (x.1, (x.2.1, ((Go.IntKind.wrap Go.IntKind.i64 (List.getD x.1 (Int.toNat x.2.1) (0 : Int))), ((0 : Int), (x.2.2.1, Unit.unit)))))) (Sum.elim (fun y1 => (if ((List.length y1.2.2.1) = (List.length y1.2.2.1)) then (some (Sum.inl (y1.1, ((Go.IntKind.wrap Go.IntKind.i64 (y1.2.1 + (1 : Int))), (y1.2.2.1, Unit.unit)))))
   else none)) Empty.elim))
   else none)
   else none)
   else none)
   else (if ((List.length x.2.2.1) = (List.length x.2.2.1)) then (some (Sum.inr (Sum.inl (x.2.2.1, Unit.unit))))
   else none))
theorem b23_1_eq (x : g23_1.D) : b23_1 x = evF P (T22.orc _) Go.Proofs.Try.f23.ntmps fx23 (Code.at [true, true, false, true, false, false] c23) (planAt 64 [([true, false, false, true, true, false], ⟨g23_2, o23_2, l23_2⟩)]) g23_1 x (injK fx23 ((.normal, g23_1) :: o23_1) some) := by kernel_rfl
noncomputable def l23_1 : g23_1.D → Option (outD o23_1) := loopN g23_1 o23_1 b23_1 18446744073709551616
theorem p23_1 : AllSub P Go.Proofs.Try.f23.ntmps fx23 (Code.at [true, true, false, true, false, false] c23) [([true, false, false, true, true, false], ⟨g23_2, o23_2, l23_2⟩)] := And.intro s23_2_ok (trivial)
theorem q23_1 : PlanOk P Go.Proofs.Try.f23.ntmps fx23 (planAt 64 [([true, false, false, true, true, false], ⟨g23_2, o23_2, l23_2⟩)]) (Code.at [true, true, false, true, false, false] c23) := planAt_ok p23_1
theorem at23_1 : Code.at [true, true, false, true, false] c23 = .loop (Code.at [true, true, false, true, false, false] c23) := by kernel_rfl
theorem s23_1_ok : SubOk P Go.Proofs.Try.f23.ntmps fx23 (Code.at [true, true, false, true, false] c23) ⟨g23_1, o23_1, l23_1⟩ := by
  rw [at23_1]
  exact loop_ok (sub_ok (g := g23_1) (outs := ((.normal, g23_1) :: o23_1)) (f := b23_1) (Table.ok T22_ok _) hmix (q23_1) b23_1_eq) rfl _
noncomputable def f23 (x : gi23.D) : Option go23.D :=
  (Option.bind (Go.Ev.Huff.l23_1 (x.1, ((0 : Int), ([], Unit.unit)))) (Sum.elim (fun y1 => (if ((List.length y1.1) = (List.length y1.1)) then (some (y1.1, Unit.unit))
   else none)) Empty.elim))
theorem f23_eq (x : gi23.D) : f23 x = evF P (T22.orc _) Go.Proofs.Try.f23.ntmps fx23 c23 (planAt 64 [([true, true, false, true, false], ⟨g23_1, o23_1, l23_1⟩)]) gi23 x (fnK fx23 [go23]) := by kernel_rfl
theorem pf23 : AllSub P Go.Proofs.Try.f23.ntmps fx23 c23 [([true, true, false, true, false], ⟨g23_1, o23_1, l23_1⟩)] := And.intro s23_1_ok (trivial)
theorem qf23 : PlanOk P Go.Proofs.Try.f23.ntmps fx23 (planAt 64 [([true, true, false, true, false], ⟨g23_1, o23_1, l23_1⟩)]) c23 := planAt_ok pf23
theorem f23_ok : EntOk P 23 ⟨gi23, [go23], f23⟩ :=
  ent_ok (fn := Go.Proofs.Try.f23) (gi := gi23) (gos := [go23]) (f := f23) (c := c23) (fx := fx23) ⟨Go.Proofs.Try.func23, by kernel_rfl, rfl, by decide +kernel, rfl, rfl⟩ (by kernel_rfl) (Table.ok T22_ok _) hmix (qf23) f23_eq
noncomputable def T23 : Table := T22.add 23 [⟨gi23, [go23], f23⟩] []
theorem T23_ok : TableOk P T23 := Table.plus T22_ok (es := [⟨gi23, [go23], f23⟩]) ⟨f23_ok, trivial⟩ []

/-! ## 26: (*erasure/bits.Reader).Left -/
noncomputable def c26 : Code := Func.code Go.Proofs.Try.f26
abbrev gi26 : Sg := ⟨[0], [.lf (.ptr 0 0)], [some (.box true [.lf (.sl (.int .u8)), .lf (.int .i64), .lf (.int .i64), .lf (.int .i64)])]⟩
abbrev go26 : Sg := ⟨[2], [.lf (.int .i64)], [some (.box true [.lf (.sl (.int .u8)), .lf (.int .i64), .lf (.int .i64), .lf (.int .i64)])]⟩
def fx26 : List Bool := [true]
noncomputable def f26 (x : gi26.D) : Option go26.D :=
  (some ((Go.IntKind.wrap Go.IntKind.i64 ((Go.IntKind.wrap Go.IntKind.i64 ((8 : Int) * (Go.IntKind.wrap Go.IntKind.i64 ((((List.length x.1) : Nat) : Int) - x.2.1)))) + x.2.2.2.1)), (x.1, (x.2.1, (x.2.2.1, (x.2.2.2.1, Unit.unit))))))
theorem f26_eq (x : gi26.D) : f26 x = evF P (T23.orc _) Go.Proofs.Try.f26.ntmps fx26 c26 (planAt 64 []) gi26 x (fnK fx26 [go26]) := by kernel_rfl
theorem f26_ok : EntOk P 26 ⟨gi26, [go26], f26⟩ :=
  ent_ok (fn := Go.Proofs.Try.f26) (gi := gi26) (gos := [go26]) (f := f26) (c := c26) (fx := fx26) ⟨Go.Proofs.Try.func26, by kernel_rfl, rfl, by decide +kernel, rfl, rfl⟩ (by kernel_rfl) (Table.ok T23_ok _) hmix (planAt_ok (P := P) (n := Go.Proofs.Try.f26.ntmps) (fx := fx26) (c := c26) (d := 64) (l := []) trivial) f26_eq
noncomputable def T26 : Table := T23.add 26 [⟨gi26, [go26], f26⟩] []
theorem T26_ok : TableOk P T26 := Table.plus T23_ok (es := [⟨gi26, [go26], f26⟩]) ⟨f26_ok, trivial⟩ []

/-! ## 57: (*erasure/bits.Reader).next -/
noncomputable def c57 : Code := Func.code Go.Proofs.Try.f57
abbrev gi57 : Sg := ⟨[0], [.lf (.ptr 0 0)], [some (.box true [.lf (.sl (.int .u8)), .lf (.int .i64), .lf (.int .i64), .lf (.int .i64)])]⟩
abbrev go57 : Sg := ⟨[2], [.lf (.int .u8)], [some (.box true [.lf (.sl (.int .u8)), .lf (.int .i64), .lf (.int .i64), .lf (.int .i64)])]⟩
def fx57 : List Bool := [true]
noncomputable def f57 (x : gi57.D) : Option go57.D :=
  (if ((0 : Int) ≤ x.2.1) then (if (x.2.1 < (((List.length x.1) : Nat) : Int)) then (some ((List.getD x.1 (Int.toNat x.2.1) (0 : Int)), (x.1, ((Go.IntKind.wrap Go.IntKind.i64 (x.2.1 + (1 : Int))), (x.2.2.1, (x.2.2.2.1, Unit.unit))))))
   else none)
   else none)
theorem f57_eq (x : gi57.D) : f57 x = evF P (T26.orc _) Go.Proofs.Try.f57.ntmps fx57 c57 (planAt 64 []) gi57 x (fnK fx57 [go57]) := by kernel_rfl
theorem f57_ok : EntOk P 57 ⟨gi57, [go57], f57⟩ :=
  ent_ok (fn := Go.Proofs.Try.f57) (gi := gi57) (gos := [go57]) (f := f57) (c := c57) (fx := fx57) ⟨Go.Proofs.Try.func57, by kernel_rfl, rfl, by decide +kernel, rfl, rfl⟩ (by kernel_rfl) (Table.ok T26_ok _) hmix (planAt_ok (P := P) (n := Go.Proofs.Try.f57.ntmps) (fx := fx57) (c := c57) (d := 64) (l := []) trivial) f57_eq
noncomputable def T57 : Table := T26.add 57 [⟨gi57, [go57], f57⟩] []
theorem T57_ok : TableOk P T57 := Table.plus T26_ok (es := [⟨gi57, [go57], f57⟩]) ⟨f57_ok, trivial⟩ []

/-! ## 34: (*erasure/bits.Reader).Bits -/
noncomputable def c34 : Code := Func.code Go.Proofs.Try.f34
abbrev gi34 : Sg := ⟨[0, 1], [.lf (.ptr 0 0), .lf (.int .i64)], [some (.box true [.lf (.sl (.int .u8)), .lf (.int .i64), .lf (.int .i64), .lf (.int .i64)])]⟩
abbrev go34 : Sg := ⟨[4, 5], [.lf (.int .i64), .lf (.int .i64)], [some (.box true [.lf (.sl (.int .u8)), .lf (.int .i64), .lf (.int .i64), .lf (.int .i64)])]⟩
def fx34 : List Bool := [true]
abbrev g34_1 : Sg := ⟨[0, 1, 6], [.lf (.ptr 0 0), .lf (.int .i64), .lf (.ifc 43 (.ptr 0 0))], [some (.box true [.lf (.sl (.int .u8)), .lf (.int .i64), .lf (.int .i64), .lf (.int .i64)])]⟩
abbrev o34_1 : Outs := [(.exit 1, ⟨[0, 1], [.lf (.ptr 0 0), .lf (.int .i64)], [some (.box true [.lf (.sl (.int .u8)), .lf (.int .i64), .lf (.int .i64), .lf (.int .i64)])]⟩)]
noncomputable def b34_1 (x : g34_1.D) : Option (outD ((.normal, g34_1) :: o34_1)) :=
  (if ((decide (x.2.2.2.2.1 < x.1)) = true) then (Option.bind (Go.Ev.Huff.f57 (x.2.1, (x.2.2.1, (x.2.2.2.1, (x.2.2.2.2.1, Unit.unit))))) (fun y1 => (if (y1.2.2.2.2.1 < (0 : Int)) then none
   else (if ((decide (x.2.2.2.1 = y1.2.2.2.1)) = true) then (if ((decide (x.2.2.2.2.1 = y1.2.2.2.2.1)) = true) then (some (Sum.inl (x.1, (y1.2.1, (y1.2.2.1, ((Go.IntKind.wrap Go.IntKind.i64 (((BitVec.toNat ((BitVec.ofInt (64 : Nat) x.2.2.2.1) ||| (BitVec.ofInt (64 : Nat) (Go.IntKind.wrap Go.IntKind.i64 ((Go.IntKind.wrap Go.IntKind.i64 y1.1) * ((2 : Int) ^ (Min.min (Int.toNat y1.2.2.2.2.1) (64 : Nat)))))))) : Nat) : Int)), ((Go.IntKind.wrap Go.IntKind.i64 (y1.2.2.2.2.1 + (8 : Int))), Unit.unit)))))))
   else none)
   else none))))
   else (some (Sum.inr (Sum.inl (x.1, (x.2.1, (x.2.2.1, (x.2.2.2.1, (x.2.2.2.2.1, Unit.unit)))))))))
theorem b34_1_eq (x : g34_1.D) : b34_1 x = evF P (T57.orc _) Go.Proofs.Try.f34.ntmps fx34 (Code.at [true, true, true, false, false, false] c34) (planAt 64 []) g34_1 x (injK fx34 ((.normal, g34_1) :: o34_1) some) := by kernel_rfl
noncomputable def l34_1 : g34_1.D → Option (outD o34_1) := loopN g34_1 o34_1 b34_1 18446744073709551616
theorem at34_1 : Code.at [true, true, true, false, false] c34 = .loop (Code.at [true, true, true, false, false, false] c34) := by kernel_rfl
theorem s34_1_ok : SubOk P Go.Proofs.Try.f34.ntmps fx34 (Code.at [true, true, true, false, false] c34) ⟨g34_1, o34_1, l34_1⟩ := by
  rw [at34_1]
  exact loop_ok (sub_ok (g := g34_1) (outs := ((.normal, g34_1) :: o34_1)) (f := b34_1) (Table.ok T57_ok _) hmix (planAt_ok (P := P) (n := Go.Proofs.Try.f34.ntmps) (fx := fx34) (c := (Code.at [true, true, true, false, false, false] c34)) (d := 64) (l := []) trivial) b34_1_eq) rfl _
noncomputable def f34 (x : gi34.D) : Option go34.D :=
  (if ((decide (x.1 < (0 : Int))) = true) then (some ((0 : Int), ((1 : Int), (x.2.1, (x.2.2.1, (x.2.2.2.1, (x.2.2.2.2.1, Unit.unit)))))))
   else (if ((decide (x.1 > (24 : Int))) = true) then (some ((0 : Int), ((1 : Int), (x.2.1, (x.2.2.1, (x.2.2.2.1, (x.2.2.2.2.1, Unit.unit)))))))
   else (Option.bind (Go.Ev.Huff.f26 (x.2.1, (x.2.2.1, (x.2.2.2.1, (x.2.2.2.2.1, Unit.unit))))) (fun y1 => (if ((decide (x.1 > y1.1)) = true) then (some ((0 : Int), ((6 : Int), (y1.2.1, (y1.2.2.1, (y1.2.2.2.1, (y1.2.2.2.2.1, Unit.unit)))))))
   else (Option.bind (Go.Ev.Huff.l34_1 (x.1, (y1.2.1, (y1.2.2.1, (y1.2.2.2.1, (y1.2.2.2.2.1, Unit.unit)))))) (Sum.elim (fun y2 => (if (y2.1 < (0 : Int)) then none
   else (if (y2.1 < (0 : Int)) then none
   else (some ((Go.IntKind.wrap Go.IntKind.i64 (((BitVec.toNat ((BitVec.ofInt (64 : Nat) y2.2.2.2.1) &&& (BitVec.ofInt (64 : Nat) (Go.IntKind.wrap Go.IntKind.i64 ((Go.IntKind.wrap Go.IntKind.i64 ((1 : Int) * ((2 : Int) ^ (Min.min (Int.toNat y2.1) (64 : Nat))))) - (1 : Int)))))) : Nat) : Int)), ((0 : Int), (y2.2.1, (y2.2.2.1, ((Int.fdiv y2.2.2.2.1 ((2 : Int) ^ (Min.min (Int.toNat y2.1) (64 : Nat)))), ((Go.IntKind.wrap Go.IntKind.i64 (y2.2.2.2.2.1 - y2.1)), Unit.unit)))))))))) Empty.elim)))))))
theorem f34_eq (x : gi34.D) : f34 x = evF P (T57.orc _) Go.Proofs.Try.f34.ntmps fx34 c34 (planAt 64 [([true, true, true, false, false], ⟨g34_1, o34_1, l34_1⟩)]) gi34 x (fnK fx34 [go34]) := by kernel_rfl
theorem pf34 : AllSub P Go.Proofs.Try.f34.ntmps fx34 c34 [([true, true, true, false, false], ⟨g34_1, o34_1, l34_1⟩)] := And.intro s34_1_ok (trivial)
theorem qf34 : PlanOk P Go.Proofs.Try.f34.ntmps fx34 (planAt 64 [([true, true, true, false, false], ⟨g34_1, o34_1, l34_1⟩)]) c34 := planAt_ok pf34
theorem f34_ok : EntOk P 34 ⟨gi34, [go34], f34⟩ :=
  ent_ok (fn := Go.Proofs.Try.f34) (gi := gi34) (gos := [go34]) (f := f34) (c := c34) (fx := fx34) ⟨Go.Proofs.Try.func34, by kernel_rfl, rfl, by decide +kernel, rfl, rfl⟩ (by kernel_rfl) (Table.ok T57_ok _) hmix (qf34) f34_eq
noncomputable def T34 : Table := T57.add 34 [⟨gi34, [go34], f34⟩] []
theorem T34_ok : TableOk P T34 := Table.plus T57_ok (es := [⟨gi34, [go34], f34⟩]) ⟨f34_ok, trivial⟩ []

/-! ## 24: (*erasure/huff.Table).Read -/
noncomputable def c24 : Code := Func.code Go.Proofs.Try.f24
abbrev gi24 : Sg := ⟨[0, 1], [.lf .nilp, .lf (.ptr 0 0)], [some (.box true [.lf (.sl (.int .u8)), .lf (.int .i64), .lf (.int .i64), .lf (.int .i64)])]⟩
abbrev go24 : Sg := ⟨[4, 5], [.lf (.int .i64), .lf (.int .i64)], [some (.box true [.lf (.sl (.int .u8)), .lf (.int .i64), .lf (.int .i64), .lf (.int .i64)])]⟩
def fx24 : List Bool := [true]
noncomputable def f24 (x : gi24.D) : Option go24.D :=
  (some ((0 : Int), ((3 : Int), (x.1, (x.2.1, (x.2.2.1, (x.2.2.2.1, Unit.unit)))))))
theorem f24_eq (x : gi24.D) : f24 x = evF P (T34.orc _) Go.Proofs.Try.f24.ntmps fx24 c24 (planAt 64 []) gi24 x (fnK fx24 [go24]) := by kernel_rfl
theorem f24_ok : EntOk P 24 ⟨gi24, [go24], f24⟩ :=
  ent_ok (fn := Go.Proofs.Try.f24) (gi := gi24) (gos := [go24]) (f := f24) (c := c24) (fx := fx24) ⟨Go.Proofs.Try.func24, by kernel_rfl, rfl, by decide +kernel, rfl, rfl⟩ (by kernel_rfl) (Table.ok T34_ok _) hmix (planAt_ok (P := P) (n := Go.Proofs.Try.f24.ntmps) (fx := fx24) (c := c24) (d := 64) (l := []) trivial) f24_eq
abbrev gi24_b : Sg := ⟨[0, 1], [.lf (.ptr 0 0), .lf (.ptr 2 0)], [some (.box true [.many (.int .i64) 16, .lf (.sl (.int .i64)), .lf (.sl (.int .i64)), .lf (.gr (.int .i64) 1)]), some (.arr true (.int .i64)), some (.box true [.lf (.sl (.int .u8)), .lf (.int .i64), .lf (.int .i64), .lf (.int .i64)])]⟩
abbrev go24_b : Sg := ⟨[4, 5], [.lf (.int .i64), .lf (.int .i64)], [some (.box true [.many (.int .i64) 16, .lf (.sl (.int .i64)), .lf (.sl (.int .i64)), .lf (.gr (.int .i64) 1)]), some (.arr true (.int .i64)), some (.box true [.lf (.sl (.int .u8)), .lf (.int .i64), .lf (.int .i64), .lf (.int .i64)])]⟩
def fx24_b : List Bool := [true, true, true]
abbrev g24_b_2 : Sg := ⟨[0, 1, 6, 7, 8, 9, 12], [.lf (.ptr 0 0), .lf (.ptr 2 0), .lf (.int .i64), .lf (.int .i64), .lf (.int .i64), .lf (.int .i64), .lf (.int .i64)], [some (.box true [.many (.int .i64) 16, .lf (.sl (.int .i64)), .lf (.sl (.int .i64)), .lf (.gr (.int .i64) 1)]), some (.arr true (.int .i64)), some (.box true [.lf (.sl (.int .u8)), .lf (.int .i64), .lf (.int .i64), .lf (.int .i64)])]⟩
abbrev o24_b_2 : Outs := [(.normal, ⟨[0, 1, 6, 7, 8, 9, 12, 51], [.lf (.ptr 0 0), .lf (.ptr 2 0), .lf (.int .i64), .lf (.int .i64), .lf (.int .i64), .lf (.int .i64), .lf (.int .i64), .lf .bool], [some (.box true [.many (.int .i64) 16, .lf (.sl (.int .i64)), .lf (.sl (.int .i64)), .lf (.gr (.int .i64) 1)]), some (.arr true (.int .i64)), some (.box true [.lf (.sl (.int .u8)), .lf (.int .i64), .lf (.int .i64), .lf (.int .i64)])]⟩)]
noncomputable def b24_b_2 (x : g24_b_2.D) : Option (outD o24_b_2) :=
  (if ((decide (x.2.2.2.2.1 ≥ (0 : Int))) = true) then (if ((0 : Int) ≤ x.2.2.2.1) then (if (x.2.2.2.1 < (16 : Int)) then (if ((List.length x.2.2.2.2.2.2.2.2.1) = (List.length x.2.2.2.2.2.2.2.2.1)) then (some (Sum.inl (x.1, (x.2.1, (x.2.2.1, (x.2.2.2.1, (x.2.2.2.2.1, ((decide (x.2.2.2.2.1 < (List.getD x.2.2.2.2.2.1 (Int.toNat x.2.2.2.1) (0 : Int)))), (x.2.2.2.2.2.1, (x.2.2.2.2.2.2.1, (x.2.2.2.2.2.2.2.1, (x.2.2.2.2.2.2.2.2.1, (x.2.2.2.2.2.2.2.2.2.1, (x.2.2.2.2.2.2.2.2.2.2.1, (x.2.2.2.2.2.2.2.2.2.2.2.1, (x.2.2.2.2.2.2.2.2.2.2.2.2.1, Unit.unit))))))))))))))))
   else none)
   else none)
   else none)
   else (if ((List.length x.2.2.2.2.2.2.2.2.1) = (List.length x.2.2.2.2.2.2.2.2.1)) then (some (Sum.inl (x.1, (x.2.1, (x.2.2.1, (x.2.2.2.1, (x.2.2.2.2.1, (false, (x.2.2.2.2.2.1, (x.2.2.2.2.2.2.1, (x.2.2.2.2.2.2.2.1, (x.2.2.2.2.2.2.2.2.1, (x.2.2.2.2.2.2.2.2.2.1, (x.2.2.2.2.2.2.2.2.2.2.1, (x.2.2.2.2.2.2.2.2.2.2.2.1, (x.2.2.2.2.2.2.2.2.2.2.2.2.1, Unit.unit))))))))))))))))
   else none))
theorem b24_b_2_eq (x : g24_b_2.D) : b24_b_2 x = evF P (T34.orc _) Go.Proofs.Try.f24.ntmps fx24_b (Code.at [true, true, true, false, true, false, false, true, false, false, true, true, true, false, true, false] c24) (planAt 64 []) g24_b_2 x (injK fx24_b o24_b_2 some) := by kernel_rfl
theorem s24_b_2_ok : SubOk P Go.Proofs.Try.f24.ntmps fx24_b (Code.at [true, true, true, false, true, false, false, true, false, false, true, true, true, false, true, false] c24) ⟨g24_b_2, o24_b_2, b24_b_2⟩ :=
  sub_ok (g := g24_b_2) (outs := o24_b_2) (f := b24_b_2) (Table.ok T34_ok _) hmix (planAt_ok (P := P) (n := Go.Proofs.Try.f24.ntmps) (fx := fx24_b) (c := (Code.at [true, true, true, false, true, false, false, true, false, false, true, true, true, false, true, false] c24)) (d := 64) (l := []) trivial) b24_b_2_eq
abbrev g24_b_1 : Sg := ⟨[0, 1, 6, 7, 8, 9], [.lf (.ptr 0 0), .lf (.ptr 2 0), .lf (.int .i64), .lf (.int .i64), .lf (.int .i64), .lf (.int .i64)], [some (.box true [.many (.int .i64) 16, .lf (.sl (.int .i64)), .lf (.sl (.int .i64)), .lf (.gr (.int .i64) 1)]), some (.arr true (.int .i64)), some (.box true [.lf (.sl (.int .u8)), .lf (.int .i64), .lf (.int .i64), .lf (.int .i64)])]⟩
abbrev o24_b_1 : Outs := [(.exit 0, ⟨[], [], [some (.box true [.many (.int .i64) 16, .lf (.sl (.int .i64)), .lf (.sl (.int .i64)), .lf (.gr (.int .i64) 1)]), some (.arr true (.int .i64)), some (.box true [.lf (.sl (.int .u8)), .lf (.int .i64), .lf (.int .i64), .lf (.int .i64)])]⟩), (.ret, ⟨[4, 5], [.lf (.int .i64), .lf (.int .i64)], [some (.box true [.many (.int .i64) 16, .lf (.sl (.int .i64)), .lf (.sl (.int .i64)), .lf (.gr (.int .i64) 1)]), some (.arr true (.int .i64)), some (.box true [.lf (.sl (.int .u8)), .lf (.int .i64), .lf (.int .i64), .lf (.int .i64)])]⟩)]
noncomputable def b24_b_1 (x : g24_b_1.D) : Option (outD ((.normal, g24_b_1) :: o24_b_1)) :=
  (if ((decide (x.2.2.2.1 ≤ (15 : Int))) = true) then (Option.bind (Go.Ev.Huff.f34 ((1 : Int), (x.2.2.2.2.2.2.2.2.1, (x.2.2.2.2.2.2.2.2.2.1, (x.2.2.2.2.2.2.2.2.2.2.1, (x.2.2.2.2.2.2.2.2.2.2.2.1, Unit.unit)))))) (fun y1 => (if ((y1.2.1 != (0 : Int)) = true) then (if ((List.length x.2.2.2.2.2.2.2.1) = (List.length x.2.2.2.2.2.2.2.1)) then (some (Sum.inr (Sum.inr (Sum.inl ((0 : Int), (y1.2.1, (x.2.2.2.2.1, (x.2.2.2.2.2.1, (x.2.2.2.2.2.2.1, (x.2.2.2.2.2.2.2.1, (y1.2.2.1, (y1.2.2.2.1, (y1.2.2.2.2.1, (y1.2.2.2.2.2.1, Unit.unit))))))))))))))
   else none)
   else (if ((List.length x.2.2.2.2.2.2.2.1) = (List.length x.2.2.2.2.2.2.2.1)) then (Option.bind (Go.Ev.Huff.b24_b_2 ((Go.IntKind.wrap Go.IntKind.i64 (((BitVec.toNat ((BitVec.ofInt (64 : Nat) (Go.IntKind.wrap Go.IntKind.i64 (x.1 * (2 : Int)))) ||| (BitVec.ofInt (64 : Nat) y1.1))) : Nat) : Int)), ((Go.IntKind.wrap Go.IntKind.i64 (x.2.1 * (2 : Int))), (x.2.2.1, (x.2.2.2.1, ((Go.IntKind.wrap Go.IntKind.i64 ((Go.IntKind.wrap Go.IntKind.i64 (((BitVec.toNat ((BitVec.ofInt (64 : Nat) (Go.IntKind.wrap Go.IntKind.i64 (x.1 * (2 : Int)))) ||| (BitVec.ofInt (64 : Nat) y1.1))) : Nat) : Int)) - (Go.IntKind.wrap Go.IntKind.i64 (x.2.1 * (2 : Int))))), (x.2.2.2.2.1, (x.2.2.2.2.2.1, (x.2.2.2.2.2.2.1, (x.2.2.2.2.2.2.2.1, (y1.2.2.1, (y1.2.2.2.1, (y1.2.2.2.2.1, (y1.2.2.2.2.2.1, Unit.unit)))))))))))))) (Sum.elim (fun y2 => (if (y2.2.2.2.2.2.1 = true) then (if ((0 : Int) ≤ (Go.IntKind.wrap Go.IntKind.i64 (y2.2.2.1 + y2.2.2.2.2.1))) then (if ((Go.IntKind.wrap Go.IntKind.i64 (y2.2.2.1 + y2.2.2.2.2.1)) < (((List.length y2.2.2.2.2.2.2.2.2.2.1) : Nat) : Int)) then (if ((List.length y2.2.2.2.2.2.2.2.2.2.1) = (List.length y2.2.2.2.2.2.2.2.2.2.1)) then (some (Sum.inr (Sum.inr (Sum.inl ((List.getD y2.2.2.2.2.2.2.2.2.2.1 ((0 : Nat) + (Int.toNat (Go.IntKind.wrap Go.IntKind.i64 (y2.2.2.1 + y2.2.2.2.2.1)))) (0 : Int)), ((0 : Int), (y2.2.2.2.2.2.2.1, (y2.2.2.2.2.2.2.2.1, (y2.2.2.2.2.2.2.2.2.1, (y2.2.2.2.2.2.2.2.2.2.1, (y2.2.2.2.2.2.2.2.2.2.2.1, (y2.2.2.2.2.2.2.2.2.2.2.2.1, (y2.2.2.2.2.2.2.2.2.2.2.2.2.1, (y2.2.2.2.2.2.2.2.2.2.2.2.2.2.1, Unit.unit))))))))))))))
   else none)
   else none)
   else none)
   else (if ((0 : Int) ≤ y2.2.2.2.1) then (if (y2.2.2.2.1 < (16 : Int)) then (if ((0 : Int) ≤ y2.2.2.2.1) then (if (y2.2.2.2.1 < (16 : Int)) then (if ((List.length y2.2.2.2.2.2.2.2.2.2.1) = (List.length y2.2.2.2.2.2.2.2.2.2.1)) then (some (Sum.inl (y2.1, ((Go.IntKind.wrap Go.IntKind.i64 (y2.2.1 + (List.getD y2.2.2.2.2.2.2.1 (Int.toNat y2.2.2.2.1) (0 : Int)))), ((Go.IntKind.wrap Go.IntKind.i64 (y2.2.2.1 + (List.getD y2.2.2.2.2.2.2.1 (Int.toNat y2.2.2.2.1) (0 : Int)))), ((Go.IntKind.wrap Go.IntKind.i64 (y2.2.2.2.1 + (1 : Int))), (y2.2.2.2.2.2.2.1, (y2.2.2.2.2.2.2.2.1, (y2.2.2.2.2.2.2.2.2.1, (y2.2.2.2.2.2.2.2.2.2.1, (y2.2.2.2.2.2.2.2.2.2.2.1, (y2.2.2.2.2.2.2.2.2.2.2.2.1, (y2.2.2.2.2.2.2.2.2.2.2.2.2.1, (y2.2.2.2.2.2.2.2.2.2.2.2.2.2.1, Unit.unit))))))))))))))
   else none)
   else none)
   else none)
   else none)
   else none))) Empty.elim))
   else none))))
   else (if ((List.length x.2.2.2.2.2.2.2.1) = (List.length x.2.2.2.2.2.2.2.1)) then (some (Sum.inr (Sum.inl (x.2.2.2.2.1, (x.2.2.2.2.2.1, (x.2.2.2.2.2.2.1, (x.2.2.2.2.2.2.2.1, (x.2.2.2.2.2.2.2.2.1, (x.2.2.2.2.2.2.2.2.2.1, (x.2.2.2.2.2.2.2.2.2.2.1, (x.2.2.2.2.2.2.2.2.2.2.2.1, Unit.unit)))))))))))
   else none))
theorem b24_b_1_eq (x : g24_b_1.D) : b24_b_1 x = evF P (T34.orc _) Go.Proofs.Try.f24.ntmps fx24_b (Code.at [true, true, true, false, true, false, false] c24) (planAt 64 [([true, false, false, true, true, true, false, true, false], ⟨g24_b_2, o24_b_2, b24_b_2⟩)]) g24_b_1 x (injK fx24_b ((.normal, g24_b_1) :: o24_b_1) some) := by kernel_rfl
noncomputable def l24_b_1 : g24_b_1.D → Option (outD o24_b_1) := loopN g24_b_1 o24_b_1 b24_b_1 18446744073709551616
theorem p24_b_1 : AllSub P Go.Proofs.Try.f24.ntmps fx24_b (Code.at [true, true, true, false, true, false, false] c24) [([true, false, false, true, true, true, false, true, false], ⟨g24_b_2, o24_b_2, b24_b_2⟩)] := And.intro s24_b_2_ok (trivial)
theorem q24_b_1 : PlanOk P Go.Proofs.Try.f24.ntmps fx24_b (planAt 64 [([true, false, false, true, true, true, false, true, false], ⟨g24_b_2, o24_b_2, b24_b_2⟩)]) (Code.at [true, true, true, false, true, false, false] c24) := planAt_ok p24_b_1
theorem at24_b_1 : Code.at [true, true, true, false, true, false] c24 = .loop (Code.at [true, true, true, false, true, false, false] c24) := by kernel_rfl
theorem s24_b_1_ok : SubOk P Go.Proofs.Try.f24.ntmps fx24_b (Code.at [true, true, true, false, true, false] c24) ⟨g24_b_1, o24_b_1, l24_b_1⟩ := by
  rw [at24_b_1]
  exact loop_ok (sub_ok (g := g24_b_1) (outs := ((.normal, g24_b_1) :: o24_b_1)) (f := b24_b_1) (Table.ok T34_ok _) hmix (q24_b_1) b24_b_1_eq) rfl _
noncomputable def f24_b (x : gi24_b.D) : Option go24_b.D :=
  (if ((List.length x.2.2.2.1) = (List.length x.2.2.2.1)) then (Option.bind (Go.Ev.Huff.l24_b_1 ((0 : Int), ((0 : Int), ((0 : Int), ((1 : Int), (x.1, (x.2.1, (x.2.2.1, (x.2.2.2.1, (x.2.2.2.2.1, (x.2.2.2.2.2.1, (x.2.2.2.2.2.2.1, (x.2.2.2.2.2.2.2.1, Unit.unit))))))))))))) (Sum.elim (fun y1 => (if ((List.length y1.2.2.2.1) = (List.length y1.2.2.2.1)) then (some ((0 : Int), ((4 : Int), (y1.1, (y1.2.1, (y1.2.2.1, (y1.2.2.2.1, (y1.2.2.2.2.1, (y1.2.2.2.2.2.1, (y1.2.2.2.2.2.2.1, (y1.2.2.2.2.2.2.2.1, Unit.unit)))))))))))
   else none)) (Sum.elim (fun y1 => (if ((List.length y1.2.2.2.2.2.1) = (List.length y1.2.2.2.2.2.1)) then (some (y1.1, (y1.2.1, (y1.2.2.1, (y1.2.2.2.1, (y1.2.2.2.2.1, (y1.2.2.2.2.2.1, (y1.2.2.2.2.2.2.1, (y1.2.2.2.2.2.2.2.1, (y1.2.2.2.2.2.2.2.2.1, (y1.2.2.2.2.2.2.2.2.2.1, Unit.unit)))))))))))
   else none)) Empty.elim)))
   else none)
theorem f24_b_eq (x : gi24_b.D) : f24_b x = evF P (T34.orc _) Go.Proofs.Try.f24.ntmps fx24_b c24 (planAt 64 [([true, true, true, false, true, false], ⟨g24_b_1, o24_b_1, l24_b_1⟩)]) gi24_b x (fnK fx24_b [go24_b]) := by kernel_rfl
theorem pf24_b : AllSub P Go.Proofs.Try.f24.ntmps fx24_b c24 [([true, true, true, false, true, false], ⟨g24_b_1, o24_b_1, l24_b_1⟩)] := And.intro s24_b_1_ok (trivial)
theorem qf24_b : PlanOk P Go.Proofs.Try.f24.ntmps fx24_b (planAt 64 [([true, true, true, false, true, false], ⟨g24_b_1, o24_b_1, l24_b_1⟩)]) c24 := planAt_ok pf24_b
theorem f24_b_ok : EntOk P 24 ⟨gi24_b, [go24_b], f24_b⟩ :=
  ent_ok (fn := Go.Proofs.Try.f24) (gi := gi24_b) (gos := [go24_b]) (f := f24_b) (c := c24) (fx := fx24_b) ⟨Go.Proofs.Try.func24, by kernel_rfl, rfl, by decide +kernel, rfl, rfl⟩ (by kernel_rfl) (Table.ok T34_ok _) hmix (qf24_b) f24_b_eq
abbrev gi24_c : Sg := ⟨[0, 1], [.lf (.ptr 0 0), .lf .nilp], [some (.box true [.many (.int .i64) 16, .lf (.sl (.int .i64)), .lf (.sl (.int .i64)), .lf (.gr (.int .i64) 1)]), some (.arr true (.int .i64))]⟩
abbrev go24_c : Sg := ⟨[4, 5], [.lf (.int .i64), .lf (.int .i64)], [some (.box true [.many (.int .i64) 16, .lf (.sl (.int .i64)), .lf (.sl (.int .i64)), .lf (.gr (.int .i64) 1)]), some (.arr true (.int .i64))]⟩
def fx24_c : List Bool := [true, true]
noncomputable def f24_c (x : gi24_c.D) : Option go24_c.D :=
  (if ((List.length x.2.2.2.1) = (List.length x.2.2.2.1)) then (some ((0 : Int), ((3 : Int), (x.1, (x.2.1, (x.2.2.1, (x.2.2.2.1, Unit.unit)))))))
   else none)
theorem f24_c_eq (x : gi24_c.D) : f24_c x = evF P (T34.orc _) Go.Proofs.Try.f24.ntmps fx24_c c24 (planAt 64 []) gi24_c x (fnK fx24_c [go24_c]) := by kernel_rfl
theorem f24_c_ok : EntOk P 24 ⟨gi24_c, [go24_c], f24_c⟩ :=
  ent_ok (fn := Go.Proofs.Try.f24) (gi := gi24_c) (gos := [go24_c]) (f := f24_c) (c := c24) (fx := fx24_c) ⟨Go.Proofs.Try.func24, by kernel_rfl, rfl, by decide +kernel, rfl, rfl⟩ (by kernel_rfl) (Table.ok T34_ok _) hmix (planAt_ok (P := P) (n := Go.Proofs.Try.f24.ntmps) (fx := fx24_c) (c := c24) (d := 64) (l := []) trivial) f24_c_eq
noncomputable def T24 : Table := T34.add 24 [⟨gi24, [go24], f24⟩, ⟨gi24_b, [go24_b], f24_b⟩, ⟨gi24_c, [go24_c], f24_c⟩] []
theorem T24_ok : TableOk P T24 := Table.plus T34_ok (es := [⟨gi24, [go24], f24⟩, ⟨gi24_b, [go24_b], f24_b⟩, ⟨gi24_c, [go24_c], f24_c⟩]) ⟨f24_ok, f24_b_ok, f24_c_ok, trivial⟩ []

/-! ## 38: erasure/erasureref04.Number -/
noncomputable def c38 : Code := Func.code Go.Proofs.Try.f38
abbrev gi38 : Sg := ⟨[0], [.lf (.sl .bool)], []⟩
abbrev go38 : Sg := ⟨[2], [.lf (.int .i64)], []⟩
def fx38 : List Bool := []
abbrev g38_1 : Sg := ⟨[0, 3, 4], [.lf (.sl .bool), .lf (.int .i64), .lf (.int .i64)], []⟩
abbrev o38_1 : Outs := [(.exit 0, ⟨[3], [.lf (.int .i64)], []⟩)]
noncomputable def b38_1 (x : g38_1.D) : Option (outD ((.normal, g38_1) :: o38_1)) :=
  (if ((decide (x.2.2.1 ≥ (0 : Int))) = true) then (if ((0 : Int) ≤ x.2.2.1) then (if (x.2.2.1 < (((List.length x.1) : Nat) : Int)) then (if ((List.getD x.1 (Int.toNat x.2.2.1) false) = true) then (some (Sum.inl (x.1, ((Go.IntKind.wrap Go.IntKind.i64 ((Go.IntKind.wrap Go.IntKind.i64 ((2 : Int) * x.2.1)) + (1 : Int))), ((Go.IntKind.wrap Go.IntKind.i64 (x.2.2.1 - (1 : Int))), Unit.unit)))))
   else (some (Sum.inl (x.1, ((Go.IntKind.wrap Go.IntKind.i64 ((2 : Int) * x.2.1)), ((Go.IntKind.wrap Go.IntKind.i64 (x.2.2.1 - (1 : Int))), Unit.unit))))))
   else none)
   else none)
   else (some (Sum.inr (Sum.inl (x.2.1, Unit.unit)))))
theorem b38_1_eq (x : g38_1.D) : b38_1 x = evF P (T24.orc _) Go.Proofs.Try.f38.ntmps fx38 (Code.at [true, true, false, true, false, false] c38) (planAt 64 []) g38_1 x (injK fx38 ((.normal, g38_1) :: o38_1) some) := by kernel_rfl
noncomputable def l38_1 : g38_1.D → Option (outD o38_1) := loopN g38_1 o38_1 b38_1 18446744073709551616
theorem at38_1 : Code.at [true, true, false, true, false] c38 = .loop (Code.at [true, true, false, true, false, false] c38) := by kernel_rfl
theorem s38_1_ok : SubOk P Go.Proofs.Try.f38.ntmps fx38 (Code.at [true, true, false, true, false] c38) ⟨g38_1, o38_1, l38_1⟩ := by
  rw [at38_1]
  exact loop_ok (sub_ok (g := g38_1) (outs := ((.normal, g38_1) :: o38_1)) (f := b38_1) (Table.ok T24_ok _) hmix (planAt_ok (P := P) (n := Go.Proofs.Try.f38.ntmps) (fx := fx38) (c := (Code.at [true, true, false, true, false, false] c38)) (d := 64) (l := []) trivial) b38_1_eq) rfl _
noncomputable def f38 (x : gi38.D) : Option go38.D :=
  (Option.bind (Go.Ev.Huff.l38_1 (x.1, ((0 : Int), ((Go.IntKind.wrap Go.IntKind.i64 ((((List.length x.1) : Nat) : Int) - (1 : Int))), Unit.unit)))) (Sum.elim (fun y1 => (some (y1.1, Unit.unit))) Empty.elim))
theorem f38_eq (x : gi38.D) : f38 x = evF P (T24.orc _) Go.Proofs.Try.f38.ntmps fx38 c38 (planAt 64 [([true, true, false, true, false], ⟨g38_1, o38_1, l38_1⟩)]) gi38 x (fnK fx38 [go38]) := by kernel_rfl
theorem pf38 : AllSub P Go.Proofs.Try.f38.ntmps fx38 c38 [([true, true, false, true, false], ⟨g38_1, o38_1, l38_1⟩)] := And.intro s38_1_ok (trivial)
theorem qf38 : PlanOk P Go.Proofs.Try.f38.ntmps fx38 (planAt 64 [([true, true, false, true, false], ⟨g38_1, o38_1, l38_1⟩)]) c38 := planAt_ok pf38
theorem f38_ok : EntOk P 38 ⟨gi38, [go38], f38⟩ :=
  ent_ok (fn := Go.Proofs.Try.f38) (gi := gi38) (gos := [go38]) (f := f38) (c := c38) (fx := fx38) ⟨Go.Proofs.Try.func38, by kernel_rfl, rfl, by decide +kernel, rfl, rfl⟩ (by kernel_rfl) (Table.ok T24_ok _) hmix (qf38) f38_eq
noncomputable def T38 : Table := T24.add 38 [⟨gi38, [go38], f38⟩] []
theorem T38_ok : TableOk P T38 := Table.plus T24_ok (es := [⟨gi38, [go38], f38⟩]) ⟨f38_ok, trivial⟩ []

/-! ## 35: (*erasure/erasureref04.Reader).Bits -/
noncomputable def c35 : Code := Func.code Go.Proofs.Try.f35
abbrev gi35 : Sg := ⟨[0, 1], [.lf (.ptr 0 0), .lf (.int .i64)], [some (.box true [.lf (.sl .bool), .lf (.int .i64)])]⟩
abbrev go35 : Sg := ⟨[4, 5], [.lf (.int .i64), .lf (.int .i64)], [some (.box true [.lf (.sl .bool), .lf (.int .i64)])]⟩
def fx35 : List Bool := [true]
noncomputable def f35 (x : gi35.D) : Option go35.D :=
  (if ((decide (x.1 < (0 : Int))) = true) then (some ((0 : Int), ((1 : Int), (x.2.1, (x.2.2.1, Unit.unit)))))
   else (if ((decide (x.1 > (24 : Int))) = true) then (some ((0 : Int), ((1 : Int), (x.2.1, (x.2.2.1, Unit.unit)))))
   else (if ((decide (x.1 > (Go.IntKind.wrap Go.IntKind.i64 ((((List.length x.2.1) : Nat) : Int) - x.2.2.1)))) = true) then (some ((0 : Int), ((6 : Int), (x.2.1, (x.2.2.1, Unit.unit)))))
   else (if ((0 : Int) ≤ (Go.IntKind.wrap Go.IntKind.i64 (x.2.2.1 + x.1))) then (if ((Go.IntKind.wrap Go.IntKind.i64 (x.2.2.1 + x.1)) ≤ (((List.length x.2.1) : Nat) : Int)) then (if ((0 : Int) ≤ (Go.IntKind.wrap Go.IntKind.i64 ((Go.IntKind.wrap Go.IntKind.i64 (x.2.2.1 + x.1)) - x.1))) then (if ((Go.IntKind.wrap Go.IntKind.i64 ((Go.IntKind.wrap Go.IntKind.i64 (x.2.2.1 + x.1)) - x.1)) ≤ (((Int.toNat (Go.IntKind.wrap Go.IntKind.i64 (x.2.2.1 + x.1))) : Nat) : Int)) then (Option.bind (Go.Ev.Huff.f38 ((List.drop (Int.toNat (Go.IntKind.wrap Go.IntKind.i64 ((Go.IntKind.wrap Go.IntKind.i64 (x.2.2.1 + x.1)) - x.1))) (List.take (Int.toNat (Go.IntKind.wrap Go.IntKind.i64 (x.2.2.1 + x.1))) x.2.1)), Unit.unit)) (fun y1 => (some (y1.1, ((0 : Int), (x.2.1, ((Go.IntKind.wrap Go.IntKind.i64 (x.2.2.1 + x.1)), Unit.unit)))))))
   else none)
   else none)
   else none)
   else none))))
theorem f35_eq (x : gi35.D) : f35 x = evF P (T38.orc _) Go.Proofs.Try.f35.ntmps fx35 c35 (planAt 64 []) gi35 x (fnK fx35 [go35]) := by kernel_rfl
theorem f35_ok : EntOk P 35 ⟨gi35, [go35], f35⟩ :=
  ent_ok (fn := Go.Proofs.Try.f35) (gi := gi35) (gos := [go35]) (f := f35) (c := c35) (fx := fx35) ⟨Go.Proofs.Try.func35, by kernel_rfl, rfl, by decide +kernel, rfl, rfl⟩ (by kernel_rfl) (Table.ok T38_ok _) hmix (planAt_ok (P := P) (n := Go.Proofs.Try.f35.ntmps) (fx := fx35) (c := c35) (d := 64) (l := []) trivial) f35_eq
noncomputable def T35 : Table := T38.add 35 [⟨gi35, [go35], f35⟩] []
theorem T35_ok : TableOk P T35 := Table.plus T38_ok (es := [⟨gi35, [go35], f35⟩]) ⟨f35_ok, trivial⟩ []

/-! ## 25: erasure/erasureref05.Read -/
noncomputable def c25 : Code := Func.code Go.Proofs.Try.f25
abbrev gi25 : Sg := ⟨[0, 1], [.lf (.sl (.int .i64)), .lf (.ptr 0 0)], [some (.box true [.lf (.sl .bool), .lf (.int .i64)])]⟩
abbrev go25 : Sg := ⟨[4, 5], [.lf (.int .i64), .lf (.int .i64)], [some (.box true [.lf (.sl .bool), .lf (.int .i64)])]⟩
def fx25 : List Bool := [true]
abbrev g25_2 : Sg := ⟨[0, 1, 6, 8, 9, 12], [.lf (.sl (.int .i64)), .lf (.ptr 0 0), .lf (.sl (.int .i64)), .lf (.int .i64), .lf (.int .i64), .lf (.int .i64)], [some (.box true [.lf (.sl .bool), .lf (.int .i64)])]⟩
abbrev o25_2 : Outs := [(.exit 2, ⟨[0, 1, 6, 8, 9], [.lf (.sl (.int .i64)), .lf (.ptr 0 0), .lf (.sl (.int .i64)), .lf (.int .i64), .lf (.int .i64)], [some (.box true [.lf (.sl .bool), .lf (.int .i64)])]⟩), (.ret, ⟨[4, 5], [.lf (.int .i64), .lf (.int .i64)], [some (.box true [.lf (.sl .bool), .lf (.int .i64)])]⟩)]
noncomputable def b25_2 (x : g25_2.D) : Option (outD ((.normal, g25_2) :: o25_2)) :=
  (if ((decide (x.2.2.2.2.1 < (((List.length x.1) : Nat) : Int))) = true) then (if ((0 : Int) ≤ x.2.2.2.2.1) then (if (x.2.2.2.2.1 < (((List.length x.1) : Nat) : Int)) then (if (((List.getD x.1 (Int.toNat x.2.2.2.2.1) (0 : Int)) == x.2.2.2.1) = true) then (if ((0 : Int) ≤ x.2.2.2.2.1) then (if (x.2.2.2.2.1 < (((List.length x.2.1) : Nat) : Int)) then (if (((List.getD x.2.1 (Int.toNat x.2.2.2.2.1) (0 : Int)) == x.2.2.1) = true) then (some (Sum.inr (Sum.inr (Sum.inl (x.2.2.2.2.1, ((0 : Int), (x.2.2.2.2.2.1, (x.2.2.2.2.2.2.1, Unit.unit))))))))
   else (some (Sum.inl (x.1, (x.2.1, (x.2.2.1, (x.2.2.2.1, ((Go.IntKind.wrap Go.IntKind.i64 (x.2.2.2.2.1 + (1 : Int))), (x.2.2.2.2.2.1, (x.2.2.2.2.2.2.1, Unit.unit))))))))))
   else none)
   else none)
   else (some (Sum.inl (x.1, (x.2.1, (x.2.2.1, (x.2.2.2.1, ((Go.IntKind.wrap Go.IntKind.i64 (x.2.2.2.2.1 + (1 : Int))), (x.2.2.2.2.2.1, (x.2.2.2.2.2.2.1, Unit.unit))))))))))
   else none)
   else none)
   else (some (Sum.inr (Sum.inl (x.1, (x.2.1, (x.2.2.1, (x.2.2.2.1, (x.2.2.2.2.2.1, (x.2.2.2.2.2.2.1, Unit.unit))))))))))
theorem b25_2_eq (x : g25_2.D) : b25_2 x = evF P (T35.orc _) Go.Proofs.Try.f25.ntmps fx25 (Code.at [true, true, true, false, true, false, false, true, false, false, true, true, true, true, false, false] c25) (planAt 64 []) g25_2 x (injK fx25 ((.normal, g25_2) :: o25_2) some) := by kernel_rfl
noncomputable def l25_2 : g25_2.D → Option (outD o25_2) := loopN g25_2 o25_2 b25_2 18446744073709551616
theorem at25_2 : Code.at [true, true, true, false, true, false, false, true, false, false, true, true, true, true, false] c25 = .loop (Code.at [true, true, true, false, true, false, false, true, false, false, true, true, true, true, false, false] c25) := by kernel_rfl
theorem s25_2_ok : SubOk P Go.Proofs.Try.f25.ntmps fx25 (Code.at [true, true, true, false, true, false, false, true, false, false, true, true, true, true, false] c25) ⟨g25_2, o25_2, l25_2⟩ := by
  rw [at25_2]
  exact loop_ok (sub_ok (g := g25_2) (outs := ((.normal, g25_2) :: o25_2)) (f := b25_2) (Table.ok T35_ok _) hmix (planAt_ok (P := P) (n := Go.Proofs.Try.f25.ntmps) (fx := fx25) (c := (Code.at [true, true, true, false, true, false, false, true, false, false, true, true, true, true, false, false] c25)) (d := 64) (l := []) trivial) b25_2_eq) rfl _
abbrev g25_1 : Sg := ⟨[0, 1, 6, 8, 9], [.lf (.sl (.int .i64)), .lf (.ptr 0 0), .lf (.sl (.int .i64)), .lf (.int .i64), .lf (.int .i64)], [some (.box true [.lf (.sl .bool), .lf (.int .i64)])]⟩
abbrev o25_1 : Outs := [(.exit 0, ⟨[], [], [some (.box true [.lf (.sl .bool), .lf (.int .i64)])]⟩), (.ret, ⟨[4, 5], [.lf (.int .i64), .lf (.int .i64)], [some (.box true [.lf (.sl .bool), .lf (.int .i64)])]⟩)]
noncomputable def b25_1 (x : g25_1.D) : Option (outD ((.normal, g25_1) :: o25_1)) :=
  (if ((decide (x.2.2.2.1 ≤ (15 : Int))) = true) then (Option.bind (Go.Ev.Huff.f35 ((1 : Int), (x.2.2.2.2.1, (x.2.2.2.2.2.1, Unit.unit)))) (fun y1 => (if ((y1.2.1 != (0 : Int)) = true) then (some (Sum.inr (Sum.inr (Sum.inl ((0 : Int), (y1.2.1, (y1.2.2.1, (y1.2.2.2.1, Unit.unit))))))))
   else (Option.bind (Go.Ev.Huff.l25_2 (x.1, (x.2.1, ((Go.IntKind.wrap Go.IntKind.i64 ((Go.IntKind.wrap Go.IntKind.i64 ((2 : Int) * x.2.2.1)) + y1.1)), (x.2.2.2.1, ((0 : Int), (y1.2.2.1, (y1.2.2.2.1, Unit.unit)))))))) (Sum.elim (fun y2 => (some (Sum.inl (y2.1, (y2.2.1, (y2.2.2.1, ((Go.IntKind.wrap Go.IntKind.i64 (y2.2.2.2.1 + (1 : Int))), (y2.2.2.2.2.1, (y2.2.2.2.2.2.1, Unit.unit))))))))) (Sum.elim (fun y2 => (some (Sum.inr (Sum.inr (Sum.inl (y2.1, (y2.2.1, (y2.2.2.1, (y2.2.2.2.1, Unit.unit))))))))) Empty.elim))))))
   else (some (Sum.inr (Sum.inl (x.2.2.2.2.1, (x.2.2.2.2.2.1, Unit.unit))))))
theorem b25_1_eq (x : g25_1.D) : b25_1 x = evF P (T35.orc _) Go.Proofs.Try.f25.ntmps fx25 (Code.at [true, true, true, false, true, false, false] c25) (planAt 64 [([true, false, false, true, true, true, true, false], ⟨g25_2, o25_2, l25_2⟩)]) g25_1 x (injK fx25 ((.normal, g25_1) :: o25_1) some) := by kernel_rfl
noncomputable def l25_1 : g25_1.D → Option (outD o25_1) := loopN g25_1 o25_1 b25_1 18446744073709551616
theorem p25_1 : AllSub P Go.Proofs.Try.f25.ntmps fx25 (Code.at [true, true, true, false, true, false, false] c25) [([true, false, false, true, true, true, true, false], ⟨g25_2, o25_2, l25_2⟩)] := And.intro s25_2_ok (trivial)
theorem q25_1 : PlanOk P Go.Proofs.Try.f25.ntmps fx25 (planAt 64 [([true, false, false, true, true, true, true, false], ⟨g25_2, o25_2, l25_2⟩)]) (Code.at [true, true, true, false, true, false, false] c25) := planAt_ok p25_1
theorem at25_1 : Code.at [true, true, true, false, true, false] c25 = .loop (Code.at [true, true, true, false, true, false, false] c25) := by kernel_rfl
theorem s25_1_ok : SubOk P Go.Proofs.Try.f25.ntmps fx25 (Code.at [true, true, true, false, true, false] c25) ⟨g25_1, o25_1, l25_1⟩ := by
  rw [at25_1]
  exact loop_ok (sub_ok (g := g25_1) (outs := ((.normal, g25_1) :: o25_1)) (f := b25_1) (Table.ok T35_ok _) hmix (q25_1) b25_1_eq) rfl _
noncomputable def f25 (x : gi25.D) : Option go25.D :=
  (Option.bind (Go.Ev.Huff.f10 (x.1, Unit.unit)) (fun y1 => (Option.bind (Go.Ev.Huff.l25_1 (x.1, ((List.take (List.length y1.2.1) (List.drop (0 : Nat) y1.2.1)), ((0 : Int), ((1 : Int), (x.2.1, (x.2.2.1, Unit.unit))))))) (Sum.elim (fun y2 => (some ((0 : Int), ((4 : Int), (y2.1, (y2.2.1, Unit.unit)))))) (Sum.elim (fun y2 => (some (y2.1, (y2.2.1, (y2.2.2.1, (y2.2.2.2.1, Unit.unit)))))) Empty.elim)))))
theorem f25_eq (x : gi25.D) : f25 x = evF P (T35.orc _) Go.Proofs.Try.f25.ntmps fx25 c25 (planAt 64 [([true, true, true, false, true, false], ⟨g25_1, o25_1, l25_1⟩)]) gi25 x (fnK fx25 [go25]) := by kernel_rfl
theorem pf25 : AllSub P Go.Proofs.Try.f25.ntmps fx25 c25 [([true, true, true, false, true, false], ⟨g25_1, o25_1, l25_1⟩)] := And.intro s25_1_ok (trivial)
theorem qf25 : PlanOk P Go.Proofs.Try.f25.ntmps fx25 (planAt 64 [([true, true, true, false, true, false], ⟨g25_1, o25_1, l25_1⟩)]) c25 := planAt_ok pf25
theorem f25_ok : EntOk P 25 ⟨gi25, [go25], f25⟩ :=
  ent_ok (fn := Go.Proofs.Try.f25) (gi := gi25) (gos := [go25]) (f := f25) (c := c25) (fx := fx25) ⟨Go.Proofs.Try.func25, by kernel_rfl, rfl, by decide +kernel, rfl, rfl⟩ (by kernel_rfl) (Table.ok T35_ok _) hmix (qf25) f25_eq
noncomputable def T25 : Table := T35.add 25 [⟨gi25, [go25], f25⟩] []
theorem T25_ok : TableOk P T25 := Table.plus T35_ok (es := [⟨gi25, [go25], f25⟩]) ⟨f25_ok, trivial⟩ []

/-! ## 5: erasure/erasurelaw05.HuffReads -/
noncomputable def c5 : Code := Func.code Go.Proofs.Try.f5
abbrev gi5 : Sg := ⟨[0, 1], [.lf (.sl (.int .i64)), .lf (.sl (.int .u8))], []⟩
abbrev go5 : Sg := ⟨[4], [.lf .bool], []⟩
def fx5 : List Bool := []
abbrev g5_2 : Sg := ⟨[0, 1, 5, 7, 8, 9], [.lf (.sl (.int .i64)), .lf (.sl (.int .u8)), .lf (.ptr 0 0), .lf (.ptr 1 0), .lf (.ptr 2 0), .lf (.int .i64)], [some (.box true [.many (.int .i64) 16, .lf (.sl (.int .i64)), .lf (.sl (.int .i64)), .lf (.gr (.int .i64) 3)]), some (.box true [.lf (.sl (.int .u8)), .lf (.int .i64), .lf (.int .i64), .lf (.int .i64)]), some (.box true [.lf (.sl .bool), .lf (.int .i64)]), some (.arr true (.int .i64))]⟩
abbrev o5_2 : Outs := [(.exit 0, ⟨[], [], []⟩), (.ret, ⟨[4], [.lf .bool], []⟩)]
noncomputable def b5_2 (x : g5_2.D) : Option (outD ((.normal, g5_2) :: o5_2)) :=
  (if ((decide (x.2.2.1 ≤ (Go.IntKind.wrap Go.IntKind.i64 ((8 : Int) * (((List.length x.2.1) : Nat) : Int))))) = true) then (if ((List.length x.2.2.2.2.2.2.2.2.2.2.2.2.1) = (List.length x.2.2.2.2.2.2.2.2.2.2.2.2.1)) then (Option.bind (Go.Ev.Huff.f24_b (x.2.2.2.1, (x.2.2.2.2.1, (x.2.2.2.2.2.1, (x.2.2.2.2.2.2.2.2.2.2.2.2.1, (x.2.2.2.2.2.2.1, (x.2.2.2.2.2.2.2.1, (x.2.2.2.2.2.2.2.2.1, (x.2.2.2.2.2.2.2.2.2.1, Unit.unit))))))))) (fun y1 => (Option.bind (Go.Ev.Huff.f25 (x.1, (x.2.2.2.2.2.2.2.2.2.2.1, (x.2.2.2.2.2.2.2.2.2.2.2.1, Unit.unit)))) (fun y2 => (if ((y1.1 != y2.1) = true) then (some (Sum.inr (Sum.inr (Sum.inl (false, Unit.unit)))))
   else (if ((y1.2.1 != y2.2.1) = true) then (some (Sum.inr (Sum.inr (Sum.inl (false, Unit.unit)))))
   else (Option.bind (Go.Ev.Huff.f26 (y1.2.2.2.2.2.2.1, (y1.2.2.2.2.2.2.2.1, (y1.2.2.2.2.2.2.2.2.1, (y1.2.2.2.2.2.2.2.2.2.1, Unit.unit))))) (fun y3 => (if ((y3.1 != (Go.IntKind.wrap Go.IntKind.i64 ((((List.length y2.2.2.1) : Nat) : Int) - y2.2.2.2.1))) = true) then (some (Sum.inr (Sum.inr (Sum.inl (false, Unit.unit)))))
   else (if ((y1.2.1 == (6 : Int)) = true) then (Option.bind (Go.Ev.Huff.f12 Unit.unit) (fun y4 => (some (Sum.inr (Sum.inr (Sum.inl (y4.1, Unit.unit)))))))
   else (if ((List.length y1.2.2.2.2.2.1) = (List.length y1.2.2.2.2.2.1)) then (some (Sum.inl (x.1, (x.2.1, ((Go.IntKind.wrap Go.IntKind.i64 (x.2.2.1 + (1 : Int))), (y1.2.2.1, (y1.2.2.2.1, (y1.2.2.2.2.1, (y3.2.1, (y3.2.2.1, (y3.2.2.2.1, (y3.2.2.2.2.1, (y2.2.2.1, (y2.2.2.2.1, (y1.2.2.2.2.2.1, Unit.unit)))))))))))))))
   else none)))))))))))
   else none)
   else (some (Sum.inr (Sum.inl Unit.unit))))
theorem b5_2_eq (x : g5_2.D) : b5_2 x = evF P (T25.orc _) Go.Proofs.Try.f5.ntmps fx5 (Code.at [true, true, true, true, true, true, false, true, false, false] c5) (planAt 64 []) g5_2 x (injK fx5 ((.normal, g5_2) :: o5_2) some) := by kernel_rfl
noncomputable def l5_2 : g5_2.D → Option (outD o5_2) := loopN g5_2 o5_2 b5_2 18446744073709551616
theorem at5_2 : Code.at [true, true, true, true, true, true, false, true, false] c5 = .loop (Code.at [true, true, true, true, true, true, false, true, false, false] c5) := by kernel_rfl
theorem s5_2_ok : SubOk P Go.Proofs.Try.f5.ntmps fx5 (Code.at [true, true, true, true, true, true, false, true, false] c5) ⟨g5_2, o5_2, l5_2⟩ := by
  rw [at5_2]
  exact loop_ok (sub_ok (g := g5_2) (outs := ((.normal, g5_2) :: o5_2)) (f := b5_2) (Table.ok T25_ok _) hmix (planAt_ok (P := P) (n := Go.Proofs.Try.f5.ntmps) (fx := fx5) (c := (Code.at [true, true, true, true, true, true, false, true, false, false] c5)) (d := 64) (l := []) trivial) b5_2_eq) rfl _
abbrev g5_1 : Sg := ⟨[0, 1], [.lf (.sl (.int .i64)), .lf (.sl (.int .u8))], []⟩
abbrev o5_1 : Outs := [(.normal, ⟨[0, 1, 5, 6], [.lf (.sl (.int .i64)), .lf (.sl (.int .u8)), .lf .nilp, .lf (.int .i64)], []⟩), (.normal, ⟨[0, 1, 5, 6], [.lf (.sl (.int .i64)), .lf (.sl (.int .u8)), .lf (.ptr 0 0), .lf (.int .i64)], [some (.box true [.many (.int .i64) 16, .lf (.sl (.int .i64)), .lf (.sl (.int .i64)), .lf (.gr (.int .i64) 1)]), some (.arr true (.int .i64))]⟩)]
noncomputable def b5_1 (x : g5_1.D) : Option (outD o5_1) :=
  (Option.bind (Go.Ev.Huff.f11 (x.1, Unit.unit)) (Sum.elim (fun y1 => (some (Sum.inl (x.1, (x.2.1, (y1.1, Unit.unit)))))) (fun y1 => (if ((List.length y1.2.2.2.2.1) = (List.length y1.2.2.2.2.1)) then (some (Sum.inr (Sum.inl (x.1, (x.2.1, (y1.1, (y1.2.1, (y1.2.2.1, (y1.2.2.2.1, (y1.2.2.2.2.1, Unit.unit))))))))))
   else none))))
theorem b5_1_eq (x : g5_1.D) : b5_1 x = evF P (T25.orc _) Go.Proofs.Try.f5.ntmps fx5 (Code.at [true, true, false] c5) (planAt 64 []) g5_1 x (injK fx5 o5_1 some) := by kernel_rfl
theorem s5_1_ok : SubOk P Go.Proofs.Try.f5.ntmps fx5 (Code.at [true, true, false] c5) ⟨g5_1, o5_1, b5_1⟩ :=
  sub_ok (g := g5_1) (outs := o5_1) (f := b5_1) (Table.ok T25_ok _) hmix (planAt_ok (P := P) (n := Go.Proofs.Try.f5.ntmps) (fx := fx5) (c := (Code.at [true, true, false] c5)) (d := 64) (l := []) trivial) b5_1_eq
noncomputable def f5 (x : gi5.D) : Option go5.D :=
  (if ((decide ((((List.length x.1) : Nat) : Int) > (400 : Int))) = true) then (some (true, Unit.unit))
   else (if ((decide ((((List.length x.2.1) : Nat) : Int) > (60 : Int))) = true) then (some (true, Unit.unit))
   else (Option.bind (Go.Ev.Huff.b5_1 (x.1, (x.2.1, Unit.unit))) (Sum.elim (fun y1 => (Option.bind (Go.Ev.Huff.f22 (y1.2.1, Unit.unit)) (fun _ => (if ((y1.2.2.1 != (0 : Int)) = true) then (Option.bind (Go.Ev.Huff.f12 Unit.unit) (fun y3 => (if (y3.1 = true) then (Option.bind (Go.Ev.Huff.f14 (y1.1, Unit.unit)) (fun y4 => (some ((y1.2.2.1 == y4.1), Unit.unit))))
   else (some (false, Unit.unit)))))
   else (Option.bind (Go.Ev.Huff.f12 Unit.unit) (fun y3 => (if (y3.1 = true) then (Option.bind (Go.Ev.Huff.f14 (y1.1, Unit.unit)) (fun y4 => (some ((y1.2.2.1 == y4.1), Unit.unit))))
   else (some (false, Unit.unit))))))))) (Sum.elim (fun y1 => (Option.bind (Go.Ev.Huff.f22 (y1.2.1, Unit.unit)) (fun y2 => (if ((y1.2.2.1 != (0 : Int)) = true) then (Option.bind (Go.Ev.Huff.f12 Unit.unit) (fun y3 => (if (y3.1 = true) then (some (false, Unit.unit))
   else (some (false, Unit.unit)))))
   else (Option.bind (Go.Ev.Huff.f23 (y1.2.1, Unit.unit)) (fun y3 => (if ((List.length y1.2.2.2.2.2.2.1) = (List.length y1.2.2.2.2.2.2.1)) then (Option.bind (Go.Ev.Huff.l5_2 (y1.1, (y1.2.1, ((0 : Int), (y1.2.2.2.1, (y1.2.2.2.2.1, (y1.2.2.2.2.2.1, (y2.1, (y2.2.1, (y2.2.2.1, (y2.2.2.2.1, ((List.take (List.length y3.1) (List.drop (0 : Nat) y3.1)), ((0 : Int), (y1.2.2.2.2.2.2.1, Unit.unit)))))))))))))) (Sum.elim (fun _ => (some (false, Unit.unit))) (Sum.elim (fun y4 => (some (y4.1, Unit.unit))) Empty.elim)))
   else none))))))) Empty.elim)))))
theorem f5_eq (x : gi5.D) : f5 x = evF P (T25.orc _) Go.Proofs.Try.f5.ntmps fx5 c5 (planAt 64 [([true, true, false], ⟨g5_1, o5_1, b5_1⟩), ([true, true, true, true, true, true, false, true, false], ⟨g5_2, o5_2, l5_2⟩)]) gi5 x (fnK fx5 [go5]) := by kernel_rfl
theorem pf5 : AllSub P Go.Proofs.Try.f5.ntmps fx5 c5 [([true, true, false], ⟨g5_1, o5_1, b5_1⟩), ([true, true, true, true, true, true, false, true, false], ⟨g5_2, o5_2, l5_2⟩)] := And.intro s5_1_ok (And.intro s5_2_ok (trivial))
theorem qf5 : PlanOk P Go.Proofs.Try.f5.ntmps fx5 (planAt 64 [([true, true, false], ⟨g5_1, o5_1, b5_1⟩), ([true, true, true, true, true, true, false, true, false], ⟨g5_2, o5_2, l5_2⟩)]) c5 := planAt_ok pf5
theorem f5_ok : EntOk P 5 ⟨gi5, [go5], f5⟩ :=
  ent_ok (fn := Go.Proofs.Try.f5) (gi := gi5) (gos := [go5]) (f := f5) (c := c5) (fx := fx5) ⟨Go.Proofs.Try.func5, by kernel_rfl, rfl, by decide +kernel, rfl, rfl⟩ (by kernel_rfl) (Table.ok T25_ok _) hmix (qf5) f5_eq
noncomputable def T5 : Table := T25.add 5 [⟨gi5, [go5], f5⟩] []
theorem T5_ok : TableOk P T5 := Table.plus T25_ok (es := [⟨gi5, [go5], f5⟩]) ⟨f5_ok, trivial⟩ []

/-! ## 6: erasure/erasurelaw05.HuffNil -/
noncomputable def c6 : Code := Func.code Go.Proofs.Try.f6
abbrev gi6 : Sg := ⟨[0], [.lf (.int .i64)], []⟩
abbrev go6 : Sg := ⟨[2], [.lf .bool], []⟩
def fx6 : List Bool := []
abbrev g6_1 : Sg := ⟨[0, 3], [.lf (.int .i64), .lf .nilp], []⟩
abbrev o6_1 : Outs := [(.normal, ⟨[0, 3, 4, 5], [.lf (.int .i64), .lf .nilp, .lf .nilp, .lf (.int .i64)], []⟩), (.normal, ⟨[0, 3, 4, 5], [.lf (.int .i64), .lf .nilp, .lf (.ptr 0 0), .lf (.int .i64)], [some (.box true [.many (.int .i64) 16, .lf (.sl (.int .i64)), .lf (.sl (.int .i64)), .lf (.gr (.int .i64) 1)]), some (.arr true (.int .i64))]⟩)]
noncomputable def b6_1 (x : g6_1.D) : Option (outD o6_1) :=
  (Option.bind (Go.Ev.Huff.f11 ((List.take (2 : Nat) (List.drop (0 : Nat) (List.set (List.set (List.replicate (2 : Nat) (0 : Int)) (0 : Nat) (1 : Int)) (1 : Nat) (1 : Int)))), Unit.unit)) (Sum.elim (fun y1 => (some (Sum.inl (x.1, (y1.1, Unit.unit))))) (fun y1 => (if ((List.length y1.2.2.2.2.1) = (List.length y1.2.2.2.2.1)) then (some (Sum.inr (Sum.inl (x.1, (y1.1, (y1.2.1, (y1.2.2.1, (y1.2.2.2.1, (y1.2.2.2.2.1, Unit.unit)))))))))
   else none))))
theorem b6_1_eq (x : g6_1.D) : b6_1 x = evF P (T5.orc _) Go.Proofs.Try.f6.ntmps fx6 (Code.at [true, true, false] c6) (planAt 64 []) g6_1 x (injK fx6 o6_1 some) := by kernel_rfl
theorem s6_1_ok : SubOk P Go.Proofs.Try.f6.ntmps fx6 (Code.at [true, true, false] c6) ⟨g6_1, o6_1, b6_1⟩ :=
  sub_ok (g := g6_1) (outs := o6_1) (f := b6_1) (Table.ok T5_ok _) hmix (planAt_ok (P := P) (n := Go.Proofs.Try.f6.ntmps) (fx := fx6) (c := (Code.at [true, true, false] c6)) (d := 64) (l := []) trivial) b6_1_eq
noncomputable def f6 (x : gi6.D) : Option go6.D :=
  (Option.bind (Go.Ev.Huff.b6_1 (x.1, Unit.unit)) (Sum.elim (fun _ => (some (false, Unit.unit))) (Sum.elim (fun y1 => (if ((y1.2.1 != (0 : Int)) = true) then (some (false, Unit.unit))
   else (Option.bind (Go.Ev.Huff.f22 ((List.take (1 : Nat) (List.drop (0 : Nat) (List.set (List.replicate (1 : Nat) (0 : Int)) (0 : Nat) (1 : Int)))), Unit.unit)) (fun y2 => (Option.bind (Go.Ev.Huff.f24 (y2.1, (y2.2.1, (y2.2.2.1, (y2.2.2.2.1, Unit.unit))))) (fun y3 => (if ((List.length y1.2.2.2.2.2.1) = (List.length y1.2.2.2.2.2.1)) then (Option.bind (Go.Ev.Huff.f24_c (y1.2.2.1, (y1.2.2.2.1, (y1.2.2.2.2.1, (y1.2.2.2.2.2.1, Unit.unit))))) (fun y4 => (Option.bind (Go.Ev.Huff.f12 Unit.unit) (fun y5 => (if (y5.1 = true) then (if ((y3.2.1 == (3 : Int)) = true) then (if ((y4.2.1 == (3 : Int)) = true) then (Option.bind (Go.Ev.Huff.f17 Unit.unit) (fun y6 => (if ((List.length y6.2.2.1) = (List.length y6.2.2.1)) then (Option.bind (Go.Ev.Huff.f19_b (y1.1, (y6.1, (y6.2.1, (y6.2.2.1, Unit.unit))))) (fun y7 => (if ((y7.1 == (3 : Int)) = true) then (if ((List.length y4.2.2.2.2.2.1) = (List.length y4.2.2.2.2.2.1)) then (Option.bind (Go.Ev.Huff.f19_c (y1.1, (y4.2.2.1, (y4.2.2.2.1, (y4.2.2.2.2.1, (y4.2.2.2.2.2.1, Unit.unit)))))) (fun y8 => (some ((y8.1 == (3 : Int)), Unit.unit))))
   else none)
   else (some (false, Unit.unit)))))
   else none)))
   else (some (false, Unit.unit)))
   else (some (false, Unit.unit)))
   else (some (false, Unit.unit)))))))
   else none))))))) Empty.elim)))
theorem f6_eq (x : gi6.D) : f6 x = evF P (T5.orc _) Go.Proofs.Try.f6.ntmps fx6 c6 (planAt 64 [([true, true, false], ⟨g6_1, o6_1, b6_1⟩)]) gi6 x (fnK fx6 [go6]) := by kernel_rfl
theorem pf6 : AllSub P Go.Proofs.Try.f6.ntmps fx6 c6 [([true, true, false], ⟨g6_1, o6_1, b6_1⟩)] := And.intro s6_1_ok (trivial)
theorem qf6 : PlanOk P Go.Proofs.Try.f6.ntmps fx6 (planAt 64 [([true, true, false], ⟨g6_1, o6_1, b6_1⟩)]) c6 := planAt_ok pf6
theorem f6_ok : EntOk P 6 ⟨gi6, [go6], f6⟩ :=
  ent_ok (fn := Go.Proofs.Try.f6) (gi := gi6) (gos := [go6]) (f := f6) (c := c6) (fx := fx6) ⟨Go.Proofs.Try.func6, by kernel_rfl, rfl, by decide +kernel, rfl, rfl⟩ (by kernel_rfl) (Table.ok T5_ok _) hmix (qf6) f6_eq
noncomputable def T6 : Table := T5.add 6 [⟨gi6, [go6], f6⟩] []
theorem T6_ok : TableOk P T6 := Table.plus T5_ok (es := [⟨gi6, [go6], f6⟩]) ⟨f6_ok, trivial⟩ []

/-! ## 7: erasure/erasurelaw05.HuffBack -/
noncomputable def c7 : Code := Func.code Go.Proofs.Try.f7
abbrev gi7 : Sg := ⟨[0, 1], [.lf (.sl (.int .i64)), .lf (.sl (.int .i64))], []⟩
abbrev go7 : Sg := ⟨[4], [.lf .bool], []⟩
def fx7 : List Bool := []
abbrev g7_7 : Sg := ⟨[0, 1, 5, 7, 9, 10, 11, 12, 13], [.lf (.sl (.int .i64)), .lf (.sl (.int .i64)), .lf (.ptr 0 0), .lf (.sl (.int .i64)), .lf (.ptr 1 0), .lf (.int .i64), .lf (.int .i64), .lf (.int .i64), .lf (.int .i64)], [some (.box true [.many (.int .i64) 16, .lf (.sl (.int .i64)), .lf (.sl (.int .i64)), .lf (.gr (.int .i64) 2)]), some (.box true [.lf (.gr (.int .u8) 3), .lf (.int .i64), .lf (.int .i64)]), some (.arr true (.int .i64)), some (.arr true (.int .u8))]⟩
abbrev o7_7 : Outs := [(.exit 4, ⟨[0, 1, 5, 7, 9, 10, 11, 12], [.lf (.sl (.int .i64)), .lf (.sl (.int .i64)), .lf (.ptr 0 0), .lf (.sl (.int .i64)), .lf (.ptr 1 0), .lf (.int .i64), .lf (.int .i64), .lf (.int .i64)], [some (.box true [.many (.int .i64) 16, .lf (.sl (.int .i64)), .lf (.sl (.int .i64)), .lf (.gr (.int .i64) 2)]), some (.box true [.lf (.gr (.int .u8) 3), .lf (.int .i64), .lf (.int .i64)]), some (.arr true (.int .i64)), some (.arr true (.int .u8))]⟩)]
noncomputable def b7_7 (x : g7_7.D) : Option (outD ((.normal, g7_7) :: o7_7)) :=
  (if ((0 : Int) ≤ x.2.2.2.2.1) then (if (x.2.2.2.2.1 < (((List.length x.1) : Nat) : Int)) then (if ((decide (x.2.2.2.2.2.2.1 < (List.getD x.1 (Int.toNat x.2.2.2.2.1) (0 : Int)))) = true) then (if ((List.length x.2.2.2.2.2.2.2.2.2.2.2.2.1) = (List.length x.2.2.2.2.2.2.2.2.2.2.2.2.1)) then (if ((List.length x.2.2.2.2.2.2.2.2.2.2.2.2.2.1) = (List.length x.2.2.2.2.2.2.2.2.2.2.2.2.2.1)) then (some (Sum.inl (x.1, (x.2.1, (x.2.2.1, (x.2.2.2.1, (x.2.2.2.2.1, ((Go.IntKind.wrap Go.IntKind.i64 (Int.tdiv x.2.2.2.2.2.1 (2 : Int))), ((Go.IntKind.wrap Go.IntKind.i64 (x.2.2.2.2.2.2.1 + (1 : Int))), (x.2.2.2.2.2.2.2.1, (x.2.2.2.2.2.2.2.2.1, (x.2.2.2.2.2.2.2.2.2.1, (x.2.2.2.2.2.2.2.2.2.2.1, (x.2.2.2.2.2.2.2.2.2.2.2.1, (x.2.2.2.2.2.2.2.2.2.2.2.2.1, (x.2.2.2.2.2.2.2.2.2.2.2.2.2.1, Unit.unit))))))))))))))))
   else none)
   else none)
   else (if ((List.length x.2.2.2.2.2.2.2.2.2.2.2.2.1) = (List.length x.2.2.2.2.2.2.2.2.2.2.2.2.1)) then (if ((List.length x.2.2.2.2.2.2.2.2.2.2.2.2.2.1) = (List.length x.2.2.2.2.2.2.2.2.2.2.2.2.2.1)) then (some (Sum.inr (Sum.inl (x.1, (x.2.1, (x.2.2.1, (x.2.2.2.1, (x.2.2.2.2.1, (x.2.2.2.2.2.1, (x.2.2.2.2.2.2.2.1, (x.2.2.2.2.2.2.2.2.1, (x.2.2.2.2.2.2.2.2.2.1, (x.2.2.2.2.2.2.2.2.2.2.1, (x.2.2.2.2.2.2.2.2.2.2.2.1, (x.2.2.2.2.2.2.2.2.2.2.2.2.1, (x.2.2.2.2.2.2.2.2.2.2.2.2.2.1, Unit.unit))))))))))))))))
   else none)
   else none))
   else none)
   else none)
theorem b7_7_eq (x : g7_7.D) : b7_7 x = evF P (T6.orc _) Go.Proofs.Try.f7.ntmps fx7 (Code.at [true, true, true, true, true, true, false, true, false, false, true, false, false, true, false, false, true, false, false, true, true, false, true, false, false] c7) (planAt 64 []) g7_7 x (injK fx7 ((.normal, g7_7) :: o7_7) some) := by kernel_rfl
noncomputable def l7_7 : g7_7.D → Option (outD o7_7) := loopN g7_7 o7_7 b7_7 18446744073709551616
theorem at7_7 : Code.at [true, true, true, true, true, true, false, true, false, false, true, false, false, true, false, false, true, false, false, true, true, false, true, false] c7 = .loop (Code.at [true, true, true, true, true, true, false, true, false, false, true, false, false, true, false, false, true, false, false, true, true, false, true, false, false] c7) := by kernel_rfl
theorem s7_7_ok : SubOk P Go.Proofs.Try.f7.ntmps fx7 (Code.at [true, true, true, true, true, true, false, true, false, false, true, false, false, true, false, false, true, false, false, true, true, false, true, false] c7) ⟨g7_7, o7_7, l7_7⟩ := by
  rw [at7_7]
  exact loop_ok (sub_ok (g := g7_7) (outs := ((.normal, g7_7) :: o7_7)) (f := b7_7) (Table.ok T6_ok _) hmix (planAt_ok (P := P) (n := Go.Proofs.Try.f7.ntmps) (fx := fx7) (c := (Code.at [true, true, true, true, true, true, false, true, false, false, true, false, false, true, false, false, true, false, false, true, true, false, true, false, false] c7)) (d := 64) (l := []) trivial) b7_7_eq) rfl _
abbrev g7_6 : Sg := ⟨[0, 1, 5, 7, 9, 10, 11], [.lf (.sl (.int .i64)), .lf (.sl (.int .i64)), .lf (.ptr 0 0), .lf (.sl (.int .i64)), .lf (.ptr 1 0), .lf (.int .i64), .lf (.int .i64)], [some (.box true [.many (.int .i64) 16, .lf (.sl (.int .i64)), .lf (.sl (.int .i64)), .lf (.gr (.int .i64) 2)]), some (.box true [.lf (.gr (.int .u8) 3), .lf (.int .i64), .lf (.int .i64)]), some (.arr true (.int .i64)), some (.arr true (.int .u8))]⟩
abbrev o7_6 : Outs := [(.exit 2, ⟨[0, 1, 5, 7, 9, 10], [.lf (.sl (.int .i64)), .lf (.sl (.int .i64)), .lf (.ptr 0 0), .lf (.sl (.int .i64)), .lf (.ptr 1 0), .lf (.int .i64)], [some (.box true [.many (.int .i64) 16, .lf (.sl (.int .i64)), .lf (.sl (.int .i64)), .lf (.gr (.int .i64) 2)]), some (.box true [.lf (.gr (.int .u8) 3), .lf (.int .i64), .lf (.int .i64)]), some (.arr true (.int .i64)), some (.arr true (.int .u8))]⟩), (.ret, ⟨[4], [.lf .bool], []⟩)]
noncomputable def b7_6 (x : g7_6.D) : Option (outD ((.normal, g7_6) :: o7_6)) :=
  (if ((decide (x.2.2.2.2.1 < (((List.length x.1) : Nat) : Int))) = true) then (if ((x.2.2.2.1 == x.2.2.2.2.1) = true) then (if ((List.length x.2.2.2.2.2.2.2.2.2.2.1) = (List.length x.2.2.2.2.2.2.2.2.2.2.1)) then (if ((List.length x.2.2.2.2.2.2.2.2.2.2.2.1) = (List.length x.2.2.2.2.2.2.2.2.2.2.2.1)) then (some (Sum.inl (x.1, (x.2.1, (x.2.2.1, (x.2.2.2.1, ((Go.IntKind.wrap Go.IntKind.i64 (x.2.2.2.2.1 + (1 : Int))), (x.2.2.2.2.2.1, (x.2.2.2.2.2.2.1, (x.2.2.2.2.2.2.2.1, (x.2.2.2.2.2.2.2.2.1, (x.2.2.2.2.2.2.2.2.2.1, (x.2.2.2.2.2.2.2.2.2.2.1, (x.2.2.2.2.2.2.2.2.2.2.2.1, Unit.unit))))))))))))))
   else none)
   else none)
   else (if ((0 : Int) ≤ x.2.2.2.1) then (if (x.2.2.2.1 < (((List.length x.1) : Nat) : Int)) then (if ((decide ((List.getD x.1 (Int.toNat x.2.2.2.1) (0 : Int)) < (1 : Int))) = true) then (if ((List.length x.2.2.2.2.2.2.2.2.2.2.1) = (List.length x.2.2.2.2.2.2.2.2.2.2.1)) then (if ((List.length x.2.2.2.2.2.2.2.2.2.2.2.1) = (List.length x.2.2.2.2.2.2.2.2.2.2.2.1)) then (some (Sum.inl (x.1, (x.2.1, (x.2.2.1, (x.2.2.2.1, ((Go.IntKind.wrap Go.IntKind.i64 (x.2.2.2.2.1 + (1 : Int))), (x.2.2.2.2.2.1, (x.2.2.2.2.2.2.1, (x.2.2.2.2.2.2.2.1, (x.2.2.2.2.2.2.2.2.1, (x.2.2.2.2.2.2.2.2.2.1, (x.2.2.2.2.2.2.2.2.2.2.1, (x.2.2.2.2.2.2.2.2.2.2.2.1, Unit.unit))))))))))))))
   else none)
   else none)
   else (if ((0 : Int) ≤ x.2.2.2.1) then (if (x.2.2.2.1 < (((List.length x.1) : Nat) : Int)) then (if ((0 : Int) ≤ x.2.2.2.2.1) then (if (x.2.2.2.2.1 < (((List.length x.1) : Nat) : Int)) then (if ((decide ((List.getD x.1 (Int.toNat x.2.2.2.1) (0 : Int)) > (List.getD x.1 (Int.toNat x.2.2.2.2.1) (0 : Int)))) = true) then (if ((List.length x.2.2.2.2.2.2.2.2.2.2.1) = (List.length x.2.2.2.2.2.2.2.2.2.2.1)) then (if ((List.length x.2.2.2.2.2.2.2.2.2.2.2.1) = (List.length x.2.2.2.2.2.2.2.2.2.2.2.1)) then (some (Sum.inl (x.1, (x.2.1, (x.2.2.1, (x.2.2.2.1, ((Go.IntKind.wrap Go.IntKind.i64 (x.2.2.2.2.1 + (1 : Int))), (x.2.2.2.2.2.1, (x.2.2.2.2.2.2.1, (x.2.2.2.2.2.2.2.1, (x.2.2.2.2.2.2.2.2.1, (x.2.2.2.2.2.2.2.2.2.1, (x.2.2.2.2.2.2.2.2.2.2.1, (x.2.2.2.2.2.2.2.2.2.2.2.1, Unit.unit))))))))))))))
   else none)
   else none)
   else (if ((0 : Int) ≤ x.2.2.2.2.1) then (if (x.2.2.2.2.1 < (((List.length x.1) : Nat) : Int)) then (if ((decide ((List.getD x.1 (Int.toNat x.2.2.2.2.1) (0 : Int)) > (15 : Int))) = true) then (if ((List.length x.2.2.2.2.2.2.2.2.2.2.1) = (List.length x.2.2.2.2.2.2.2.2.2.2.1)) then (if ((List.length x.2.2.2.2.2.2.2.2.2.2.2.1) = (List.length x.2.2.2.2.2.2.2.2.2.2.2.1)) then (some (Sum.inl (x.1, (x.2.1, (x.2.2.1, (x.2.2.2.1, ((Go.IntKind.wrap Go.IntKind.i64 (x.2.2.2.2.1 + (1 : Int))), (x.2.2.2.2.2.1, (x.2.2.2.2.2.2.1, (x.2.2.2.2.2.2.2.1, (x.2.2.2.2.2.2.2.2.1, (x.2.2.2.2.2.2.2.2.2.1, (x.2.2.2.2.2.2.2.2.2.2.1, (x.2.2.2.2.2.2.2.2.2.2.2.1, Unit.unit))))))))))))))
   else none)
   else none)
   else (if ((0 : Int) ≤ x.2.2.2.2.1) then (if (x.2.2.2.2.1 < (((List.length x.2.2.1) : Nat) : Int)) then (if ((0 : Int) ≤ x.2.2.2.1) then (if (x.2.2.2.1 < (((List.length x.1) : Nat) : Int)) then (if ((List.length x.2.2.2.2.2.2.2.2.2.2.1) = (List.length x.2.2.2.2.2.2.2.2.2.2.1)) then (if ((List.length x.2.2.2.2.2.2.2.2.2.2.2.1) = (List.length x.2.2.2.2.2.2.2.2.2.2.2.1)) then (Option.bind (Go.Ev.Huff.l7_7 (x.1, (x.2.1, (x.2.2.1, (x.2.2.2.1, (x.2.2.2.2.1, ((List.getD x.2.2.1 (Int.toNat x.2.2.2.2.1) (0 : Int)), ((List.getD x.1 (Int.toNat x.2.2.2.1) (0 : Int)), (x.2.2.2.2.2.1, (x.2.2.2.2.2.2.1, (x.2.2.2.2.2.2.2.1, (x.2.2.2.2.2.2.2.2.1, (x.2.2.2.2.2.2.2.2.2.1, (x.2.2.2.2.2.2.2.2.2.2.1, (x.2.2.2.2.2.2.2.2.2.2.2.1, Unit.unit))))))))))))))) (Sum.elim (fun y1 => (if ((0 : Int) ≤ y1.2.2.2.1) then (if (y1.2.2.2.1 < (((List.length y1.2.2.1) : Nat) : Int)) then (if ((y1.2.2.2.2.2.1 == (List.getD y1.2.2.1 (Int.toNat y1.2.2.2.1) (0 : Int))) = true) then (some (Sum.inr (Sum.inr (Sum.inl (false, Unit.unit)))))
   else (if ((List.length y1.2.2.2.2.2.2.2.2.2.2.2.1) = (List.length y1.2.2.2.2.2.2.2.2.2.2.2.1)) then (if ((List.length y1.2.2.2.2.2.2.2.2.2.2.2.2.1) = (List.length y1.2.2.2.2.2.2.2.2.2.2.2.2.1)) then (some (Sum.inl (y1.1, (y1.2.1, (y1.2.2.1, (y1.2.2.2.1, ((Go.IntKind.wrap Go.IntKind.i64 (y1.2.2.2.2.1 + (1 : Int))), (y1.2.2.2.2.2.2.1, (y1.2.2.2.2.2.2.2.1, (y1.2.2.2.2.2.2.2.2.1, (y1.2.2.2.2.2.2.2.2.2.1, (y1.2.2.2.2.2.2.2.2.2.2.1, (y1.2.2.2.2.2.2.2.2.2.2.2.1, (y1.2.2.2.2.2.2.2.2.2.2.2.2.1, Unit.unit))))))))))))))
   else none)
   else none))
   else none)
   else none)) Empty.elim))
   else none)
   else none)
   else none)
   else none)
   else none)
   else none))
   else none)
   else none))
   else none)
   else none)
   else none)
   else none))
   else none)
   else none))
   else (if ((List.length x.2.2.2.2.2.2.2.2.2.2.1) = (List.length x.2.2.2.2.2.2.2.2.2.2.1)) then (if ((List.length x.2.2.2.2.2.2.2.2.2.2.2.1) = (List.length x.2.2.2.2.2.2.2.2.2.2.2.1)) then (some (Sum.inr (Sum.inl (x.1, (x.2.1, (x.2.2.1, (x.2.2.2.1, (x.2.2.2.2.2.1, (x.2.2.2.2.2.2.1, (x.2.2.2.2.2.2.2.1, (x.2.2.2.2.2.2.2.2.1, (x.2.2.2.2.2.2.2.2.2.1, (x.2.2.2.2.2.2.2.2.2.2.1, (x.2.2.2.2.2.2.2.2.2.2.2.1, Unit.unit))))))))))))))
   else none)
   else none))
theorem b7_6_eq (x : g7_6.D) : b7_6 x = evF P (T6.orc _) Go.Proofs.Try.f7.ntmps fx7 (Code.at [true, true, true, true, true, true, false, true, false, false, true, false, false, true, false, false] c7) (planAt 64 [([true, false, false, true, true, false, true, false], ⟨g7_7, o7_7, l7_7⟩)]) g7_6 x (injK fx7 ((.normal, g7_6) :: o7_6) some) := by kernel_rfl
noncomputable def l7_6 : g7_6.D → Option (outD o7_6) := loopN g7_6 o7_6 b7_6 18446744073709551616
theorem p7_6 : AllSub P Go.Proofs.Try.f7.ntmps fx7 (Code.at [true, true, true, true, true, true, false, true, false, false, true, false, false, true, false, false] c7) [([true, false, false, true, true, false, true, false], ⟨g7_7, o7_7, l7_7⟩)] := And.intro s7_7_ok (trivial)
theorem q7_6 : PlanOk P Go.Proofs.Try.f7.ntmps fx7 (planAt 64 [([true, false, false, true, true, false, true, false], ⟨g7_7, o7_7, l7_7⟩)]) (Code.at [true, true, true, true, true, true, false, true, false, false, true, false, false, true, false, false] c7) := planAt_ok p7_6
theorem at7_6 : Code.at [true, true, true, true, true, true, false, true, false, false, true, false, false, true, false] c7 = .loop (Code.at [true, true, true, true, true, true, false, true, false, false, true, false, false, true, false, false] c7) := by kernel_rfl
theorem s7_6_ok : SubOk P Go.Proofs.Try.f7.ntmps fx7 (Code.at [true, true, true, true, true, true, false, true, false, false, true, false, false, true, false] c7) ⟨g7_6, o7_6, l7_6⟩ := by
  rw [at7_6]
  exact loop_ok (sub_ok (g := g7_6) (outs := ((.normal, g7_6) :: o7_6)) (f := b7_6) (Table.ok T6_ok _) hmix (q7_6) b7_6_eq) rfl _
abbrev g7_5 : Sg := ⟨[5, 14, 16, 17], [.lf (.ptr 0 0), .lf (.gr (.int .i64) 1), .lf (.ptr 2 0), .lf (.int .i64)], [some (.box true [.many (.int .i64) 16, .lf (.sl (.int .i64)), .lf (.sl (.int .i64)), .lf (.gr (.int .i64) 3)]), some (.arr true (.int .i64)), some (.box true [.lf (.sl (.int .u8)), .lf (.int .i64), .lf (.int .i64), .lf (.int .i64)]), some (.arr true (.int .i64))]⟩
abbrev o7_5 : Outs := [(.exit 8, ⟨[16], [.lf (.ptr 0 0)], [some (.box true [.lf (.sl (.int .u8)), .lf (.int .i64), .lf (.int .i64), .lf (.int .i64)])]⟩), (.ret, ⟨[4], [.lf .bool], []⟩)]
noncomputable def b7_5 (x : g7_5.D) : Option (outD ((.normal, g7_5) :: o7_5)) :=
  (if ((decide (x.1 < (((List.length x.2.2.2.2.1) : Nat) : Int))) = true) then (if ((List.length x.2.2.2.2.2.2.2.2.2.1) = (List.length x.2.2.2.2.2.2.2.2.2.1)) then (Option.bind (Go.Ev.Huff.f24_b (x.2.1, (x.2.2.1, (x.2.2.2.1, (x.2.2.2.2.2.2.2.2.2.1, (x.2.2.2.2.2.1, (x.2.2.2.2.2.2.1, (x.2.2.2.2.2.2.2.1, (x.2.2.2.2.2.2.2.2.1, Unit.unit))))))))) (fun y1 => (if ((y1.2.1 != (0 : Int)) = true) then (some (Sum.inr (Sum.inr (Sum.inl (false, Unit.unit)))))
   else (if ((0 : Int) ≤ x.1) then (if (x.1 < (((List.length x.2.2.2.2.1) : Nat) : Int)) then (if ((y1.1 != (List.getD x.2.2.2.2.1 ((0 : Nat) + (Int.toNat x.1)) (0 : Int))) = true) then (some (Sum.inr (Sum.inr (Sum.inl (false, Unit.unit)))))
   else (if ((List.length x.2.2.2.2.1) = (List.length x.2.2.2.2.1)) then (if ((List.length y1.2.2.2.2.2.1) = (List.length y1.2.2.2.2.2.1)) then (some (Sum.inl ((Go.IntKind.wrap Go.IntKind.i64 (x.1 + (1 : Int))), (y1.2.2.1, (y1.2.2.2.1, (y1.2.2.2.2.1, (x.2.2.2.2.1, (y1.2.2.2.2.2.2.1, (y1.2.2.2.2.2.2.2.1, (y1.2.2.2.2.2.2.2.2.1, (y1.2.2.2.2.2.2.2.2.2.1, (y1.2.2.2.2.2.1, Unit.unit))))))))))))
   else none)
   else none))
   else none)
   else none))))
   else none)
   else (some (Sum.inr (Sum.inl (x.2.2.2.2.2.1, (x.2.2.2.2.2.2.1, (x.2.2.2.2.2.2.2.1, (x.2.2.2.2.2.2.2.2.1, Unit.unit))))))))
theorem b7_5_eq (x : g7_5.D) : b7_5 x = evF P (T6.orc _) Go.Proofs.Try.f7.ntmps fx7 (Code.at [true, true, true, true, true, true, true, true, true, true, false, true, false, false] c7) (planAt 64 []) g7_5 x (injK fx7 ((.normal, g7_5) :: o7_5) some) := by kernel_rfl
noncomputable def l7_5 : g7_5.D → Option (outD o7_5) := loopN g7_5 o7_5 b7_5 18446744073709551616
theorem at7_5 : Code.at [true, true, true, true, true, true, true, true, true, true, false, true, false] c7 = .loop (Code.at [true, true, true, true, true, true, true, true, true, true, false, true, false, false] c7) := by kernel_rfl
theorem s7_5_ok : SubOk P Go.Proofs.Try.f7.ntmps fx7 (Code.at [true, true, true, true, true, true, true, true, true, true, false, true, false] c7) ⟨g7_5, o7_5, l7_5⟩ := by
  rw [at7_5]
  exact loop_ok (sub_ok (g := g7_5) (outs := ((.normal, g7_5) :: o7_5)) (f := b7_5) (Table.ok T6_ok _) hmix (planAt_ok (P := P) (n := Go.Proofs.Try.f7.ntmps) (fx := fx7) (c := (Code.at [true, true, true, true, true, true, true, true, true, true, false, true, false, false] c7)) (d := 64) (l := []) trivial) b7_5_eq) rfl _
abbrev g7_4 : Sg := ⟨[1, 5, 9, 14, 15], [.lf (.sl (.int .i64)), .lf (.ptr 0 0), .lf (.ptr 1 0), .lf (.gr (.int .i64) 2), .lf (.int .i64)], [some (.box true [.many (.int .i64) 16, .lf (.sl (.int .i64)), .lf (.sl (.int .i64)), .lf (.gr (.int .i64) 3)]), some (.box true [.lf (.gr (.int .u8) 4), .lf (.int .i64), .lf (.int .i64)]), some (.arr true (.int .i64)), some (.arr true (.int .i64)), some (.arr true (.int .u8))]⟩
abbrev o7_4 : Outs := [(.exit 6, ⟨[5, 9, 14], [.lf (.ptr 0 0), .lf (.ptr 1 0), .lf (.gr (.int .i64) 2)], [some (.box true [.many (.int .i64) 16, .lf (.sl (.int .i64)), .lf (.sl (.int .i64)), .lf (.gr (.int .i64) 3)]), some (.box true [.lf (.gr (.int .u8) 4), .lf (.int .i64), .lf (.int .i64)]), some (.arr true (.int .i64)), some (.arr true (.int .i64)), some (.arr true (.int .u8))]⟩)]
noncomputable def b7_4 (x : g7_4.D) : Option (outD ((.normal, g7_4) :: o7_4)) :=
  (if ((decide (x.2.1 < (((List.length x.1) : Nat) : Int))) = true) then (if ((0 : Int) ≤ x.2.1) then (if (x.2.1 < (((List.length x.1) : Nat) : Int)) then (if ((List.length x.2.2.2.2.2.2.2.2.1) = (List.length x.2.2.2.2.2.2.2.2.1)) then (if ((List.length x.2.2.2.2.2.2.2.2.2.1) = (List.length x.2.2.2.2.2.2.2.2.2.1)) then (Option.bind (Go.Ev.Huff.f19 ((List.getD x.1 (Int.toNat x.2.1) (0 : Int)), (x.2.2.1, (x.2.2.2.1, (x.2.2.2.2.1, (x.2.2.2.2.2.2.2.2.1, (x.2.2.2.2.2.1, (x.2.2.2.2.2.2.1, (x.2.2.2.2.2.2.2.2.2.1, Unit.unit))))))))) (fun y1 => (if ((y1.1 == (0 : Int)) = true) then (if ((0 : Int) ≤ x.2.1) then (if (x.2.1 < (((List.length x.1) : Nat) : Int)) then (if (((List.length (List.take (List.length x.2.2.2.2.2.2.2.1) (List.drop (0 : Nat) x.2.2.2.2.2.2.2.1))) + (List.length (List.take (1 : Nat) (List.drop (0 : Nat) (List.set (List.replicate (1 : Nat) (0 : Int)) (0 : Nat) (List.getD x.1 (Int.toNat x.2.1) (0 : Int))))))) ≤ (17592186044416 : Nat)) then (if ((List.length ((List.take (List.length x.2.2.2.2.2.2.2.1) (List.drop (0 : Nat) x.2.2.2.2.2.2.2.1)) ++ (List.take (1 : Nat) (List.drop (0 : Nat) (List.set (List.replicate (1 : Nat) (0 : Int)) (0 : Nat) (List.getD x.1 (Int.toNat x.2.1) (0 : Int))))))) = (List.length ((List.take (List.length x.2.2.2.2.2.2.2.1) (List.drop (0 : Nat) x.2.2.2.2.2.2.2.1)) ++ (List.take (1 : Nat) (List.drop (0 : Nat) (List.set (List.replicate (1 : Nat) (0 : Int)) (0 : Nat) (List.getD x.1 (Int.toNat x.2.1) (0 : Int)))))))) then (if ((List.length y1.2.2.2.2.1) = (List.length y1.2.2.2.2.1)) then (if ((List.length y1.2.2.2.2.2.2.2.1) = (List.length y1.2.2.2.2.2.2.2.1)) then (some (Sum.inl (x.1, ((Go.IntKind.wrap Go.IntKind.i64 (x.2.1 + (1 : Int))), (y1.2.1, (y1.2.2.1, (y1.2.2.2.1, (y1.2.2.2.2.2.1, (y1.2.2.2.2.2.2.1, (((List.take (List.length x.2.2.2.2.2.2.2.1) (List.drop (0 : Nat) x.2.2.2.2.2.2.2.1)) ++ (List.take (1 : Nat) (List.drop (0 : Nat) (List.set (List.replicate (1 : Nat) (0 : Int)) (0 : Nat) (List.getD x.1 (Int.toNat x.2.1) (0 : Int)))))), (y1.2.2.2.2.1, (y1.2.2.2.2.2.2.2.1, Unit.unit))))))))))))
   else none)
   else none)
   else none)
   else none)
   else none)
   else none)
   else (if ((List.length x.2.2.2.2.2.2.2.1) = (List.length x.2.2.2.2.2.2.2.1)) then (if ((List.length y1.2.2.2.2.1) = (List.length y1.2.2.2.2.1)) then (if ((List.length y1.2.2.2.2.2.2.2.1) = (List.length y1.2.2.2.2.2.2.2.1)) then (some (Sum.inl (x.1, ((Go.IntKind.wrap Go.IntKind.i64 (x.2.1 + (1 : Int))), (y1.2.1, (y1.2.2.1, (y1.2.2.2.1, (y1.2.2.2.2.2.1, (y1.2.2.2.2.2.2.1, (x.2.2.2.2.2.2.2.1, (y1.2.2.2.2.1, (y1.2.2.2.2.2.2.2.1, Unit.unit))))))))))))
   else none)
   else none)
   else none))))
   else none)
   else none)
   else none)
   else none)
   else (if ((List.length x.2.2.2.2.2.2.2.1) = (List.length x.2.2.2.2.2.2.2.1)) then (if ((List.length x.2.2.2.2.2.2.2.2.1) = (List.length x.2.2.2.2.2.2.2.2.1)) then (if ((List.length x.2.2.2.2.2.2.2.2.2.1) = (List.length x.2.2.2.2.2.2.2.2.2.1)) then (some (Sum.inr (Sum.inl (x.2.2.1, (x.2.2.2.1, (x.2.2.2.2.1, (x.2.2.2.2.2.1, (x.2.2.2.2.2.2.1, (x.2.2.2.2.2.2.2.1, (x.2.2.2.2.2.2.2.2.1, (x.2.2.2.2.2.2.2.2.2.1, Unit.unit)))))))))))
   else none)
   else none)
   else none))
theorem b7_4_eq (x : g7_4.D) : b7_4 x = evF P (T6.orc _) Go.Proofs.Try.f7.ntmps fx7 (Code.at [true, true, true, true, true, true, true, true, false, true, false, false] c7) (planAt 64 []) g7_4 x (injK fx7 ((.normal, g7_4) :: o7_4) some) := by kernel_rfl
noncomputable def l7_4 : g7_4.D → Option (outD o7_4) := loopN g7_4 o7_4 b7_4 18446744073709551616
theorem at7_4 : Code.at [true, true, true, true, true, true, true, true, false, true, false] c7 = .loop (Code.at [true, true, true, true, true, true, true, true, false, true, false, false] c7) := by kernel_rfl
theorem s7_4_ok : SubOk P Go.Proofs.Try.f7.ntmps fx7 (Code.at [true, true, true, true, true, true, true, true, false, true, false] c7) ⟨g7_4, o7_4, l7_4⟩ := by
  rw [at7_4]
  exact loop_ok (sub_ok (g := g7_4) (outs := ((.normal, g7_4) :: o7_4)) (f := b7_4) (Table.ok T6_ok _) hmix (planAt_ok (P := P) (n := Go.Proofs.Try.f7.ntmps) (fx := fx7) (c := (Code.at [true, true, true, true, true, true, true, true, false, true, false, false] c7)) (d := 64) (l := []) trivial) b7_4_eq) rfl _
abbrev g7_2 : Sg := ⟨[6, 9], [.lf (.int .i64), .lf (.ptr 0 0)], [some (.box true [.lf (.gr (.int .u8) 1), .lf (.int .i64), .lf (.int .i64)]), some (.arr true (.int .u8))]⟩
abbrev o7_2 : Outs := [(.normal, ⟨[4], [.lf .bool], []⟩)]
noncomputable def b7_2 (x : g7_2.D) : Option (outD o7_2) :=
  (Option.bind (Go.Ev.Huff.f12 Unit.unit) (fun y1 => (if (y1.1 = true) then (some (Sum.inl ((x.1 != (0 : Int)), Unit.unit)))
   else (some (Sum.inl (false, Unit.unit))))))
theorem b7_2_eq (x : g7_2.D) : b7_2 x = evF P (T6.orc _) Go.Proofs.Try.f7.ntmps fx7 (Code.at [true, true, true, true, true, false, true, false, false] c7) (planAt 64 []) g7_2 x (injK fx7 o7_2 some) := by kernel_rfl
theorem s7_2_ok : SubOk P Go.Proofs.Try.f7.ntmps fx7 (Code.at [true, true, true, true, true, false, true, false, false] c7) ⟨g7_2, o7_2, b7_2⟩ :=
  sub_ok (g := g7_2) (outs := o7_2) (f := b7_2) (Table.ok T6_ok _) hmix (planAt_ok (P := P) (n := Go.Proofs.Try.f7.ntmps) (fx := fx7) (c := (Code.at [true, true, true, true, true, false, true, false, false] c7)) (d := 64) (l := []) trivial) b7_2_eq
abbrev g7_3 : Sg := ⟨[0, 1, 5, 7, 9, 10], [.lf (.sl (.int .i64)), .lf (.sl (.int .i64)), .lf (.ptr 0 0), .lf (.sl (.int .i64)), .lf (.ptr 1 0), .lf (.int .i64)], [some (.box true [.many (.int .i64) 16, .lf (.sl (.int .i64)), .lf (.sl (.int .i64)), .lf (.gr (.int .i64) 2)]), some (.box true [.lf (.gr (.int .u8) 3), .lf (.int .i64), .lf (.int .i64)]), some (.arr true (.int .i64)), some (.arr true (.int .u8))]⟩
abbrev o7_3 : Outs := [(.exit 0, ⟨[1, 5, 9], [.lf (.sl (.int .i64)), .lf (.ptr 0 0), .lf (.ptr 1 0)], [some (.box true [.many (.int .i64) 16, .lf (.sl (.int .i64)), .lf (.sl (.int .i64)), .lf (.gr (.int .i64) 2)]), some (.box true [.lf (.gr (.int .u8) 3), .lf (.int .i64), .lf (.int .i64)]), some (.arr true (.int .i64)), some (.arr true (.int .u8))]⟩), (.ret, ⟨[4], [.lf .bool], []⟩)]
noncomputable def b7_3 (x : g7_3.D) : Option (outD ((.normal, g7_3) :: o7_3)) :=
  (if ((decide (x.2.2.2.1 < (((List.length x.1) : Nat) : Int))) = true) then (if ((List.length x.2.2.2.2.2.2.2.2.2.1) = (List.length x.2.2.2.2.2.2.2.2.2.1)) then (if ((List.length x.2.2.2.2.2.2.2.2.2.2.1) = (List.length x.2.2.2.2.2.2.2.2.2.2.1)) then (Option.bind (Go.Ev.Huff.l7_6 (x.1, (x.2.1, (x.2.2.1, (x.2.2.2.1, ((0 : Int), (x.2.2.2.2.1, (x.2.2.2.2.2.1, (x.2.2.2.2.2.2.1, (x.2.2.2.2.2.2.2.1, (x.2.2.2.2.2.2.2.2.1, (x.2.2.2.2.2.2.2.2.2.1, (x.2.2.2.2.2.2.2.2.2.2.1, Unit.unit))))))))))))) (Sum.elim (fun y1 => (if ((List.length y1.2.2.2.2.2.2.2.2.2.1) = (List.length y1.2.2.2.2.2.2.2.2.2.1)) then (if ((List.length y1.2.2.2.2.2.2.2.2.2.2.1) = (List.length y1.2.2.2.2.2.2.2.2.2.2.1)) then (some (Sum.inl (y1.1, (y1.2.1, (y1.2.2.1, ((Go.IntKind.wrap Go.IntKind.i64 (y1.2.2.2.1 + (1 : Int))), (y1.2.2.2.2.1, (y1.2.2.2.2.2.1, (y1.2.2.2.2.2.2.1, (y1.2.2.2.2.2.2.2.1, (y1.2.2.2.2.2.2.2.2.1, (y1.2.2.2.2.2.2.2.2.2.1, (y1.2.2.2.2.2.2.2.2.2.2.1, Unit.unit)))))))))))))
   else none)
   else none)) (Sum.elim (fun y1 => (some (Sum.inr (Sum.inr (Sum.inl (y1.1, Unit.unit)))))) Empty.elim)))
   else none)
   else none)
   else (if ((List.length x.2.2.2.2.2.2.2.2.2.1) = (List.length x.2.2.2.2.2.2.2.2.2.1)) then (if ((List.length x.2.2.2.2.2.2.2.2.2.2.1) = (List.length x.2.2.2.2.2.2.2.2.2.2.1)) then (some (Sum.inr (Sum.inl (x.2.1, (x.2.2.2.2.1, (x.2.2.2.2.2.1, (x.2.2.2.2.2.2.1, (x.2.2.2.2.2.2.2.1, (x.2.2.2.2.2.2.2.2.1, (x.2.2.2.2.2.2.2.2.2.1, (x.2.2.2.2.2.2.2.2.2.2.1, Unit.unit)))))))))))
   else none)
   else none))
theorem b7_3_eq (x : g7_3.D) : b7_3 x = evF P (T6.orc _) Go.Proofs.Try.f7.ntmps fx7 (Code.at [true, true, true, true, true, true, false, true, false, false] c7) (planAt 64 [([true, false, false, true, false], ⟨g7_6, o7_6, l7_6⟩)]) g7_3 x (injK fx7 ((.normal, g7_3) :: o7_3) some) := by kernel_rfl
noncomputable def l7_3 : g7_3.D → Option (outD o7_3) := loopN g7_3 o7_3 b7_3 18446744073709551616
theorem p7_3 : AllSub P Go.Proofs.Try.f7.ntmps fx7 (Code.at [true, true, true, true, true, true, false, true, false, false] c7) [([true, false, false, true, false], ⟨g7_6, o7_6, l7_6⟩)] := And.intro s7_6_ok (trivial)
theorem q7_3 : PlanOk P Go.Proofs.Try.f7.ntmps fx7 (planAt 64 [([true, false, false, true, false], ⟨g7_6, o7_6, l7_6⟩)]) (Code.at [true, true, true, true, true, true, false, true, false, false] c7) := planAt_ok p7_3
theorem at7_3 : Code.at [true, true, true, true, true, true, false, true, false] c7 = .loop (Code.at [true, true, true, true, true, true, false, true, false, false] c7) := by kernel_rfl
theorem s7_3_ok : SubOk P Go.Proofs.Try.f7.ntmps fx7 (Code.at [true, true, true, true, true, true, false, true, false] c7) ⟨g7_3, o7_3, l7_3⟩ := by
  rw [at7_3]
  exact loop_ok (sub_ok (g := g7_3) (outs := ((.normal, g7_3) :: o7_3)) (f := b7_3) (Table.ok T6_ok _) hmix (q7_3) b7_3_eq) rfl _
abbrev g7_1 : Sg := ⟨[0, 1], [.lf (.sl (.int .i64)), .lf (.sl (.int .i64))], []⟩
abbrev o7_1 : Outs := [(.normal, ⟨[0, 1, 5, 6], [.lf (.sl (.int .i64)), .lf (.sl (.int .i64)), .lf .nilp, .lf (.int .i64)], []⟩), (.normal, ⟨[0, 1, 5, 6], [.lf (.sl (.int .i64)), .lf (.sl (.int .i64)), .lf (.ptr 0 0), .lf (.int .i64)], [some (.box true [.many (.int .i64) 16, .lf (.sl (.int .i64)), .lf (.sl (.int .i64)), .lf (.gr (.int .i64) 1)]), some (.arr true (.int .i64))]⟩)]
noncomputable def b7_1 (x : g7_1.D) : Option (outD o7_1) :=
  (Option.bind (Go.Ev.Huff.f11 (x.1, Unit.unit)) (Sum.elim (fun y1 => (some (Sum.inl (x.1, (x.2.1, (y1.1, Unit.unit)))))) (fun y1 => (if ((List.length y1.2.2.2.2.1) = (List.length y1.2.2.2.2.1)) then (some (Sum.inr (Sum.inl (x.1, (x.2.1, (y1.1, (y1.2.1, (y1.2.2.1, (y1.2.2.2.1, (y1.2.2.2.2.1, Unit.unit))))))))))
   else none))))
theorem b7_1_eq (x : g7_1.D) : b7_1 x = evF P (T6.orc _) Go.Proofs.Try.f7.ntmps fx7 (Code.at [true, true, false] c7) (planAt 64 []) g7_1 x (injK fx7 o7_1 some) := by kernel_rfl
theorem s7_1_ok : SubOk P Go.Proofs.Try.f7.ntmps fx7 (Code.at [true, true, false] c7) ⟨g7_1, o7_1, b7_1⟩ :=
  sub_ok (g := g7_1) (outs := o7_1) (f := b7_1) (Table.ok T6_ok _) hmix (planAt_ok (P := P) (n := Go.Proofs.Try.f7.ntmps) (fx := fx7) (c := (Code.at [true, true, false] c7)) (d := 64) (l := []) trivial) b7_1_eq
noncomputable def f7 (x : gi7.D) : Option go7.D :=
  (if ((decide ((((List.length x.1) : Nat) : Int) > (60 : Int))) = true) then (some (true, Unit.unit))
   else (if ((decide ((((List.length x.2.1) : Nat) : Int) > (60 : Int))) = true) then (some (true, Unit.unit))
   else (Option.bind (Go.Ev.Huff.b7_1 (x.1, (x.2.1, Unit.unit))) (Sum.elim (fun y1 => (Option.bind (Go.Ev.Huff.f9 (y1.1, Unit.unit)) (fun _ => (Option.bind (Go.Ev.Huff.f17 Unit.unit) (fun y3 => (if ((y1.2.2.1 != (0 : Int)) = true) then (if ((List.length y3.2.2.1) = (List.length y3.2.2.1)) then (Option.bind (Go.Ev.Huff.b7_2 (y1.2.2.1, (y3.1, (y3.2.1, (y3.2.2.1, Unit.unit))))) (Sum.elim (fun y4 => (some (y4.1, Unit.unit))) Empty.elim))
   else none)
   else (if ((List.length y3.2.2.1) = (List.length y3.2.2.1)) then (Option.bind (Go.Ev.Huff.b7_2 (y1.2.2.1, (y3.1, (y3.2.1, (y3.2.2.1, Unit.unit))))) (Sum.elim (fun y4 => (some (y4.1, Unit.unit))) Empty.elim))
   else none))))))) (Sum.elim (fun y1 => (Option.bind (Go.Ev.Huff.f9 (y1.1, Unit.unit)) (fun y2 => (Option.bind (Go.Ev.Huff.f17 Unit.unit) (fun y3 => (if ((y1.2.2.1 != (0 : Int)) = true) then (if ((List.length y3.2.2.1) = (List.length y3.2.2.1)) then (Option.bind (Go.Ev.Huff.b7_2 (y1.2.2.1, (y3.1, (y3.2.1, (y3.2.2.1, Unit.unit))))) (Sum.elim (fun y4 => (some (y4.1, Unit.unit))) Empty.elim))
   else none)
   else (if ((y2.1 != (0 : Int)) = true) then (if ((List.length y3.2.2.1) = (List.length y3.2.2.1)) then (Option.bind (Go.Ev.Huff.b7_2 (y1.2.2.1, (y3.1, (y3.2.1, (y3.2.2.1, Unit.unit))))) (Sum.elim (fun y4 => (some (y4.1, Unit.unit))) Empty.elim))
   else none)
   else (if (((((List.length y2.2.1) : Nat) : Int) != (((List.length y1.1) : Nat) : Int)) = true) then (if ((List.length y3.2.2.1) = (List.length y3.2.2.1)) then (Option.bind (Go.Ev.Huff.b7_2 (y1.2.2.1, (y3.1, (y3.2.1, (y3.2.2.1, Unit.unit))))) (Sum.elim (fun y4 => (some (y4.1, Unit.unit))) Empty.elim))
   else none)
   else (if ((List.length y1.2.2.2.2.2.2.1) = (List.length y1.2.2.2.2.2.2.1)) then (if ((List.length y3.2.2.1) = (List.length y3.2.2.1)) then (Option.bind (Go.Ev.Huff.l7_3 (y1.1, (y1.2.1, ((List.take (List.length y2.2.1) (List.drop (0 : Nat) y2.2.1)), ((0 : Int), (y1.2.2.2.1, (y1.2.2.2.2.1, (y1.2.2.2.2.2.1, (y3.1, (y3.2.1, (y1.2.2.2.2.2.2.1, (y3.2.2.1, Unit.unit)))))))))))) (Sum.elim (fun y4 => (if ((List.length y4.2.2.2.2.2.2.1) = (List.length y4.2.2.2.2.2.2.1)) then (if ((List.length y4.2.2.2.2.2.2.2.1) = (List.length y4.2.2.2.2.2.2.2.1)) then (Option.bind (Go.Ev.Huff.l7_4 (y4.1, ((0 : Int), (y4.2.1, (y4.2.2.1, (y4.2.2.2.1, (y4.2.2.2.2.1, (y4.2.2.2.2.2.1, ([], (y4.2.2.2.2.2.2.1, (y4.2.2.2.2.2.2.2.1, Unit.unit))))))))))) (Sum.elim (fun y5 => (if ((List.length y5.2.2.2.2.2.2.2.1) = (List.length y5.2.2.2.2.2.2.2.1)) then (Option.bind (Go.Ev.Huff.f20 (y5.2.2.2.1, (y5.2.2.2.2.1, (y5.2.2.2.2.2.2.2.1, Unit.unit)))) (fun y6 => (Option.bind (Go.Ev.Huff.f22 ((List.take (List.length y6.2.2.2.1) (List.drop (0 : Nat) y6.2.2.2.1)), Unit.unit)) (fun y7 => (if ((List.length y5.2.2.2.2.2.1) = (List.length y5.2.2.2.2.2.1)) then (if ((List.length y5.2.2.2.2.2.2.1) = (List.length y5.2.2.2.2.2.2.1)) then (Option.bind (Go.Ev.Huff.l7_5 ((0 : Int), (y5.1, (y5.2.1, (y5.2.2.1, (y5.2.2.2.2.2.1, (y7.1, (y7.2.1, (y7.2.2.1, (y7.2.2.2.1, (y5.2.2.2.2.2.2.1, Unit.unit))))))))))) (Sum.elim (fun y8 => (Option.bind (Go.Ev.Huff.f12 Unit.unit) (fun y9 => (if (y9.1 = true) then (Option.bind (Go.Ev.Huff.f26 (y8.1, (y8.2.1, (y8.2.2.1, (y8.2.2.2.1, Unit.unit))))) (fun y10 => (some ((decide (y10.1 < (8 : Int))), Unit.unit))))
   else (some (false, Unit.unit)))))) (Sum.elim (fun y8 => (some (y8.1, Unit.unit))) Empty.elim)))
   else none)
   else none)))))
   else none)) Empty.elim))
   else none)
   else none)) (Sum.elim (fun y4 => (some (y4.1, Unit.unit))) Empty.elim)))
   else none)
   else none))))))))) Empty.elim)))))
theorem f7_eq (x : gi7.D) : f7 x = evF P (T6.orc _) Go.Proofs.Try.f7.ntmps fx7 c7 (planAt 64 [([true, true, false], ⟨g7_1, o7_1, b7_1⟩), ([true, true, true, true, true, false, true, false, false], ⟨g7_2, o7_2, b7_2⟩), ([true, true, true, true, true, true, false, true, false], ⟨g7_3, o7_3, l7_3⟩), ([true, true, true, true, true, true, true, true, false, true, false], ⟨g7_4, o7_4, l7_4⟩), ([true, true, true, true, true, true, true, true, true, true, false, true, false], ⟨g7_5, o7_5, l7_5⟩)]) gi7 x (fnK fx7 [go7]) := by kernel_rfl
theorem pf7 : AllSub P Go.Proofs.Try.f7.ntmps fx7 c7 [([true, true, false], ⟨g7_1, o7_1, b7_1⟩), ([true, true, true, true, true, false, true, false, false], ⟨g7_2, o7_2, b7_2⟩), ([true, true, true, true, true, true, false, true, false], ⟨g7_3, o7_3, l7_3⟩), ([true, true, true, true, true, true, true, true, false, true, false], ⟨g7_4, o7_4, l7_4⟩), ([true, true, true, true, true, true, true, true, true, true, false, true, false], ⟨g7_5, o7_5, l7_5⟩)] := And.intro s7_1_ok (And.intro s7_2_ok (And.intro s7_3_ok (And.intro s7_4_ok (And.intro s7_5_ok (trivial)))))
theorem qf7 : PlanOk P Go.Proofs.Try.f7.ntmps fx7 (planAt 64 [([true, true, false], ⟨g7_1, o7_1, b7_1⟩), ([true, true, true, true, true, false, true, false, false], ⟨g7_2, o7_2, b7_2⟩), ([true, true, true, true, true, true, false, true, false], ⟨g7_3, o7_3, l7_3⟩), ([true, true, true, true, true, true, true, true, false, true, false], ⟨g7_4, o7_4, l7_4⟩), ([true, true, true, true, true, true, true, true, true, true, false, true, false], ⟨g7_5, o7_5, l7_5⟩)]) c7 := planAt_ok pf7
theorem f7_ok : EntOk P 7 ⟨gi7, [go7], f7⟩ :=
  ent_ok (fn := Go.Proofs.Try.f7) (gi := gi7) (gos := [go7]) (f := f7) (c := c7) (fx := fx7) ⟨Go.Proofs.Try.func7, by kernel_rfl, rfl, by decide +kernel, rfl, rfl⟩ (by kernel_rfl) (Table.ok T6_ok _) hmix (qf7) f7_eq
noncomputable def T7 : Table := T6.add 7 [⟨gi7, [go7], f7⟩] []
theorem T7_ok : TableOk P T7 := Table.plus T6_ok (es := [⟨gi7, [go7], f7⟩]) ⟨f7_ok, trivial⟩ []

end Go.Ev.Huff
