/- Part of a proof about the given program: F1. -/
import Derived.Test.YtjbkmodcnfffiaaEvZ
import Derived.Test.YtjbkmodcnfffiaaChecked
namespace Go.Ev.Deflate
open Go.Ev

noncomputable abbrev P := Go.Proofs.Try.prog
set_option maxRecDepth 1000000
theorem hmix : P.follows .mixedOrders = true := by kernel_rfl

/-! ## 8: erasure/erasureref04.Own -/
noncomputable def c8 : Code := Func.code Go.Proofs.Try.f8
abbrev gi8 : Sg := ⟨[0], [.lf (.sl (.int .u8))], []⟩
abbrev go8 : Sg := ⟨[2], [.lf (.gr (.int .u8) 0)], [some (.arr true (.int .u8))]⟩
def fx8 : List Bool := []
noncomputable def f8 (x : gi8.D) : Option go8.D :=
  (if (((0 : Nat) + (List.length x.1)) ≤ (140737488355328 : Nat)) then (if (((0 : Nat) < ((0 : Nat) + (List.length x.1))) ∨ (((0 : Nat) = (0 : Nat)) ∧ ((0 : Nat) = (0 : Nat)))) then (if ((List.length ([] ++ x.1)) = (List.length ([] ++ x.1))) then (some (([] ++ x.1), Unit.unit))
   else none)
   else none)
   else none)
theorem f8_eq (x : gi8.D) : f8 x = evF P (Table.empty.orc _) Go.Proofs.Try.f8.ntmps fx8 c8 (planAt 64 []) gi8 x (fnK fx8 [go8]) := by kernel_rfl
theorem f8_ok : EntOk P 8 ⟨gi8, [go8], f8⟩ :=
  ent_ok (fn := Go.Proofs.Try.f8) (gi := gi8) (gos := [go8]) (f := f8) (c := c8) (fx := fx8) ⟨Go.Proofs.Try.func8, by kernel_rfl, rfl, by decide +kernel, rfl, rfl⟩ (by kernel_rfl) (Table.ok (Table.empty_ok P) _) hmix (planAt_ok (P := P) (n := Go.Proofs.Try.f8.ntmps) (fx := fx8) (c := c8) (d := 64) (l := []) trivial) f8_eq
noncomputable def T8 : Table := Table.empty.add 8 [⟨gi8, [go8], f8⟩] []
theorem T8_ok : TableOk P T8 := Table.plus (Table.empty_ok P) (es := [⟨gi8, [go8], f8⟩]) ⟨f8_ok, trivial⟩ []

/-! ## 20: erasure/deflate.run -/
noncomputable def c20 : Code := Func.code Go.Proofs.Try.f20
abbrev gi20 : Sg := ⟨[0, 1, 2], [.lf (.sl (.int .u8)), .lf (.int .i64), .lf (.int .i64)], []⟩
abbrev go20 : Sg := ⟨[6], [.lf (.int .i64)], []⟩
def fx20 : List Bool := []
abbrev g20_1 : Sg := ⟨[0, 1, 2, 7], [.lf (.sl (.int .u8)), .lf (.int .i64), .lf (.int .i64), .lf (.int .i64)], []⟩
abbrev o20_1 : Outs := [(.exit 0, ⟨[7], [.lf (.int .i64)], []⟩)]
noncomputable def b20_1 (x : g20_1.D) : Option (outD ((.normal, g20_1) :: o20_1)) :=
  (if ((decide (x.2.2.2.1 < (258 : Int))) = true) then (if ((decide ((Go.IntKind.wrap Go.IntKind.i64 (x.2.1 + x.2.2.2.1)) < (((List.length x.1) : Nat) : Int))) = true) then (if ((0 : Int) ≤ (Go.IntKind.wrap Go.IntKind.i64 (x.2.1 + x.2.2.2.1))) then (if ((Go.IntKind.wrap Go.IntKind.i64 (x.2.1 + x.2.2.2.1)) < (((List.length x.1) : Nat) : Int)) then (if ((0 : Int) ≤ (Go.IntKind.wrap Go.IntKind.i64 ((Go.IntKind.wrap Go.IntKind.i64 (x.2.1 + x.2.2.2.1)) - x.2.2.1))) then (if ((Go.IntKind.wrap Go.IntKind.i64 ((Go.IntKind.wrap Go.IntKind.i64 (x.2.1 + x.2.2.2.1)) - x.2.2.1)) < (((List.length x.1) : Nat) : Int)) then (if (((List.getD x.1 (Int.toNat (Go.IntKind.wrap Go.IntKind.i64 (x.2.1 + x.2.2.2.1))) (0 : Int)) == (List.getD x.1 (Int.toNat (Go.IntKind.wrap Go.IntKind.i64 ((Go.IntKind.wrap Go.IntKind.i64 (x.2.1 + x.2.2.2.1)) - x.2.2.1))) (0 : Int))) = true) then (some (Sum.inl (x.1, (x.2.1, (x.2.2.1, ((Go.IntKind.wrap Go.IntKind.i64 (x.2.2.2.1 + (1 : Int))), Unit.unit))))))
   else (some (Sum.inr (Sum.inl (x.2.2.2.1, Unit.unit)))))
   else none)
   else none)
   else none)
   else none)
   else (some (Sum.inr (Sum.inl (x.2.2.2.1, Unit.unit)))))
   else (some (Sum.inr (Sum.inl (x.2.2.2.1, Unit.unit)))))
theorem b20_1_eq (x : g20_1.D) : b20_1 x = evF P (T8.orc _) Go.Proofs.Try.f20.ntmps fx20 (Code.at [true, true, false, false, false] c20) (planAt 64 []) g20_1 x (injK fx20 ((.normal, g20_1) :: o20_1) some) := by kernel_rfl
noncomputable def l20_1 : g20_1.D → Option (outD o20_1) := loopN g20_1 o20_1 b20_1 18446744073709551616
theorem at20_1 : Code.at [true, true, false, false] c20 = .loop (Code.at [true, true, false, false, false] c20) := by kernel_rfl
theorem s20_1_ok : SubOk P Go.Proofs.Try.f20.ntmps fx20 (Code.at [true, true, false, false] c20) ⟨g20_1, o20_1, l20_1⟩ := by
  rw [at20_1]
  exact loop_ok (sub_ok (g := g20_1) (outs := ((.normal, g20_1) :: o20_1)) (f := b20_1) (Table.ok T8_ok _) hmix (planAt_ok (P := P) (n := Go.Proofs.Try.f20.ntmps) (fx := fx20) (c := (Code.at [true, true, false, false, false] c20)) (d := 64) (l := []) trivial) b20_1_eq) rfl _
noncomputable def f20 (x : gi20.D) : Option go20.D :=
  (Option.bind (Go.Ev.Deflate.l20_1 (x.1, (x.2.1, (x.2.2.1, ((0 : Int), Unit.unit))))) (Sum.elim (fun y1 => (some (y1.1, Unit.unit))) Empty.elim))
theorem f20_eq (x : gi20.D) : f20 x = evF P (T8.orc _) Go.Proofs.Try.f20.ntmps fx20 c20 (planAt 64 [([true, true, false, false], ⟨g20_1, o20_1, l20_1⟩)]) gi20 x (fnK fx20 [go20]) := by kernel_rfl
theorem pf20 : AllSub P Go.Proofs.Try.f20.ntmps fx20 c20 [([true, true, false, false], ⟨g20_1, o20_1, l20_1⟩)] := And.intro s20_1_ok (trivial)
theorem qf20 : PlanOk P Go.Proofs.Try.f20.ntmps fx20 (planAt 64 [([true, true, false, false], ⟨g20_1, o20_1, l20_1⟩)]) c20 := planAt_ok pf20
theorem f20_ok : EntOk P 20 ⟨gi20, [go20], f20⟩ :=
  ent_ok (fn := Go.Proofs.Try.f20) (gi := gi20) (gos := [go20]) (f := f20) (c := c20) (fx := fx20) ⟨Go.Proofs.Try.func20, by kernel_rfl, rfl, by decide +kernel, rfl, rfl⟩ (by kernel_rfl) (Table.ok T8_ok _) hmix (qf20) f20_eq
noncomputable def T20 : Table := T8.add 20 [⟨gi20, [go20], f20⟩] []
theorem T20_ok : TableOk P T20 := Table.plus T8_ok (es := [⟨gi20, [go20], f20⟩]) ⟨f20_ok, trivial⟩ []

/-! ## 9: erasure/deflate.Tokens -/
noncomputable def c9 : Code := Func.code Go.Proofs.Try.f9
abbrev gi9 : Sg := ⟨[0], [.lf (.sl (.int .u8))], []⟩
abbrev go9 : Sg := ⟨[2, 3], [.lf (.gr (.pair (.int .i64) (.pair (.int .i64) (.int .i64))) 0), .lf (.int .i64)], [some (.arr true (.pair (.int .i64) (.pair (.int .i64) (.int .i64))))]⟩
def fx9 : List Bool := []
abbrev g9_2 : Sg := ⟨[0, 4, 5, 6, 7], [.lf (.sl (.int .u8)), .lf (.gr (.pair (.int .i64) (.pair (.int .i64) (.int .i64))) 0), .lf (.int .i64), .lf (.ptr 1 0), .lf (.int .i64)], [some (.arr true (.pair (.int .i64) (.pair (.int .i64) (.int .i64)))), some (.box true [.lf (.int .i64), .lf (.int .i64), .lf (.int .i64)])]⟩
abbrev o9_2 : Outs := [(.exit 2, ⟨[0, 4, 5, 6], [.lf (.sl (.int .u8)), .lf (.gr (.pair (.int .i64) (.pair (.int .i64) (.int .i64))) 0), .lf (.int .i64), .lf (.ptr 1 0)], [some (.arr true (.pair (.int .i64) (.pair (.int .i64) (.int .i64)))), some (.box true [.lf (.int .i64), .lf (.int .i64), .lf (.int .i64)])]⟩)]
noncomputable def b9_2 (x : g9_2.D) : Option (outD ((.normal, g9_2) :: o9_2)) :=
  (if ((decide (x.2.2.1 ≤ (Min.min x.2.1 (1024 : Int)))) = true) then (if ((decide (x.2.2.2.2.2.1 < (258 : Int))) = true) then (Option.bind (Go.Ev.Deflate.f20 (x.1, (x.2.1, (x.2.2.1, Unit.unit)))) (fun y1 => (if ((decide (y1.1 > x.2.2.2.2.2.1)) = true) then (if ((List.length x.2.2.2.1) = (List.length x.2.2.2.1)) then (some (Sum.inl (x.1, (x.2.1, ((Go.IntKind.wrap Go.IntKind.i64 (x.2.2.1 + (1 : Int))), (x.2.2.2.1, ((0 : Int), (y1.1, (x.2.2.1, Unit.unit)))))))))
   else none)
   else (if ((List.length x.2.2.2.1) = (List.length x.2.2.2.1)) then (some (Sum.inl (x.1, (x.2.1, ((Go.IntKind.wrap Go.IntKind.i64 (x.2.2.1 + (1 : Int))), (x.2.2.2.1, (x.2.2.2.2.1, (x.2.2.2.2.2.1, (x.2.2.2.2.2.2.1, Unit.unit)))))))))
   else none))))
   else (if ((List.length x.2.2.2.1) = (List.length x.2.2.2.1)) then (some (Sum.inr (Sum.inl (x.1, (x.2.1, (x.2.2.2.1, (x.2.2.2.2.1, (x.2.2.2.2.2.1, (x.2.2.2.2.2.2.1, Unit.unit)))))))))
   else none))
   else (if ((List.length x.2.2.2.1) = (List.length x.2.2.2.1)) then (some (Sum.inr (Sum.inl (x.1, (x.2.1, (x.2.2.2.1, (x.2.2.2.2.1, (x.2.2.2.2.2.1, (x.2.2.2.2.2.2.1, Unit.unit)))))))))
   else none))
theorem b9_2_eq (x : g9_2.D) : b9_2 x = evF P (T20.orc _) Go.Proofs.Try.f9.ntmps fx9 (Code.at [true, true, true, false, true, false, false, true, false, true, false, true, false, false] c9) (planAt 64 []) g9_2 x (injK fx9 ((.normal, g9_2) :: o9_2) some) := by kernel_rfl
noncomputable def l9_2 : g9_2.D → Option (outD o9_2) := loopN g9_2 o9_2 b9_2 18446744073709551616
theorem at9_2 : Code.at [true, true, true, false, true, false, false, true, false, true, false, true, false] c9 = .loop (Code.at [true, true, true, false, true, false, false, true, false, true, false, true, false, false] c9) := by kernel_rfl
theorem s9_2_ok : SubOk P Go.Proofs.Try.f9.ntmps fx9 (Code.at [true, true, true, false, true, false, false, true, false, true, false, true, false] c9) ⟨g9_2, o9_2, l9_2⟩ := by
  rw [at9_2]
  exact loop_ok (sub_ok (g := g9_2) (outs := ((.normal, g9_2) :: o9_2)) (f := b9_2) (Table.ok T20_ok _) hmix (planAt_ok (P := P) (n := Go.Proofs.Try.f9.ntmps) (fx := fx9) (c := (Code.at [true, true, true, false, true, false, false, true, false, true, false, true, false, false] c9)) (d := 64) (l := []) trivial) b9_2_eq) rfl _
abbrev g9_1 : Sg := ⟨[0, 4, 5], [.lf (.sl (.int .u8)), .lf (.gr (.pair (.int .i64) (.pair (.int .i64) (.int .i64))) 0), .lf (.int .i64)], [some (.arr true (.pair (.int .i64) (.pair (.int .i64) (.int .i64))))]⟩
abbrev o9_1 : Outs := [(.exit 0, ⟨[4], [.lf (.gr (.pair (.int .i64) (.pair (.int .i64) (.int .i64))) 0)], [some (.arr true (.pair (.int .i64) (.pair (.int .i64) (.int .i64))))]⟩)]
noncomputable def b9_1 (x : g9_1.D) : Option (outD ((.normal, g9_1) :: o9_1)) :=
  (if ((decide (x.2.1 < (((List.length x.1) : Nat) : Int))) = true) then (if ((List.length x.2.2.1) = (List.length x.2.2.1)) then (Option.bind (Go.Ev.Deflate.l9_2 (x.1, (x.2.1, ((1 : Int), (x.2.2.1, ((0 : Int), ((0 : Int), ((0 : Int), Unit.unit)))))))) (Sum.elim (fun y1 => (if ((decide (y1.2.2.2.2.1 < (3 : Int))) = true) then (if ((0 : Int) ≤ y1.2.1) then (if (y1.2.1 < (((List.length y1.1) : Nat) : Int)) then (if (((List.length (List.take (List.length y1.2.2.1) (List.drop (0 : Nat) y1.2.2.1))) + (List.length (List.take (1 : Nat) (List.drop (0 : Nat) (List.set (List.replicate (1 : Nat) ((0 : Int), ((0 : Int), (0 : Int)))) (0 : Nat) ((Go.IntKind.wrap Go.IntKind.i64 (List.getD y1.1 (Int.toNat y1.2.1) (0 : Int))), ((0 : Int), (0 : Int)))))))) ≤ (5864062014805 : Nat)) then (if ((List.length ((List.take (List.length y1.2.2.1) (List.drop (0 : Nat) y1.2.2.1)) ++ (List.take (1 : Nat) (List.drop (0 : Nat) (List.set (List.replicate (1 : Nat) ((0 : Int), ((0 : Int), (0 : Int)))) (0 : Nat) ((Go.IntKind.wrap Go.IntKind.i64 (List.getD y1.1 (Int.toNat y1.2.1) (0 : Int))), ((0 : Int), (0 : Int)))))))) = (List.length ((List.take (List.length y1.2.2.1) (List.drop (0 : Nat) y1.2.2.1)) ++ (List.take (1 : Nat) (List.drop (0 : Nat) (List.set (List.replicate (1 : Nat) ((0 : Int), ((0 : Int), (0 : Int)))) (0 : Nat) ((Go.IntKind.wrap Go.IntKind.i64 (List.getD y1.1 (Int.toNat y1.2.1) (0 : Int))), ((0 : Int), (0 : Int))))))))) then (some (Sum.inl (y1.1, ((Go.IntKind.wrap Go.IntKind.i64 (y1.2.1 + (1 : Int))), (((List.take (List.length y1.2.2.1) (List.drop (0 : Nat) y1.2.2.1)) ++ (List.take (1 : Nat) (List.drop (0 : Nat) (List.set (List.replicate (1 : Nat) ((0 : Int), ((0 : Int), (0 : Int)))) (0 : Nat) ((Go.IntKind.wrap Go.IntKind.i64 (List.getD y1.1 (Int.toNat y1.2.1) (0 : Int))), ((0 : Int), (0 : Int))))))), Unit.unit)))))
   else none)
   else none)
   else none)
   else none)
   else (if (((List.length (List.take (List.length y1.2.2.1) (List.drop (0 : Nat) y1.2.2.1))) + (List.length (List.take (1 : Nat) (List.drop (0 : Nat) (List.set (List.replicate (1 : Nat) ((0 : Int), ((0 : Int), (0 : Int)))) (0 : Nat) (y1.2.2.2.1, (y1.2.2.2.2.1, y1.2.2.2.2.2.1))))))) ≤ (5864062014805 : Nat)) then (if ((List.length ((List.take (List.length y1.2.2.1) (List.drop (0 : Nat) y1.2.2.1)) ++ (List.take (1 : Nat) (List.drop (0 : Nat) (List.set (List.replicate (1 : Nat) ((0 : Int), ((0 : Int), (0 : Int)))) (0 : Nat) (y1.2.2.2.1, (y1.2.2.2.2.1, y1.2.2.2.2.2.1))))))) = (List.length ((List.take (List.length y1.2.2.1) (List.drop (0 : Nat) y1.2.2.1)) ++ (List.take (1 : Nat) (List.drop (0 : Nat) (List.set (List.replicate (1 : Nat) ((0 : Int), ((0 : Int), (0 : Int)))) (0 : Nat) (y1.2.2.2.1, (y1.2.2.2.2.1, y1.2.2.2.2.2.1)))))))) then (some (Sum.inl (y1.1, ((Go.IntKind.wrap Go.IntKind.i64 (y1.2.1 + (Max.max y1.2.2.2.2.1 (1 : Int)))), (((List.take (List.length y1.2.2.1) (List.drop (0 : Nat) y1.2.2.1)) ++ (List.take (1 : Nat) (List.drop (0 : Nat) (List.set (List.replicate (1 : Nat) ((0 : Int), ((0 : Int), (0 : Int)))) (0 : Nat) (y1.2.2.2.1, (y1.2.2.2.2.1, y1.2.2.2.2.2.1)))))), Unit.unit)))))
   else none)
   else none))) Empty.elim))
   else none)
   else (if ((List.length x.2.2.1) = (List.length x.2.2.1)) then (some (Sum.inr (Sum.inl (x.2.2.1, Unit.unit))))
   else none))
theorem b9_1_eq (x : g9_1.D) : b9_1 x = evF P (T20.orc _) Go.Proofs.Try.f9.ntmps fx9 (Code.at [true, true, true, false, true, false, false] c9) (planAt 64 [([true, false, true, false, true, false], ⟨g9_2, o9_2, l9_2⟩)]) g9_1 x (injK fx9 ((.normal, g9_1) :: o9_1) some) := by kernel_rfl
noncomputable def l9_1 : g9_1.D → Option (outD o9_1) := loopN g9_1 o9_1 b9_1 18446744073709551616
theorem p9_1 : AllSub P Go.Proofs.Try.f9.ntmps fx9 (Code.at [true, true, true, false, true, false, false] c9) [([true, false, true, false, true, false], ⟨g9_2, o9_2, l9_2⟩)] := And.intro s9_2_ok (trivial)
theorem q9_1 : PlanOk P Go.Proofs.Try.f9.ntmps fx9 (planAt 64 [([true, false, true, false, true, false], ⟨g9_2, o9_2, l9_2⟩)]) (Code.at [true, true, true, false, true, false, false] c9) := planAt_ok p9_1
theorem at9_1 : Code.at [true, true, true, false, true, false] c9 = .loop (Code.at [true, true, true, false, true, false, false] c9) := by kernel_rfl
theorem s9_1_ok : SubOk P Go.Proofs.Try.f9.ntmps fx9 (Code.at [true, true, true, false, true, false] c9) ⟨g9_1, o9_1, l9_1⟩ := by
  rw [at9_1]
  exact loop_ok (sub_ok (g := g9_1) (outs := ((.normal, g9_1) :: o9_1)) (f := b9_1) (Table.ok T20_ok _) hmix (q9_1) b9_1_eq) rfl _
noncomputable def f9 (x : gi9.D) : Option go9.D :=
  (if ((decide ((((List.length x.1) : Nat) : Int) > (1048576 : Int))) = true) then (some ((2 : Int), ([], Unit.unit)))
   else (Option.bind (Go.Ev.Deflate.l9_1 (x.1, ((0 : Int), ([], Unit.unit)))) (Sum.elim (fun y1 => (if ((List.length y1.1) = (List.length y1.1)) then (some ((0 : Int), (y1.1, Unit.unit)))
   else none)) Empty.elim)))
theorem f9_eq (x : gi9.D) : f9 x = evF P (T20.orc _) Go.Proofs.Try.f9.ntmps fx9 c9 (planAt 64 [([true, true, true, false, true, false], ⟨g9_1, o9_1, l9_1⟩)]) gi9 x (fnK fx9 [go9]) := by kernel_rfl
theorem pf9 : AllSub P Go.Proofs.Try.f9.ntmps fx9 c9 [([true, true, true, false, true, false], ⟨g9_1, o9_1, l9_1⟩)] := And.intro s9_1_ok (trivial)
theorem qf9 : PlanOk P Go.Proofs.Try.f9.ntmps fx9 (planAt 64 [([true, true, true, false, true, false], ⟨g9_1, o9_1, l9_1⟩)]) c9 := planAt_ok pf9
theorem f9_ok : EntOk P 9 ⟨gi9, [go9], f9⟩ :=
  ent_ok (fn := Go.Proofs.Try.f9) (gi := gi9) (gos := [go9]) (f := f9) (c := c9) (fx := fx9) ⟨Go.Proofs.Try.func9, by kernel_rfl, rfl, by decide +kernel, rfl, rfl⟩ (by kernel_rfl) (Table.ok T20_ok _) hmix (qf9) f9_eq
noncomputable def T9 : Table := T20.add 9 [⟨gi9, [go9], f9⟩] []
theorem T9_ok : TableOk P T9 := Table.plus T20_ok (es := [⟨gi9, [go9], f9⟩]) ⟨f9_ok, trivial⟩ []

/-! ## 21: erasure/erasureref07.run -/
noncomputable def c21 : Code := Func.code Go.Proofs.Try.f21
abbrev gi21 : Sg := ⟨[0, 1, 2], [.lf (.sl (.int .u8)), .lf (.int .i64), .lf (.int .i64)], []⟩
abbrev go21 : Sg := ⟨[6], [.lf (.int .i64)], []⟩
def fx21 : List Bool := []
abbrev g21_1 : Sg := ⟨[0, 1, 2, 7], [.lf (.sl (.int .u8)), .lf (.int .i64), .lf (.int .i64), .lf (.int .i64)], []⟩
abbrev o21_1 : Outs := [(.exit 0, ⟨[7], [.lf (.int .i64)], []⟩)]
noncomputable def b21_1 (x : g21_1.D) : Option (outD ((.normal, g21_1) :: o21_1)) :=
  (if ((decide (x.2.2.2.1 < (258 : Int))) = true) then (if ((decide ((Go.IntKind.wrap Go.IntKind.i64 (x.2.1 + x.2.2.2.1)) < (((List.length x.1) : Nat) : Int))) = true) then (if ((0 : Int) ≤ (Go.IntKind.wrap Go.IntKind.i64 (x.2.1 + x.2.2.2.1))) then (if ((Go.IntKind.wrap Go.IntKind.i64 (x.2.1 + x.2.2.2.1)) < (((List.length x.1) : Nat) : Int)) then (if ((0 : Int) ≤ (Go.IntKind.wrap Go.IntKind.i64 ((Go.IntKind.wrap Go.IntKind.i64 (x.2.1 + x.2.2.2.1)) - x.2.2.1))) then (if ((Go.IntKind.wrap Go.IntKind.i64 ((Go.IntKind.wrap Go.IntKind.i64 (x.2.1 + x.2.2.2.1)) - x.2.2.1)) < (((List.length x.1) : Nat) : Int)) then (if (((List.getD x.1 (Int.toNat (Go.IntKind.wrap Go.IntKind.i64 (x.2.1 + x.2.2.2.1))) (0 : Int)) == (List.getD x.1 (Int.toNat (Go.IntKind.wrap Go.IntKind.i64 ((Go.IntKind.wrap Go.IntKind.i64 (x.2.1 + x.2.2.2.1)) - x.2.2.1))) (0 : Int))) = true) then (some (Sum.inl (x.1, (x.2.1, (x.2.2.1, ((Go.IntKind.wrap Go.IntKind.i64 (x.2.2.2.1 + (1 : Int))), Unit.unit))))))
   else (some (Sum.inr (Sum.inl (x.2.2.2.1, Unit.unit)))))
   else none)
   else none)
   else none)
   else none)
   else (some (Sum.inr (Sum.inl (x.2.2.2.1, Unit.unit)))))
   else (some (Sum.inr (Sum.inl (x.2.2.2.1, Unit.unit)))))
theorem b21_1_eq (x : g21_1.D) : b21_1 x = evF P (T9.orc _) Go.Proofs.Try.f21.ntmps fx21 (Code.at [true, true, false, false, false] c21) (planAt 64 []) g21_1 x (injK fx21 ((.normal, g21_1) :: o21_1) some) := by kernel_rfl
noncomputable def l21_1 : g21_1.D → Option (outD o21_1) := loopN g21_1 o21_1 b21_1 18446744073709551616
theorem at21_1 : Code.at [true, true, false, false] c21 = .loop (Code.at [true, true, false, false, false] c21) := by kernel_rfl
theorem s21_1_ok : SubOk P Go.Proofs.Try.f21.ntmps fx21 (Code.at [true, true, false, false] c21) ⟨g21_1, o21_1, l21_1⟩ := by
  rw [at21_1]
  exact loop_ok (sub_ok (g := g21_1) (outs := ((.normal, g21_1) :: o21_1)) (f := b21_1) (Table.ok T9_ok _) hmix (planAt_ok (P := P) (n := Go.Proofs.Try.f21.ntmps) (fx := fx21) (c := (Code.at [true, true, false, false, false] c21)) (d := 64) (l := []) trivial) b21_1_eq) rfl _
noncomputable def f21 (x : gi21.D) : Option go21.D :=
  (Option.bind (Go.Ev.Deflate.l21_1 (x.1, (x.2.1, (x.2.2.1, ((0 : Int), Unit.unit))))) (Sum.elim (fun y1 => (some (y1.1, Unit.unit))) Empty.elim))
theorem f21_eq (x : gi21.D) : f21 x = evF P (T9.orc _) Go.Proofs.Try.f21.ntmps fx21 c21 (planAt 64 [([true, true, false, false], ⟨g21_1, o21_1, l21_1⟩)]) gi21 x (fnK fx21 [go21]) := by kernel_rfl
theorem pf21 : AllSub P Go.Proofs.Try.f21.ntmps fx21 c21 [([true, true, false, false], ⟨g21_1, o21_1, l21_1⟩)] := And.intro s21_1_ok (trivial)
theorem qf21 : PlanOk P Go.Proofs.Try.f21.ntmps fx21 (planAt 64 [([true, true, false, false], ⟨g21_1, o21_1, l21_1⟩)]) c21 := planAt_ok pf21
theorem f21_ok : EntOk P 21 ⟨gi21, [go21], f21⟩ :=
  ent_ok (fn := Go.Proofs.Try.f21) (gi := gi21) (gos := [go21]) (f := f21) (c := c21) (fx := fx21) ⟨Go.Proofs.Try.func21, by kernel_rfl, rfl, by decide +kernel, rfl, rfl⟩ (by kernel_rfl) (Table.ok T9_ok _) hmix (qf21) f21_eq
noncomputable def T21 : Table := T9.add 21 [⟨gi21, [go21], f21⟩] []
theorem T21_ok : TableOk P T21 := Table.plus T9_ok (es := [⟨gi21, [go21], f21⟩]) ⟨f21_ok, trivial⟩ []

/-! ## 10: erasure/erasureref07.Tokens -/
noncomputable def c10 : Code := Func.code Go.Proofs.Try.f10
abbrev gi10 : Sg := ⟨[0], [.lf (.sl (.int .u8))], []⟩
abbrev go10 : Sg := ⟨[2, 3], [.lf (.gr (.pair (.int .i64) (.pair (.int .i64) (.int .i64))) 0), .lf (.int .i64)], [some (.arr true (.pair (.int .i64) (.pair (.int .i64) (.int .i64))))]⟩
def fx10 : List Bool := []
abbrev g10_2 : Sg := ⟨[0, 4, 5, 6, 7, 8], [.lf (.sl (.int .u8)), .lf (.gr (.pair (.int .i64) (.pair (.int .i64) (.int .i64))) 0), .lf (.int .i64), .lf (.int .i64), .lf (.int .i64), .lf (.int .i64)], [some (.arr true (.pair (.int .i64) (.pair (.int .i64) (.int .i64))))]⟩
abbrev o10_2 : Outs := [(.exit 2, ⟨[0, 4, 5, 6, 7], [.lf (.sl (.int .u8)), .lf (.gr (.pair (.int .i64) (.pair (.int .i64) (.int .i64))) 0), .lf (.int .i64), .lf (.int .i64), .lf (.int .i64)], [some (.arr true (.pair (.int .i64) (.pair (.int .i64) (.int .i64))))]⟩)]
noncomputable def b10_2 (x : g10_2.D) : Option (outD ((.normal, g10_2) :: o10_2)) :=
  (if ((decide (x.2.2.2.2.1 ≤ (1024 : Int))) = true) then (if ((decide (x.2.2.2.2.1 ≤ x.2.1)) = true) then (Option.bind (Go.Ev.Deflate.f21 (x.1, (x.2.1, (x.2.2.2.2.1, Unit.unit)))) (fun y1 => (if ((decide (y1.1 > x.2.2.1)) = true) then (if ((List.length x.2.2.2.2.2.1) = (List.length x.2.2.2.2.2.1)) then (some (Sum.inl (x.1, (x.2.1, (y1.1, (x.2.2.2.2.1, ((Go.IntKind.wrap Go.IntKind.i64 (x.2.2.2.2.1 + (1 : Int))), (x.2.2.2.2.2.1, Unit.unit))))))))
   else none)
   else (if ((List.length x.2.2.2.2.2.1) = (List.length x.2.2.2.2.2.1)) then (some (Sum.inl (x.1, (x.2.1, (x.2.2.1, (x.2.2.2.1, ((Go.IntKind.wrap Go.IntKind.i64 (x.2.2.2.2.1 + (1 : Int))), (x.2.2.2.2.2.1, Unit.unit))))))))
   else none))))
   else (if ((List.length x.2.2.2.2.2.1) = (List.length x.2.2.2.2.2.1)) then (some (Sum.inr (Sum.inl (x.1, (x.2.1, (x.2.2.1, (x.2.2.2.1, (x.2.2.2.2.2.1, Unit.unit))))))))
   else none))
   else (if ((List.length x.2.2.2.2.2.1) = (List.length x.2.2.2.2.2.1)) then (some (Sum.inr (Sum.inl (x.1, (x.2.1, (x.2.2.1, (x.2.2.2.1, (x.2.2.2.2.2.1, Unit.unit))))))))
   else none))
theorem b10_2_eq (x : g10_2.D) : b10_2 x = evF P (T21.orc _) Go.Proofs.Try.f10.ntmps fx10 (Code.at [true, true, true, true, false, false, false, true, false, true, true, false, true, false, false] c10) (planAt 64 []) g10_2 x (injK fx10 ((.normal, g10_2) :: o10_2) some) := by kernel_rfl
noncomputable def l10_2 : g10_2.D → Option (outD o10_2) := loopN g10_2 o10_2 b10_2 18446744073709551616
theorem at10_2 : Code.at [true, true, true, true, false, false, false, true, false, true, true, false, true, false] c10 = .loop (Code.at [true, true, true, true, false, false, false, true, false, true, true, false, true, false, false] c10) := by kernel_rfl
theorem s10_2_ok : SubOk P Go.Proofs.Try.f10.ntmps fx10 (Code.at [true, true, true, true, false, false, false, true, false, true, true, false, true, false] c10) ⟨g10_2, o10_2, l10_2⟩ := by
  rw [at10_2]
  exact loop_ok (sub_ok (g := g10_2) (outs := ((.normal, g10_2) :: o10_2)) (f := b10_2) (Table.ok T21_ok _) hmix (planAt_ok (P := P) (n := Go.Proofs.Try.f10.ntmps) (fx := fx10) (c := (Code.at [true, true, true, true, false, false, false, true, false, true, true, false, true, false, false] c10)) (d := 64) (l := []) trivial) b10_2_eq) rfl _
abbrev g10_1 : Sg := ⟨[0, 4, 5], [.lf (.sl (.int .u8)), .lf (.gr (.pair (.int .i64) (.pair (.int .i64) (.int .i64))) 0), .lf (.int .i64)], [some (.arr true (.pair (.int .i64) (.pair (.int .i64) (.int .i64))))]⟩
abbrev o10_1 : Outs := [(.exit 0, ⟨[4], [.lf (.gr (.pair (.int .i64) (.pair (.int .i64) (.int .i64))) 0)], [some (.arr true (.pair (.int .i64) (.pair (.int .i64) (.int .i64))))]⟩)]
noncomputable def b10_1 (x : g10_1.D) : Option (outD ((.normal, g10_1) :: o10_1)) :=
  (if ((decide (x.2.1 < (((List.length x.1) : Nat) : Int))) = true) then (if ((List.length x.2.2.1) = (List.length x.2.2.1)) then (Option.bind (Go.Ev.Deflate.l10_2 (x.1, (x.2.1, ((0 : Int), ((0 : Int), ((1 : Int), (x.2.2.1, Unit.unit))))))) (Sum.elim (fun y1 => (if ((decide (y1.2.2.1 ≥ (3 : Int))) = true) then (if (((List.length (List.take (List.length y1.2.2.2.2.1) (List.drop (0 : Nat) y1.2.2.2.2.1))) + (List.length (List.take (1 : Nat) (List.drop (0 : Nat) (List.set (List.replicate (1 : Nat) ((0 : Int), ((0 : Int), (0 : Int)))) (0 : Nat) ((0 : Int), (y1.2.2.1, y1.2.2.2.1))))))) ≤ (5864062014805 : Nat)) then (if ((List.length ((List.take (List.length y1.2.2.2.2.1) (List.drop (0 : Nat) y1.2.2.2.2.1)) ++ (List.take (1 : Nat) (List.drop (0 : Nat) (List.set (List.replicate (1 : Nat) ((0 : Int), ((0 : Int), (0 : Int)))) (0 : Nat) ((0 : Int), (y1.2.2.1, y1.2.2.2.1))))))) = (List.length ((List.take (List.length y1.2.2.2.2.1) (List.drop (0 : Nat) y1.2.2.2.2.1)) ++ (List.take (1 : Nat) (List.drop (0 : Nat) (List.set (List.replicate (1 : Nat) ((0 : Int), ((0 : Int), (0 : Int)))) (0 : Nat) ((0 : Int), (y1.2.2.1, y1.2.2.2.1)))))))) then (some (Sum.inl (y1.1, ((Go.IntKind.wrap Go.IntKind.i64 (y1.2.1 + y1.2.2.1)), (((List.take (List.length y1.2.2.2.2.1) (List.drop (0 : Nat) y1.2.2.2.2.1)) ++ (List.take (1 : Nat) (List.drop (0 : Nat) (List.set (List.replicate (1 : Nat) ((0 : Int), ((0 : Int), (0 : Int)))) (0 : Nat) ((0 : Int), (y1.2.2.1, y1.2.2.2.1)))))), Unit.unit)))))
   else none)
   else none)
   else (if ((0 : Int) ≤ y1.2.1) then (if (y1.2.1 < (((List.length y1.1) : Nat) : Int)) then (if (((List.length (List.take (List.length y1.2.2.2.2.1) (List.drop (0 : Nat) y1.2.2.2.2.1))) + (List.length (List.take (1 : Nat) (List.drop (0 : Nat) (List.set (List.replicate (1 : Nat) ((0 : Int), ((0 : Int), (0 : Int)))) (0 : Nat) ((Go.IntKind.wrap Go.IntKind.i64 (List.getD y1.1 (Int.toNat y1.2.1) (0 : Int))), ((0 : Int), (0 : Int)))))))) ≤ (5864062014805 : Nat)) then (if ((List.length ((List.take (List.length y1.2.2.2.2.1) (List.drop (0 : Nat) y1.2.2.2.2.1)) ++ (List.take (1 : Nat) (List.drop (0 : Nat) (List.set (List.replicate (1 : Nat) ((0 : Int), ((0 : Int), (0 : Int)))) (0 : Nat) ((Go.IntKind.wrap Go.IntKind.i64 (List.getD y1.1 (Int.toNat y1.2.1) (0 : Int))), ((0 : Int), (0 : Int)))))))) = (List.length ((List.take (List.length y1.2.2.2.2.1) (List.drop (0 : Nat) y1.2.2.2.2.1)) ++ (List.take (1 : Nat) (List.drop (0 : Nat) (List.set (List.replicate (1 : Nat) ((0 : Int), ((0 : Int), (0 : Int)))) (0 : Nat) ((Go.IntKind.wrap Go.IntKind.i64 (List.getD y1.1 (Int.toNat y1.2.1) (0 : Int))), ((0 : Int), (0 : Int))))))))) then (some (Sum.inl (y1.1, ((Go.IntKind.wrap Go.IntKind.i64 (y1.2.1 + (1 : Int))), (((List.take (List.length y1.2.2.2.2.1) (List.drop (0 : Nat) y1.2.2.2.2.1)) ++ (List.take (1 : Nat) (List.drop (0 : Nat) (List.set (List.replicate (1 : Nat) ((0 : Int), ((0 : Int), (0 : Int)))) (0 : Nat) ((Go.IntKind.wrap Go.IntKind.i64 (List.getD y1.1 (Int.toNat y1.2.1) (0 : Int))), ((0 : Int), (0 : Int))))))), Unit.unit)))))
   else none)
   else none)
   else none)
   else none))) Empty.elim))
   else none)
   else (if ((List.length x.2.2.1) = (List.length x.2.2.1)) then (some (Sum.inr (Sum.inl (x.2.2.1, Unit.unit))))
   else none))
theorem b10_1_eq (x : g10_1.D) : b10_1 x = evF P (T21.orc _) Go.Proofs.Try.f10.ntmps fx10 (Code.at [true, true, true, true, false, false, false] c10) (planAt 64 [([true, false, true, true, false, true, false], ⟨g10_2, o10_2, l10_2⟩)]) g10_1 x (injK fx10 ((.normal, g10_1) :: o10_1) some) := by kernel_rfl
noncomputable def l10_1 : g10_1.D → Option (outD o10_1) := loopN g10_1 o10_1 b10_1 18446744073709551616
theorem p10_1 : AllSub P Go.Proofs.Try.f10.ntmps fx10 (Code.at [true, true, true, true, false, false, false] c10) [([true, false, true, true, false, true, false], ⟨g10_2, o10_2, l10_2⟩)] := And.intro s10_2_ok (trivial)
theorem q10_1 : PlanOk P Go.Proofs.Try.f10.ntmps fx10 (planAt 64 [([true, false, true, true, false, true, false], ⟨g10_2, o10_2, l10_2⟩)]) (Code.at [true, true, true, true, false, false, false] c10) := planAt_ok p10_1
theorem at10_1 : Code.at [true, true, true, true, false, false] c10 = .loop (Code.at [true, true, true, true, false, false, false] c10) := by kernel_rfl
theorem s10_1_ok : SubOk P Go.Proofs.Try.f10.ntmps fx10 (Code.at [true, true, true, true, false, false] c10) ⟨g10_1, o10_1, l10_1⟩ := by
  rw [at10_1]
  exact loop_ok (sub_ok (g := g10_1) (outs := ((.normal, g10_1) :: o10_1)) (f := b10_1) (Table.ok T21_ok _) hmix (q10_1) b10_1_eq) rfl _
noncomputable def f10 (x : gi10.D) : Option go10.D :=
  (if ((decide ((((List.length x.1) : Nat) : Int) > (1048576 : Int))) = true) then (some ((2 : Int), ([], Unit.unit)))
   else (Option.bind (Go.Ev.Deflate.l10_1 (x.1, ((0 : Int), ([], Unit.unit)))) (Sum.elim (fun y1 => (if ((List.length y1.1) = (List.length y1.1)) then (some ((0 : Int), (y1.1, Unit.unit)))
   else none)) Empty.elim)))
theorem f10_eq (x : gi10.D) : f10 x = evF P (T21.orc _) Go.Proofs.Try.f10.ntmps fx10 c10 (planAt 64 [([true, true, true, true, false, false], ⟨g10_1, o10_1, l10_1⟩)]) gi10 x (fnK fx10 [go10]) := by kernel_rfl
theorem pf10 : AllSub P Go.Proofs.Try.f10.ntmps fx10 c10 [([true, true, true, true, false, false], ⟨g10_1, o10_1, l10_1⟩)] := And.intro s10_1_ok (trivial)
theorem qf10 : PlanOk P Go.Proofs.Try.f10.ntmps fx10 (planAt 64 [([true, true, true, true, false, false], ⟨g10_1, o10_1, l10_1⟩)]) c10 := planAt_ok pf10
theorem f10_ok : EntOk P 10 ⟨gi10, [go10], f10⟩ :=
  ent_ok (fn := Go.Proofs.Try.f10) (gi := gi10) (gos := [go10]) (f := f10) (c := c10) (fx := fx10) ⟨Go.Proofs.Try.func10, by kernel_rfl, rfl, by decide +kernel, rfl, rfl⟩ (by kernel_rfl) (Table.ok T21_ok _) hmix (qf10) f10_eq
noncomputable def T10 : Table := T21.add 10 [⟨gi10, [go10], f10⟩] []
theorem T10_ok : TableOk P T10 := Table.plus T21_ok (es := [⟨gi10, [go10], f10⟩]) ⟨f10_ok, trivial⟩ []

/-! ## 24: erasure/deflate.is -/
noncomputable def c24 : Code := Func.code Go.Proofs.Try.f24
abbrev gi24 : Sg := ⟨[0], [.agg [.lf (.int .i64), .lf (.int .i64), .lf (.int .i64)]], []⟩
abbrev go24 : Sg := ⟨[2], [.lf .bool], []⟩
def fx24 : List Bool := []
noncomputable def f24 (x : gi24.D) : Option go24.D :=
  (if ((x.2.1 == (0 : Int)) = true) then (if ((x.2.2.1 == (0 : Int)) = true) then (some (((Int.fdiv x.1 (256 : Int)) == (0 : Int)), Unit.unit))
   else (some (false, Unit.unit)))
   else (if ((x.1 == (0 : Int)) = true) then (if ((decide (x.2.1 ≥ (3 : Int))) = true) then (if ((decide (x.2.1 ≤ (258 : Int))) = true) then (if ((decide (x.2.2.1 ≥ (1 : Int))) = true) then (some ((decide (x.2.2.1 ≤ (32768 : Int))), Unit.unit))
   else (some (false, Unit.unit)))
   else (some (false, Unit.unit)))
   else (some (false, Unit.unit)))
   else (some (false, Unit.unit))))
theorem f24_eq (x : gi24.D) : f24 x = evF P (T10.orc _) Go.Proofs.Try.f24.ntmps fx24 c24 (planAt 64 []) gi24 x (fnK fx24 [go24]) := by kernel_rfl
theorem f24_ok : EntOk P 24 ⟨gi24, [go24], f24⟩ :=
  ent_ok (fn := Go.Proofs.Try.f24) (gi := gi24) (gos := [go24]) (f := f24) (c := c24) (fx := fx24) ⟨Go.Proofs.Try.func24, by kernel_rfl, rfl, by decide +kernel, rfl, rfl⟩ (by kernel_rfl) (Table.ok T10_ok _) hmix (planAt_ok (P := P) (n := Go.Proofs.Try.f24.ntmps) (fx := fx24) (c := c24) (d := 64) (l := []) trivial) f24_eq
noncomputable def T24 : Table := T10.add 24 [⟨gi24, [go24], f24⟩] []
theorem T24_ok : TableOk P T24 := Table.plus T10_ok (es := [⟨gi24, [go24], f24⟩]) ⟨f24_ok, trivial⟩ []

/-! ## 23: erasure/deflate.Put$1 -/
noncomputable def c23 : Code := Func.code Go.Proofs.Try.f23
abbrev gi23 : Sg := ⟨[0], [.agg [.lf (.int .i64), .lf (.int .i64), .lf (.int .i64)]], []⟩
abbrev go23 : Sg := ⟨[2], [.lf .bool], []⟩
def fx23 : List Bool := []
noncomputable def f23 (x : gi23.D) : Option go23.D :=
  (Option.bind (Go.Ev.Deflate.f24 (x.1, (x.2.1, (x.2.2.1, Unit.unit)))) (fun y1 => (some ((Bool.not y1.1), Unit.unit))))
theorem f23_eq (x : gi23.D) : f23 x = evF P (T24.orc _) Go.Proofs.Try.f23.ntmps fx23 c23 (planAt 64 []) gi23 x (fnK fx23 [go23]) := by kernel_rfl
theorem f23_ok : EntOk P 23 ⟨gi23, [go23], f23⟩ :=
  ent_ok (fn := Go.Proofs.Try.f23) (gi := gi23) (gos := [go23]) (f := f23) (c := c23) (fx := fx23) ⟨Go.Proofs.Try.func23, by kernel_rfl, rfl, by decide +kernel, rfl, rfl⟩ (by kernel_rfl) (Table.ok T24_ok _) hmix (planAt_ok (P := P) (n := Go.Proofs.Try.f23.ntmps) (fx := fx23) (c := c23) (d := 64) (l := []) trivial) f23_eq
noncomputable def T23 : Table := T24.add 23 [⟨gi23, [go23], f23⟩] []
theorem T23_ok : TableOk P T23 := Table.plus T24_ok (es := [⟨gi23, [go23], f23⟩]) ⟨f23_ok, trivial⟩ []

/-! ## 43: erasure/inflate.is -/
noncomputable def c43 : Code := Func.code Go.Proofs.Try.f43
abbrev gi43 : Sg := ⟨[0], [.agg [.lf (.int .i64), .lf (.int .i64), .lf (.int .i64)]], []⟩
abbrev go43 : Sg := ⟨[2], [.lf .bool], []⟩
def fx43 : List Bool := []
noncomputable def f43 (x : gi43.D) : Option go43.D :=
  (if ((x.2.1 == (0 : Int)) = true) then (if ((x.2.2.1 == (0 : Int)) = true) then (some (((Int.fdiv x.1 (256 : Int)) == (0 : Int)), Unit.unit))
   else (some (false, Unit.unit)))
   else (if ((x.1 == (0 : Int)) = true) then (if ((decide (x.2.1 ≥ (3 : Int))) = true) then (if ((decide (x.2.1 ≤ (258 : Int))) = true) then (if ((decide (x.2.2.1 ≥ (1 : Int))) = true) then (some ((decide (x.2.2.1 ≤ (32768 : Int))), Unit.unit))
   else (some (false, Unit.unit)))
   else (some (false, Unit.unit)))
   else (some (false, Unit.unit)))
   else (some (false, Unit.unit))))
theorem f43_eq (x : gi43.D) : f43 x = evF P (T23.orc _) Go.Proofs.Try.f43.ntmps fx43 c43 (planAt 64 []) gi43 x (fnK fx43 [go43]) := by kernel_rfl
theorem f43_ok : EntOk P 43 ⟨gi43, [go43], f43⟩ :=
  ent_ok (fn := Go.Proofs.Try.f43) (gi := gi43) (gos := [go43]) (f := f43) (c := c43) (fx := fx43) ⟨Go.Proofs.Try.func43, by kernel_rfl, rfl, by decide +kernel, rfl, rfl⟩ (by kernel_rfl) (Table.ok T23_ok _) hmix (planAt_ok (P := P) (n := Go.Proofs.Try.f43.ntmps) (fx := fx43) (c := c43) (d := 64) (l := []) trivial) f43_eq
noncomputable def T43 : Table := T23.add 43 [⟨gi43, [go43], f43⟩] []
theorem T43_ok : TableOk P T43 := Table.plus T23_ok (es := [⟨gi43, [go43], f43⟩]) ⟨f43_ok, trivial⟩ []

/-! ## 42: erasure/inflate.Expand$1 -/
noncomputable def c42 : Code := Func.code Go.Proofs.Try.f42
abbrev gi42 : Sg := ⟨[0], [.agg [.lf (.int .i64), .lf (.int .i64), .lf (.int .i64)]], []⟩
abbrev go42 : Sg := ⟨[2], [.lf .bool], []⟩
def fx42 : List Bool := []
noncomputable def f42 (x : gi42.D) : Option go42.D :=
  (Option.bind (Go.Ev.Deflate.f43 (x.1, (x.2.1, (x.2.2.1, Unit.unit)))) (fun y1 => (some ((Bool.not y1.1), Unit.unit))))
theorem f42_eq (x : gi42.D) : f42 x = evF P (T43.orc _) Go.Proofs.Try.f42.ntmps fx42 c42 (planAt 64 []) gi42 x (fnK fx42 [go42]) := by kernel_rfl
theorem f42_ok : EntOk P 42 ⟨gi42, [go42], f42⟩ :=
  ent_ok (fn := Go.Proofs.Try.f42) (gi := gi42) (gos := [go42]) (f := f42) (c := c42) (fx := fx42) ⟨Go.Proofs.Try.func42, by kernel_rfl, rfl, by decide +kernel, rfl, rfl⟩ (by kernel_rfl) (Table.ok T43_ok _) hmix (planAt_ok (P := P) (n := Go.Proofs.Try.f42.ntmps) (fx := fx42) (c := c42) (d := 64) (l := []) trivial) f42_eq
noncomputable def T42 : Table := T43.add 42 [⟨gi42, [go42], f42⟩] []
theorem T42_ok : TableOk P T42 := Table.plus T43_ok (es := [⟨gi42, [go42], f42⟩]) ⟨f42_ok, trivial⟩ []

/-! ## 50: slices.IndexFunc[[]erasure/api.Token,erasure/api.Token] -/
noncomputable def c50 : Code := Func.code Go.Proofs.Try.f50
abbrev gi50 : Sg := ⟨[0, 1], [.lf (.sl (.pair (.int .i64) (.pair (.int .i64) (.int .i64)))), .lf (.fnc 23 [])], []⟩
abbrev go50 : Sg := ⟨[4], [.lf (.int .i64)], []⟩
def fx50 : List Bool := []
abbrev g50_1 : Sg := ⟨[0, 1, 7, 8], [.lf (.sl (.pair (.int .i64) (.pair (.int .i64) (.int .i64)))), .lf (.fnc 23 []), .lf (.int .i64), .lf (.int .i64)], []⟩
abbrev o50_1 : Outs := [(.exit 0, ⟨[], [], []⟩), (.ret, ⟨[4], [.lf (.int .i64)], []⟩)]
noncomputable def b50_1 (x : g50_1.D) : Option (outD ((.normal, g50_1) :: o50_1)) :=
  (if ((decide (x.2.2.1 < x.2.1)) = true) then (if ((0 : Int) ≤ x.2.2.1) then (if (x.2.2.1 < (((List.length x.1) : Nat) : Int)) then (Option.bind (Go.Ev.Deflate.f23 ((List.getD x.1 (Int.toNat x.2.2.1) ((0 : Int), ((0 : Int), (0 : Int)))).1, ((List.getD x.1 (Int.toNat x.2.2.1) ((0 : Int), ((0 : Int), (0 : Int)))).2.1, ((List.getD x.1 (Int.toNat x.2.2.1) ((0 : Int), ((0 : Int), (0 : Int)))).2.2, Unit.unit)))) (fun y1 => (if (y1.1 = true) then (some (Sum.inr (Sum.inr (Sum.inl (x.2.2.1, Unit.unit)))))
   else (some (Sum.inl (x.1, (x.2.1, ((Go.IntKind.wrap Go.IntKind.i64 (x.2.2.1 + (1 : Int))), Unit.unit))))))))
   else none)
   else none)
   else (some (Sum.inr (Sum.inl Unit.unit))))
theorem b50_1_eq (x : g50_1.D) : b50_1 x = evF P (T42.orc _) Go.Proofs.Try.f50.ntmps fx50 (Code.at [true, false, true, false, false] c50) (planAt 64 []) g50_1 x (injK fx50 ((.normal, g50_1) :: o50_1) some) := by kernel_rfl
noncomputable def l50_1 : g50_1.D → Option (outD o50_1) := loopN g50_1 o50_1 b50_1 18446744073709551616
theorem at50_1 : Code.at [true, false, true, false] c50 = .loop (Code.at [true, false, true, false, false] c50) := by kernel_rfl
theorem s50_1_ok : SubOk P Go.Proofs.Try.f50.ntmps fx50 (Code.at [true, false, true, false] c50) ⟨g50_1, o50_1, l50_1⟩ := by
  rw [at50_1]
  exact loop_ok (sub_ok (g := g50_1) (outs := ((.normal, g50_1) :: o50_1)) (f := b50_1) (Table.ok T42_ok _) hmix (planAt_ok (P := P) (n := Go.Proofs.Try.f50.ntmps) (fx := fx50) (c := (Code.at [true, false, true, false, false] c50)) (d := 64) (l := []) trivial) b50_1_eq) rfl _
noncomputable def f50 (x : gi50.D) : Option go50.D :=
  (Option.bind (Go.Ev.Deflate.l50_1 (x.1, ((((List.length x.1) : Nat) : Int), ((0 : Int), Unit.unit)))) (Sum.elim (fun _ => (some ((-1 : Int), Unit.unit))) (Sum.elim (fun y1 => (some (y1.1, Unit.unit))) Empty.elim)))
theorem f50_eq (x : gi50.D) : f50 x = evF P (T42.orc _) Go.Proofs.Try.f50.ntmps fx50 c50 (planAt 64 [([true, false, true, false], ⟨g50_1, o50_1, l50_1⟩)]) gi50 x (fnK fx50 [go50]) := by kernel_rfl
theorem pf50 : AllSub P Go.Proofs.Try.f50.ntmps fx50 c50 [([true, false, true, false], ⟨g50_1, o50_1, l50_1⟩)] := And.intro s50_1_ok (trivial)
theorem qf50 : PlanOk P Go.Proofs.Try.f50.ntmps fx50 (planAt 64 [([true, false, true, false], ⟨g50_1, o50_1, l50_1⟩)]) c50 := planAt_ok pf50
theorem f50_ok : EntOk P 50 ⟨gi50, [go50], f50⟩ :=
  ent_ok (fn := Go.Proofs.Try.f50) (gi := gi50) (gos := [go50]) (f := f50) (c := c50) (fx := fx50) ⟨Go.Proofs.Try.func50, by kernel_rfl, rfl, by decide +kernel, rfl, rfl⟩ (by kernel_rfl) (Table.ok T42_ok _) hmix (qf50) f50_eq
abbrev gi50_b : Sg := ⟨[0, 1], [.lf (.sl (.pair (.int .i64) (.pair (.int .i64) (.int .i64)))), .lf (.fnc 42 [])], []⟩
abbrev go50_b : Sg := ⟨[4], [.lf (.int .i64)], []⟩
def fx50_b : List Bool := []
abbrev g50_b_1 : Sg := ⟨[0, 1, 7, 8], [.lf (.sl (.pair (.int .i64) (.pair (.int .i64) (.int .i64)))), .lf (.fnc 42 []), .lf (.int .i64), .lf (.int .i64)], []⟩
abbrev o50_b_1 : Outs := [(.exit 0, ⟨[], [], []⟩), (.ret, ⟨[4], [.lf (.int .i64)], []⟩)]
noncomputable def b50_b_1 (x : g50_b_1.D) : Option (outD ((.normal, g50_b_1) :: o50_b_1)) :=
  (if ((decide (x.2.2.1 < x.2.1)) = true) then (if ((0 : Int) ≤ x.2.2.1) then (if (x.2.2.1 < (((List.length x.1) : Nat) : Int)) then (Option.bind (Go.Ev.Deflate.f42 ((List.getD x.1 (Int.toNat x.2.2.1) ((0 : Int), ((0 : Int), (0 : Int)))).1, ((List.getD x.1 (Int.toNat x.2.2.1) ((0 : Int), ((0 : Int), (0 : Int)))).2.1, ((List.getD x.1 (Int.toNat x.2.2.1) ((0 : Int), ((0 : Int), (0 : Int)))).2.2, Unit.unit)))) (fun y1 => (if (y1.1 = true) then (some (Sum.inr (Sum.inr (Sum.inl (x.2.2.1, Unit.unit)))))
   else (some (Sum.inl (x.1, (x.2.1, ((Go.IntKind.wrap Go.IntKind.i64 (x.2.2.1 + (1 : Int))), Unit.unit))))))))
   else none)
   else none)
   else (some (Sum.inr (Sum.inl Unit.unit))))
theorem b50_b_1_eq (x : g50_b_1.D) : b50_b_1 x = evF P (T42.orc _) Go.Proofs.Try.f50.ntmps fx50_b (Code.at [true, false, true, false, false] c50) (planAt 64 []) g50_b_1 x (injK fx50_b ((.normal, g50_b_1) :: o50_b_1) some) := by kernel_rfl
noncomputable def l50_b_1 : g50_b_1.D → Option (outD o50_b_1) := loopN g50_b_1 o50_b_1 b50_b_1 18446744073709551616
theorem at50_b_1 : Code.at [true, false, true, false] c50 = .loop (Code.at [true, false, true, false, false] c50) := by kernel_rfl
theorem s50_b_1_ok : SubOk P Go.Proofs.Try.f50.ntmps fx50_b (Code.at [true, false, true, false] c50) ⟨g50_b_1, o50_b_1, l50_b_1⟩ := by
  rw [at50_b_1]
  exact loop_ok (sub_ok (g := g50_b_1) (outs := ((.normal, g50_b_1) :: o50_b_1)) (f := b50_b_1) (Table.ok T42_ok _) hmix (planAt_ok (P := P) (n := Go.Proofs.Try.f50.ntmps) (fx := fx50_b) (c := (Code.at [true, false, true, false, false] c50)) (d := 64) (l := []) trivial) b50_b_1_eq) rfl _
noncomputable def f50_b (x : gi50_b.D) : Option go50_b.D :=
  (Option.bind (Go.Ev.Deflate.l50_b_1 (x.1, ((((List.length x.1) : Nat) : Int), ((0 : Int), Unit.unit)))) (Sum.elim (fun _ => (some ((-1 : Int), Unit.unit))) (Sum.elim (fun y1 => (some (y1.1, Unit.unit))) Empty.elim)))
theorem f50_b_eq (x : gi50_b.D) : f50_b x = evF P (T42.orc _) Go.Proofs.Try.f50.ntmps fx50_b c50 (planAt 64 [([true, false, true, false], ⟨g50_b_1, o50_b_1, l50_b_1⟩)]) gi50_b x (fnK fx50_b [go50_b]) := by kernel_rfl
theorem pf50_b : AllSub P Go.Proofs.Try.f50.ntmps fx50_b c50 [([true, false, true, false], ⟨g50_b_1, o50_b_1, l50_b_1⟩)] := And.intro s50_b_1_ok (trivial)
theorem qf50_b : PlanOk P Go.Proofs.Try.f50.ntmps fx50_b (planAt 64 [([true, false, true, false], ⟨g50_b_1, o50_b_1, l50_b_1⟩)]) c50 := planAt_ok pf50_b
theorem f50_b_ok : EntOk P 50 ⟨gi50_b, [go50_b], f50_b⟩ :=
  ent_ok (fn := Go.Proofs.Try.f50) (gi := gi50_b) (gos := [go50_b]) (f := f50_b) (c := c50) (fx := fx50_b) ⟨Go.Proofs.Try.func50, by kernel_rfl, rfl, by decide +kernel, rfl, rfl⟩ (by kernel_rfl) (Table.ok T42_ok _) hmix (qf50_b) f50_b_eq
noncomputable def T50 : Table := T42.add 50 [⟨gi50, [go50], f50⟩, ⟨gi50_b, [go50_b], f50_b⟩] []
theorem T50_ok : TableOk P T50 := Table.plus T42_ok (es := [⟨gi50, [go50], f50⟩, ⟨gi50_b, [go50_b], f50_b⟩]) ⟨f50_ok, f50_b_ok, trivial⟩ []

/-! ## 22: slices.ContainsFunc[[]erasure/api.Token,erasure/api.Token] -/
noncomputable def c22 : Code := Func.code Go.Proofs.Try.f22
abbrev gi22 : Sg := ⟨[0, 1], [.lf (.sl (.pair (.int .i64) (.pair (.int .i64) (.int .i64)))), .lf (.fnc 23 [])], []⟩
abbrev go22 : Sg := ⟨[4], [.lf .bool], []⟩
def fx22 : List Bool := []
noncomputable def f22 (x : gi22.D) : Option go22.D :=
  (Option.bind (Go.Ev.Deflate.f50 (x.1, Unit.unit)) (fun y1 => (some ((decide (y1.1 ≥ (0 : Int))), Unit.unit))))
theorem f22_eq (x : gi22.D) : f22 x = evF P (T50.orc _) Go.Proofs.Try.f22.ntmps fx22 c22 (planAt 64 []) gi22 x (fnK fx22 [go22]) := by kernel_rfl
theorem f22_ok : EntOk P 22 ⟨gi22, [go22], f22⟩ :=
  ent_ok (fn := Go.Proofs.Try.f22) (gi := gi22) (gos := [go22]) (f := f22) (c := c22) (fx := fx22) ⟨Go.Proofs.Try.func22, by kernel_rfl, rfl, by decide +kernel, rfl, rfl⟩ (by kernel_rfl) (Table.ok T50_ok _) hmix (planAt_ok (P := P) (n := Go.Proofs.Try.f22.ntmps) (fx := fx22) (c := c22) (d := 64) (l := []) trivial) f22_eq
abbrev gi22_b : Sg := ⟨[0, 1], [.lf (.sl (.pair (.int .i64) (.pair (.int .i64) (.int .i64)))), .lf (.fnc 42 [])], []⟩
abbrev go22_b : Sg := ⟨[4], [.lf .bool], []⟩
def fx22_b : List Bool := []
noncomputable def f22_b (x : gi22_b.D) : Option go22_b.D :=
  (Option.bind (Go.Ev.Deflate.f50_b (x.1, Unit.unit)) (fun y1 => (some ((decide (y1.1 ≥ (0 : Int))), Unit.unit))))
theorem f22_b_eq (x : gi22_b.D) : f22_b x = evF P (T50.orc _) Go.Proofs.Try.f22.ntmps fx22_b c22 (planAt 64 []) gi22_b x (fnK fx22_b [go22_b]) := by kernel_rfl
theorem f22_b_ok : EntOk P 22 ⟨gi22_b, [go22_b], f22_b⟩ :=
  ent_ok (fn := Go.Proofs.Try.f22) (gi := gi22_b) (gos := [go22_b]) (f := f22_b) (c := c22) (fx := fx22_b) ⟨Go.Proofs.Try.func22, by kernel_rfl, rfl, by decide +kernel, rfl, rfl⟩ (by kernel_rfl) (Table.ok T50_ok _) hmix (planAt_ok (P := P) (n := Go.Proofs.Try.f22.ntmps) (fx := fx22_b) (c := c22) (d := 64) (l := []) trivial) f22_b_eq
noncomputable def T22 : Table := T50.add 22 [⟨gi22, [go22], f22⟩, ⟨gi22_b, [go22_b], f22_b⟩] []
theorem T22_ok : TableOk P T22 := Table.plus T50_ok (es := [⟨gi22, [go22], f22⟩, ⟨gi22_b, [go22_b], f22_b⟩]) ⟨f22_ok, f22_b_ok, trivial⟩ []

/-! ## 69: math/bits.Mul64 -/
noncomputable def c69 : Code := Func.code Go.Proofs.Try.f69
abbrev gi69 : Sg := ⟨[0, 1], [.lf (.int .u64), .lf (.int .u64)], []⟩
abbrev go69 : Sg := ⟨[4, 5], [.lf (.int .u64), .lf (.int .u64)], []⟩
def fx69 : List Bool := []
noncomputable def f69 (x : gi69.D) : Option go69.D :=
  (some ((Go.IntKind.wrap Go.IntKind.u64 ((Go.IntKind.wrap Go.IntKind.u64 ((Go.IntKind.wrap Go.IntKind.u64 ((Int.fdiv x.1 (4294967296 : Int)) * (Int.fdiv x.2.1 (4294967296 : Int)))) + (Int.fdiv (Go.IntKind.wrap Go.IntKind.u64 ((Go.IntKind.wrap Go.IntKind.u64 ((Int.fdiv x.1 (4294967296 : Int)) * (Go.IntKind.wrap Go.IntKind.u64 (((BitVec.toNat ((BitVec.ofInt (64 : Nat) x.2.1) &&& (BitVec.ofInt (64 : Nat) (4294967295 : Int)))) : Nat) : Int)))) + (Int.fdiv (Go.IntKind.wrap Go.IntKind.u64 ((Go.IntKind.wrap Go.IntKind.u64 (((BitVec.toNat ((BitVec.ofInt (64 : Nat) x.1) &&& (BitVec.ofInt (64 : Nat) (4294967295 : Int)))) : Nat) : Int)) * (Go.IntKind.wrap Go.IntKind.u64 (((BitVec.toNat ((BitVec.ofInt (64 : Nat) x.2.1) &&& (BitVec.ofInt (64 : Nat) (4294967295 : Int)))) : Nat) : Int)))) (4294967296 : Int)))) (4294967296 : Int)))) + (Int.fdiv (Go.IntKind.wrap Go.IntKind.u64 ((Go.IntKind.wrap Go.IntKind.u64 (((BitVec.toNat ((BitVec.ofInt (64 : Nat) (Go.IntKind.wrap Go.IntKind.u64 ((Go.IntKind.wrap Go.IntKind.u64 ((Int.fdiv x.1 (4294967296 : Int)) * (Go.IntKind.wrap Go.IntKind.u64 (((BitVec.toNat ((BitVec.ofInt (64 : Nat) x.2.1) &&& (BitVec.ofInt (64 : Nat) (4294967295 : Int)))) : Nat) : Int)))) + (Int.fdiv (Go.IntKind.wrap Go.IntKind.u64 ((Go.IntKind.wrap Go.IntKind.u64 (((BitVec.toNat ((BitVec.ofInt (64 : Nat) x.1) &&& (BitVec.ofInt (64 : Nat) (4294967295 : Int)))) : Nat) : Int)) * (Go.IntKind.wrap Go.IntKind.u64 (((BitVec.toNat ((BitVec.ofInt (64 : Nat) x.2.1) &&& (BitVec.ofInt (64 : Nat) (4294967295 : Int)))) : Nat) : Int)))) (4294967296 : Int))))) &&& (BitVec.ofInt (64 : Nat) (4294967295 : Int)))) : Nat) : Int)) + (Go.IntKind.wrap Go.IntKind.u64 ((Go.IntKind.wrap Go.IntKind.u64 (((BitVec.toNat ((BitVec.ofInt (64 : Nat) x.1) &&& (BitVec.ofInt (64 : Nat) (4294967295 : Int)))) : Nat) : Int)) * (Int.fdiv x.2.1 (4294967296 : Int)))))) (4294967296 : Int)))), ((Go.IntKind.wrap Go.IntKind.u64 (x.1 * x.2.1)), Unit.unit)))
theorem f69_eq (x : gi69.D) : f69 x = evF P (T22.orc _) Go.Proofs.Try.f69.ntmps fx69 c69 (planAt 64 []) gi69 x (fnK fx69 [go69]) := by kernel_rfl
theorem f69_ok : EntOk P 69 ⟨gi69, [go69], f69⟩ :=
  ent_ok (fn := Go.Proofs.Try.f69) (gi := gi69) (gos := [go69]) (f := f69) (c := c69) (fx := fx69) ⟨Go.Proofs.Try.func69, by kernel_rfl, rfl, by decide +kernel, rfl, rfl⟩ (by kernel_rfl) (Table.ok T22_ok _) hmix (planAt_ok (P := P) (n := Go.Proofs.Try.f69.ntmps) (fx := fx69) (c := c69) (d := 64) (l := []) trivial) f69_eq
noncomputable def T69 : Table := T22.add 69 [⟨gi69, [go69], f69⟩] []
theorem T69_ok : TableOk P T69 := Table.plus T22_ok (es := [⟨gi69, [go69], f69⟩]) ⟨f69_ok, trivial⟩ []

/-! ## 53: math/bits.Mul -/
noncomputable def c53 : Code := Func.code Go.Proofs.Try.f53
abbrev gi53 : Sg := ⟨[0, 1], [.lf (.int .u64), .lf (.int .u64)], []⟩
abbrev go53 : Sg := ⟨[4, 5], [.lf (.int .u64), .lf (.int .u64)], []⟩
def fx53 : List Bool := []
noncomputable def f53 (x : gi53.D) : Option go53.D :=
  (Option.bind (Go.Ev.Deflate.f69 (x.1, (x.2.1, Unit.unit))) (fun y1 => (some (y1.1, (y1.2.1, Unit.unit)))))
theorem f53_eq (x : gi53.D) : f53 x = evF P (T69.orc _) Go.Proofs.Try.f53.ntmps fx53 c53 (planAt 64 []) gi53 x (fnK fx53 [go53]) := by kernel_rfl
theorem f53_ok : EntOk P 53 ⟨gi53, [go53], f53⟩ :=
  ent_ok (fn := Go.Proofs.Try.f53) (gi := gi53) (gos := [go53]) (f := f53) (c := c53) (fx := fx53) ⟨Go.Proofs.Try.func53, by kernel_rfl, rfl, by decide +kernel, rfl, rfl⟩ (by kernel_rfl) (Table.ok T69_ok _) hmix (planAt_ok (P := P) (n := Go.Proofs.Try.f53.ntmps) (fx := fx53) (c := c53) (d := 64) (l := []) trivial) f53_eq
noncomputable def T53 : Table := T69.add 53 [⟨gi53, [go53], f53⟩] []
theorem T53_ok : TableOk P T53 := Table.plus T69_ok (es := [⟨gi53, [go53], f53⟩]) ⟨f53_ok, trivial⟩ []

/-! ## 27: slices.Repeat[[]int,int] -/
noncomputable def c27 : Code := Func.code Go.Proofs.Try.f27
abbrev gi27 : Sg := ⟨[0, 1], [.lf (.sl (.int .i64)), .lf (.int .i64)], []⟩
abbrev go27 : Sg := ⟨[4], [.lf (.gr (.int .i64) 0)], [some (.arr true (.int .i64))]⟩
def fx27 : List Bool := []
abbrev g27_1 : Sg := ⟨[7, 8], [.lf (.gr (.int .i64) 0), .lf (.int .i64)], [some (.arr true (.int .i64))]⟩
abbrev o27_1 : Outs := [(.exit 0, ⟨[7], [.lf (.gr (.int .i64) 0)], [some (.arr true (.int .i64))]⟩)]
noncomputable def b27_1 (x : g27_1.D) : Option (outD ((.normal, g27_1) :: o27_1)) :=
  (if ((decide (x.1 < (((List.length x.2.1) : Nat) : Int))) = true) then (if ((0 : Int) ≤ x.1) then (if (x.1 ≤ (((List.length x.2.1) : Nat) : Int)) then (if ((0 : Int) ≤ x.1) then (if (x.1 ≤ (((List.length x.2.1) : Nat) : Int)) then (if ((Min.min (List.length (List.take ((Int.toNat x.1) - (0 : Nat)) (List.drop (0 : Nat) x.2.1))) ((List.length x.2.1) - (Int.toNat x.1))) = (0 : Nat)) then (if ((List.length x.2.1) = (List.length x.2.1)) then (some (Sum.inl ((Go.IntKind.wrap Go.IntKind.i64 (x.1 + (0 : Int))), (x.2.1, Unit.unit))))
   else none)
   else (if ((List.length x.2.1) = (List.length ((List.take ((0 : Nat) + (Int.toNat x.1)) x.2.1) ++ ((List.take (Min.min (List.length (List.take ((Int.toNat x.1) - (0 : Nat)) (List.drop (0 : Nat) x.2.1))) ((List.length x.2.1) - (Int.toNat x.1))) (List.take ((Int.toNat x.1) - (0 : Nat)) (List.drop (0 : Nat) x.2.1))) ++ (List.drop (((0 : Nat) + (Int.toNat x.1)) + (Min.min (List.length (List.take ((Int.toNat x.1) - (0 : Nat)) (List.drop (0 : Nat) x.2.1))) ((List.length x.2.1) - (Int.toNat x.1)))) x.2.1))))) then (some (Sum.inl ((Go.IntKind.wrap Go.IntKind.i64 (x.1 + (((Min.min (List.length (List.take ((Int.toNat x.1) - (0 : Nat)) (List.drop (0 : Nat) x.2.1))) ((List.length x.2.1) - (Int.toNat x.1))) : Nat) : Int))), (((List.take ((0 : Nat) + (Int.toNat x.1)) x.2.1) ++ ((List.take (Min.min (List.length (List.take ((Int.toNat x.1) - (0 : Nat)) (List.drop (0 : Nat) x.2.1))) ((List.length x.2.1) - (Int.toNat x.1))) (List.take ((Int.toNat x.1) - (0 : Nat)) (List.drop (0 : Nat) x.2.1))) ++ (List.drop (((0 : Nat) + (Int.toNat x.1)) + (Min.min (List.length (List.take ((Int.toNat x.1) - (0 : Nat)) (List.drop (0 : Nat) x.2.1))) ((List.length x.2.1) - (Int.toNat x.1)))) x.2.1))), Unit.unit))))
   else none))
   else none)
   else none)
   else none)
   else none)
   else (if ((List.length x.2.1) = (List.length x.2.1)) then (some (Sum.inr (Sum.inl (x.2.1, Unit.unit))))
   else none))
theorem b27_1_eq (x : g27_1.D) : b27_1 x = evF P (T53.orc _) Go.Proofs.Try.f27.ntmps fx27 (Code.at [true, true, true, true, true, true, false, false, false] c27) (planAt 64 []) g27_1 x (injK fx27 ((.normal, g27_1) :: o27_1) some) := by kernel_rfl
noncomputable def l27_1 : g27_1.D → Option (outD o27_1) := loopN g27_1 o27_1 b27_1 18446744073709551616
theorem at27_1 : Code.at [true, true, true, true, true, true, false, false] c27 = .loop (Code.at [true, true, true, true, true, true, false, false, false] c27) := by kernel_rfl
theorem s27_1_ok : SubOk P Go.Proofs.Try.f27.ntmps fx27 (Code.at [true, true, true, true, true, true, false, false] c27) ⟨g27_1, o27_1, l27_1⟩ := by
  rw [at27_1]
  exact loop_ok (sub_ok (g := g27_1) (outs := ((.normal, g27_1) :: o27_1)) (f := b27_1) (Table.ok T53_ok _) hmix (planAt_ok (P := P) (n := Go.Proofs.Try.f27.ntmps) (fx := fx27) (c := (Code.at [true, true, true, true, true, true, false, false, false] c27)) (d := 64) (l := []) trivial) b27_1_eq) rfl _
noncomputable def f27 (x : gi27.D) : Option go27.D :=
  (if ((decide (x.2.1 < (0 : Int))) = true) then none
   else (Option.bind (Go.Ev.Deflate.f53 ((Go.IntKind.wrap Go.IntKind.u64 (((List.length x.1) : Nat) : Int)), ((Go.IntKind.wrap Go.IntKind.u64 x.2.1), Unit.unit))) (fun y1 => (if ((decide (y1.1 > (0 : Int))) = true) then none
   else (if ((decide (y1.2.1 > (9223372036854775807 : Int))) = true) then none
   else (if ((0 : Int) ≤ (Go.IntKind.wrap Go.IntKind.i64 y1.2.1)) then (if ((Go.IntKind.wrap Go.IntKind.i64 y1.2.1) ≤ (Go.IntKind.wrap Go.IntKind.i64 y1.2.1)) then (if ((Go.IntKind.wrap Go.IntKind.i64 y1.2.1) ≤ (35184372088832 : Int)) then (if ((Min.min (List.length x.1) (Int.toNat (Go.IntKind.wrap Go.IntKind.i64 y1.2.1))) = (0 : Nat)) then (if ((Int.toNat (Go.IntKind.wrap Go.IntKind.i64 y1.2.1)) = (List.length (List.replicate (Int.toNat (Go.IntKind.wrap Go.IntKind.i64 y1.2.1)) (0 : Int)))) then (Option.bind (Go.Ev.Deflate.l27_1 ((0 : Int), ((List.replicate (Int.toNat (Go.IntKind.wrap Go.IntKind.i64 y1.2.1)) (0 : Int)), Unit.unit))) (Sum.elim (fun y2 => (if ((List.length y2.1) = (List.length y2.1)) then (some (y2.1, Unit.unit))
   else none)) Empty.elim))
   else none)
   else (if ((Int.toNat (Go.IntKind.wrap Go.IntKind.i64 y1.2.1)) = (List.length ((List.take (0 : Nat) (List.replicate (Int.toNat (Go.IntKind.wrap Go.IntKind.i64 y1.2.1)) (0 : Int))) ++ ((List.take (Min.min (List.length x.1) (Int.toNat (Go.IntKind.wrap Go.IntKind.i64 y1.2.1))) x.1) ++ (List.drop ((0 : Nat) + (Min.min (List.length x.1) (Int.toNat (Go.IntKind.wrap Go.IntKind.i64 y1.2.1)))) (List.replicate (Int.toNat (Go.IntKind.wrap Go.IntKind.i64 y1.2.1)) (0 : Int))))))) then (Option.bind (Go.Ev.Deflate.l27_1 ((((Min.min (List.length x.1) (Int.toNat (Go.IntKind.wrap Go.IntKind.i64 y1.2.1))) : Nat) : Int), (((List.take (0 : Nat) (List.replicate (Int.toNat (Go.IntKind.wrap Go.IntKind.i64 y1.2.1)) (0 : Int))) ++ ((List.take (Min.min (List.length x.1) (Int.toNat (Go.IntKind.wrap Go.IntKind.i64 y1.2.1))) x.1) ++ (List.drop ((0 : Nat) + (Min.min (List.length x.1) (Int.toNat (Go.IntKind.wrap Go.IntKind.i64 y1.2.1)))) (List.replicate (Int.toNat (Go.IntKind.wrap Go.IntKind.i64 y1.2.1)) (0 : Int))))), Unit.unit))) (Sum.elim (fun y2 => (if ((List.length y2.1) = (List.length y2.1)) then (some (y2.1, Unit.unit))
   else none)) Empty.elim))
   else none))
   else none)
   else none)
   else none))))))
theorem f27_eq (x : gi27.D) : f27 x = evF P (T53.orc _) Go.Proofs.Try.f27.ntmps fx27 c27 (planAt 64 [([true, true, true, true, true, true, false, false], ⟨g27_1, o27_1, l27_1⟩)]) gi27 x (fnK fx27 [go27]) := by kernel_rfl
theorem pf27 : AllSub P Go.Proofs.Try.f27.ntmps fx27 c27 [([true, true, true, true, true, true, false, false], ⟨g27_1, o27_1, l27_1⟩)] := And.intro s27_1_ok (trivial)
theorem qf27 : PlanOk P Go.Proofs.Try.f27.ntmps fx27 (planAt 64 [([true, true, true, true, true, true, false, false], ⟨g27_1, o27_1, l27_1⟩)]) c27 := planAt_ok pf27
theorem f27_ok : EntOk P 27 ⟨gi27, [go27], f27⟩ :=
  ent_ok (fn := Go.Proofs.Try.f27) (gi := gi27) (gos := [go27]) (f := f27) (c := c27) (fx := fx27) ⟨Go.Proofs.Try.func27, by kernel_rfl, rfl, by decide +kernel, rfl, rfl⟩ (by kernel_rfl) (Table.ok T53_ok _) hmix (qf27) f27_eq
noncomputable def T27 : Table := T53.add 27 [⟨gi27, [go27], f27⟩] []
theorem T27_ok : TableOk P T27 := Table.plus T53_ok (es := [⟨gi27, [go27], f27⟩]) ⟨f27_ok, trivial⟩ []

/-! ## 26: erasure/huff.Fixed -/
noncomputable def c26 : Code := Func.code Go.Proofs.Try.f26
abbrev gi26 : Sg := ⟨[], [], []⟩
abbrev go26 : Sg := ⟨[0], [.lf (.gr (.int .i64) 0)], [some (.arr true (.int .i64))]⟩
def fx26 : List Bool := []
abbrev g26_1 : Sg := ⟨[1, 2], [.lf (.gr (.int .i64) 0), .lf (.int .i64)], [some (.arr true (.int .i64))]⟩
abbrev o26_1 : Outs := [(.exit 0, ⟨[1], [.lf (.gr (.int .i64) 0)], [some (.arr true (.int .i64))]⟩)]
noncomputable def b26_1 (x : g26_1.D) : Option (outD ((.normal, g26_1) :: o26_1)) :=
  (if ((decide (x.1 < (280 : Int))) = true) then (if ((0 : Int) ≤ x.1) then (if (x.1 < (((List.length x.2.1) : Nat) : Int)) then (if ((decide (x.1 > (255 : Int))) = true) then (if ((0 : Int) ≤ x.1) then (if (x.1 < (((List.length x.2.1) : Nat) : Int)) then (if ((List.length x.2.1) = (List.length (List.set (List.set x.2.1 ((0 : Nat) + (Int.toNat x.1)) (9 : Int)) ((0 : Nat) + (Int.toNat x.1)) (7 : Int)))) then (some (Sum.inl ((Go.IntKind.wrap Go.IntKind.i64 (x.1 + (1 : Int))), ((List.set (List.set x.2.1 ((0 : Nat) + (Int.toNat x.1)) (9 : Int)) ((0 : Nat) + (Int.toNat x.1)) (7 : Int)), Unit.unit))))
   else none)
   else none)
   else none)
   else (if ((List.length x.2.1) = (List.length (List.set x.2.1 ((0 : Nat) + (Int.toNat x.1)) (9 : Int)))) then (some (Sum.inl ((Go.IntKind.wrap Go.IntKind.i64 (x.1 + (1 : Int))), ((List.set x.2.1 ((0 : Nat) + (Int.toNat x.1)) (9 : Int)), Unit.unit))))
   else none))
   else none)
   else none)
   else (if ((List.length x.2.1) = (List.length x.2.1)) then (some (Sum.inr (Sum.inl (x.2.1, Unit.unit))))
   else none))
theorem b26_1_eq (x : g26_1.D) : b26_1 x = evF P (T27.orc _) Go.Proofs.Try.f26.ntmps fx26 (Code.at [true, true, false, true, false, false] c26) (planAt 64 []) g26_1 x (injK fx26 ((.normal, g26_1) :: o26_1) some) := by kernel_rfl
noncomputable def l26_1 : g26_1.D → Option (outD o26_1) := loopN g26_1 o26_1 b26_1 18446744073709551616
theorem at26_1 : Code.at [true, true, false, true, false] c26 = .loop (Code.at [true, true, false, true, false, false] c26) := by kernel_rfl
theorem s26_1_ok : SubOk P Go.Proofs.Try.f26.ntmps fx26 (Code.at [true, true, false, true, false] c26) ⟨g26_1, o26_1, l26_1⟩ := by
  rw [at26_1]
  exact loop_ok (sub_ok (g := g26_1) (outs := ((.normal, g26_1) :: o26_1)) (f := b26_1) (Table.ok T27_ok _) hmix (planAt_ok (P := P) (n := Go.Proofs.Try.f26.ntmps) (fx := fx26) (c := (Code.at [true, true, false, true, false, false] c26)) (d := 64) (l := []) trivial) b26_1_eq) rfl _
noncomputable def f26 (_ : gi26.D) : Option go26.D :=
  (Option.bind (Go.Ev.Deflate.f27 ((List.take (1 : Nat) (List.drop (0 : Nat) (List.set (List.replicate (1 : Nat) (0 : Int)) (0 : Nat) (8 : Int)))), ((288 : Int), Unit.unit))) (fun y1 => (if ((List.length y1.1) = (List.length y1.1)) then (Option.bind (Go.Ev.Deflate.l26_1 ((144 : Int), (y1.1, Unit.unit))) (Sum.elim (fun y2 => (if ((List.length y2.1) = (List.length y2.1)) then (some (y2.1, Unit.unit))
   else none)) Empty.elim))
   else none)))
theorem f26_eq (x : gi26.D) : f26 x = evF P (T27.orc _) Go.Proofs.Try.f26.ntmps fx26 c26 (planAt 64 [([true, true, false, true, false], ⟨g26_1, o26_1, l26_1⟩)]) gi26 x (fnK fx26 [go26]) := by kernel_rfl
theorem pf26 : AllSub P Go.Proofs.Try.f26.ntmps fx26 c26 [([true, true, false, true, false], ⟨g26_1, o26_1, l26_1⟩)] := And.intro s26_1_ok (trivial)
theorem qf26 : PlanOk P Go.Proofs.Try.f26.ntmps fx26 (planAt 64 [([true, true, false, true, false], ⟨g26_1, o26_1, l26_1⟩)]) c26 := planAt_ok pf26
theorem f26_ok : EntOk P 26 ⟨gi26, [go26], f26⟩ :=
  ent_ok (fn := Go.Proofs.Try.f26) (gi := gi26) (gos := [go26]) (f := f26) (c := c26) (fx := fx26) ⟨Go.Proofs.Try.func26, by kernel_rfl, rfl, by decide +kernel, rfl, rfl⟩ (by kernel_rfl) (Table.ok T27_ok _) hmix (qf26) f26_eq
noncomputable def T26 : Table := T27.add 26 [⟨gi26, [go26], f26⟩] []
theorem T26_ok : TableOk P T26 := Table.plus T27_ok (es := [⟨gi26, [go26], f26⟩]) ⟨f26_ok, trivial⟩ []

/-! ## 67: erasure/huff.count -/
noncomputable def c67 : Code := Func.code Go.Proofs.Try.f67
abbrev gi67 : Sg := ⟨[0], [.lf (.sl (.int .i64))], []⟩
abbrev go67 : Sg := ⟨[0, 3], [.agg [.many (.int .i64) 16], .lf (.int .i64)], []⟩
def fx67 : List Bool := []
abbrev g67_1 : Sg := ⟨[2, 4, 5, 12, 13, 14], [.lf (.ptr 0 0), .lf (.ptr 1 0), .lf (.int .i64), .lf (.sl (.int .i64)), .lf (.int .i64), .lf (.int .i64)], [some (.box true [.many (.int .i64) 16]), some (.box true [.many (.int .i64) 16])]⟩
abbrev o67_1 : Outs := [(.exit 0, ⟨[2, 4, 5], [.lf (.ptr 0 0), .lf (.ptr 1 0), .lf (.int .i64)], [some (.box true [.many (.int .i64) 16]), some (.box true [.many (.int .i64) 16])]⟩), (.ret, ⟨[2, 3], [.lf (.ptr 0 0), .lf (.int .i64)], [some (.box true [.many (.int .i64) 16])]⟩)]
noncomputable def b67_1 (x : g67_1.D) : Option (outD ((.normal, g67_1) :: o67_1)) :=
  (if ((decide (x.2.2.2.1 < x.2.2.1)) = true) then (if ((0 : Int) ≤ x.2.2.2.1) then (if (x.2.2.2.1 < (((List.length x.2.1) : Nat) : Int)) then (if ((decide ((List.getD x.2.1 (Int.toNat x.2.2.2.1) (0 : Int)) < (0 : Int))) = true) then (some (Sum.inr (Sum.inr (Sum.inl ((1 : Int), (x.2.2.2.2.2.1, Unit.unit))))))
   else (if ((decide ((List.getD x.2.1 (Int.toNat x.2.2.2.1) (0 : Int)) > (15 : Int))) = true) then (some (Sum.inr (Sum.inr (Sum.inl ((1 : Int), (x.2.2.2.2.2.1, Unit.unit))))))
   else (if ((decide ((List.getD x.2.1 (Int.toNat x.2.2.2.1) (0 : Int)) > (0 : Int))) = true) then (if ((0 : Int) ≤ (List.getD x.2.1 (Int.toNat x.2.2.2.1) (0 : Int))) then (if ((List.getD x.2.1 (Int.toNat x.2.2.2.1) (0 : Int)) < (16 : Int)) then (if ((0 : Int) ≤ (List.getD x.2.1 (Int.toNat x.2.2.2.1) (0 : Int))) then (if ((List.getD x.2.1 (Int.toNat x.2.2.2.1) (0 : Int)) < (16 : Int)) then (if ((List.getD x.2.1 (Int.toNat x.2.2.2.1) (0 : Int)) < (0 : Int)) then none
   else (some (Sum.inl ((Go.IntKind.wrap Go.IntKind.i64 (x.1 + (Int.fdiv (32768 : Int) ((2 : Int) ^ (Min.min (Int.toNat (List.getD x.2.1 (Int.toNat x.2.2.2.1) (0 : Int))) (64 : Nat)))))), (x.2.1, (x.2.2.1, ((Go.IntKind.wrap Go.IntKind.i64 (x.2.2.2.1 + (1 : Int))), (x.2.2.2.2.1, ((List.set x.2.2.2.2.2.1 (Int.toNat (List.getD x.2.1 (Int.toNat x.2.2.2.1) (0 : Int))) (Go.IntKind.wrap Go.IntKind.i64 ((List.getD x.2.2.2.2.2.1 (Int.toNat (List.getD x.2.1 (Int.toNat x.2.2.2.1) (0 : Int))) (0 : Int)) + (1 : Int)))), Unit.unit)))))))))
   else none)
   else none)
   else none)
   else none)
   else (some (Sum.inl (x.1, (x.2.1, (x.2.2.1, ((Go.IntKind.wrap Go.IntKind.i64 (x.2.2.2.1 + (1 : Int))), (x.2.2.2.2.1, (x.2.2.2.2.2.1, Unit.unit)))))))))))
   else none)
   else none)
   else (some (Sum.inr (Sum.inl (x.1, (x.2.2.2.2.1, (x.2.2.2.2.2.1, Unit.unit)))))))
theorem b67_1_eq (x : g67_1.D) : b67_1 x = evF P (T26.orc _) Go.Proofs.Try.f67.ntmps fx67 (Code.at [true, true, true, true, false, true, false, false] c67) (planAt 64 []) g67_1 x (injK fx67 ((.normal, g67_1) :: o67_1) some) := by kernel_rfl
noncomputable def l67_1 : g67_1.D → Option (outD o67_1) := loopN g67_1 o67_1 b67_1 18446744073709551616
theorem at67_1 : Code.at [true, true, true, true, false, true, false] c67 = .loop (Code.at [true, true, true, true, false, true, false, false] c67) := by kernel_rfl
theorem s67_1_ok : SubOk P Go.Proofs.Try.f67.ntmps fx67 (Code.at [true, true, true, true, false, true, false] c67) ⟨g67_1, o67_1, l67_1⟩ := by
  rw [at67_1]
  exact loop_ok (sub_ok (g := g67_1) (outs := ((.normal, g67_1) :: o67_1)) (f := b67_1) (Table.ok T26_ok _) hmix (planAt_ok (P := P) (n := Go.Proofs.Try.f67.ntmps) (fx := fx67) (c := (Code.at [true, true, true, true, false, true, false, false] c67)) (d := 64) (l := []) trivial) b67_1_eq) rfl _
noncomputable def f67 (x : gi67.D) : Option go67.D :=
  (if ((decide ((((List.length x.1) : Nat) : Int) > (320 : Int))) = true) then (some ((List.replicate (16 : Nat) (0 : Int)), ((1 : Int), Unit.unit)))
   else (Option.bind (Go.Ev.Deflate.l67_1 ((0 : Int), (x.1, ((((List.length x.1) : Nat) : Int), ((0 : Int), ((List.replicate (16 : Nat) (0 : Int)), ((List.replicate (16 : Nat) (0 : Int)), Unit.unit))))))) (Sum.elim (fun y1 => (if ((decide (y1.1 > (32768 : Int))) = true) then (some (y1.2.2.1, ((4 : Int), Unit.unit)))
   else (some (y1.2.2.1, ((0 : Int), Unit.unit))))) (Sum.elim (fun y1 => (some (y1.2.1, (y1.1, Unit.unit)))) Empty.elim))))
theorem f67_eq (x : gi67.D) : f67 x = evF P (T26.orc _) Go.Proofs.Try.f67.ntmps fx67 c67 (planAt 64 [([true, true, true, true, false, true, false], ⟨g67_1, o67_1, l67_1⟩)]) gi67 x (fnKR P Go.Proofs.Try.f67 fx67 [go67]) := by kernel_rfl
theorem pf67 : AllSub P Go.Proofs.Try.f67.ntmps fx67 c67 [([true, true, true, true, false, true, false], ⟨g67_1, o67_1, l67_1⟩)] := And.intro s67_1_ok (trivial)
theorem qf67 : PlanOk P Go.Proofs.Try.f67.ntmps fx67 (planAt 64 [([true, true, true, true, false, true, false], ⟨g67_1, o67_1, l67_1⟩)]) c67 := planAt_ok pf67
theorem f67_ok : EntOk P 67 ⟨gi67, [go67], f67⟩ :=
  ent_okR (fn := Go.Proofs.Try.f67) (gi := gi67) (gos := [go67]) (f := f67) (c := c67) (fx := fx67) ⟨Go.Proofs.Try.func67, by kernel_rfl, rfl, by decide +kernel, rfl, rfl⟩ (Table.ok T26_ok _) hmix (qf67) f67_eq
noncomputable def T67 : Table := T26.add 67 [⟨gi67, [go67], f67⟩] []
theorem T67_ok : TableOk P T67 := Table.plus T26_ok (es := [⟨gi67, [go67], f67⟩]) ⟨f67_ok, trivial⟩ []

/-! ## 51: erasure/huff.Codes -/
noncomputable def c51 : Code := Func.code Go.Proofs.Try.f51
abbrev gi51 : Sg := ⟨[0], [.lf (.sl (.int .i64))], []⟩
abbrev go51 : Sg := ⟨[2, 3], [.lf (.gr (.int .i64) 0), .lf (.int .i64)], [some (.arr true (.int .i64))]⟩
def fx51 : List Bool := []
abbrev g51_2 : Sg := ⟨[6, 8, 37, 38, 39], [.lf (.ptr 0 0), .lf (.gr (.int .i64) 1), .lf (.sl (.int .i64)), .lf (.int .i64), .lf (.int .i64)], [some (.box true [.many (.int .i64) 16]), some (.arr true (.int .i64))]⟩
abbrev o51_2 : Outs := [(.exit 2, ⟨[8], [.lf (.gr (.int .i64) 0)], [some (.arr true (.int .i64))]⟩)]
noncomputable def b51_2 (x : g51_2.D) : Option (outD ((.normal, g51_2) :: o51_2)) :=
  (if ((decide (x.2.2.1 < x.2.1)) = true) then (if ((0 : Int) ≤ x.2.2.1) then (if (x.2.2.1 < (((List.length x.1) : Nat) : Int)) then (if ((decide ((List.getD x.1 (Int.toNat x.2.2.1) (0 : Int)) > (0 : Int))) = true) then (if ((0 : Int) ≤ (List.getD x.1 (Int.toNat x.2.2.1) (0 : Int))) then (if ((List.getD x.1 (Int.toNat x.2.2.1) (0 : Int)) < (16 : Int)) then (if ((0 : Int) ≤ x.2.2.1) then (if (x.2.2.1 < (((List.length x.2.2.2.2.1) : Nat) : Int)) then (if ((0 : Int) ≤ (List.getD x.1 (Int.toNat x.2.2.1) (0 : Int))) then (if ((List.getD x.1 (Int.toNat x.2.2.1) (0 : Int)) < (16 : Int)) then (if ((0 : Int) ≤ (List.getD x.1 (Int.toNat x.2.2.1) (0 : Int))) then (if ((List.getD x.1 (Int.toNat x.2.2.1) (0 : Int)) < (16 : Int)) then (if ((List.length x.2.2.2.2.1) = (List.length (List.set x.2.2.2.2.1 ((0 : Nat) + (Int.toNat x.2.2.1)) (List.getD x.2.2.2.1 (Int.toNat (List.getD x.1 (Int.toNat x.2.2.1) (0 : Int))) (0 : Int))))) then (some (Sum.inl (x.1, (x.2.1, ((Go.IntKind.wrap Go.IntKind.i64 (x.2.2.1 + (1 : Int))), ((List.set x.2.2.2.1 (Int.toNat (List.getD x.1 (Int.toNat x.2.2.1) (0 : Int))) (Go.IntKind.wrap Go.IntKind.i64 ((List.getD x.2.2.2.1 (Int.toNat (List.getD x.1 (Int.toNat x.2.2.1) (0 : Int))) (0 : Int)) + (1 : Int)))), ((List.set x.2.2.2.2.1 ((0 : Nat) + (Int.toNat x.2.2.1)) (List.getD x.2.2.2.1 (Int.toNat (List.getD x.1 (Int.toNat x.2.2.1) (0 : Int))) (0 : Int))), Unit.unit)))))))
   else none)
   else none)
   else none)
   else none)
   else none)
   else none)
   else none)
   else none)
   else none)
   else (if ((List.length x.2.2.2.2.1) = (List.length x.2.2.2.2.1)) then (some (Sum.inl (x.1, (x.2.1, ((Go.IntKind.wrap Go.IntKind.i64 (x.2.2.1 + (1 : Int))), (x.2.2.2.1, (x.2.2.2.2.1, Unit.unit)))))))
   else none))
   else none)
   else none)
   else (if ((List.length x.2.2.2.2.1) = (List.length x.2.2.2.2.1)) then (some (Sum.inr (Sum.inl (x.2.2.2.2.1, Unit.unit))))
   else none))
theorem b51_2_eq (x : g51_2.D) : b51_2 x = evF P (T67.orc _) Go.Proofs.Try.f51.ntmps fx51 (Code.at [true, true, true, true, true, true, false, true, false, false] c51) (planAt 64 []) g51_2 x (injK fx51 ((.normal, g51_2) :: o51_2) some) := by kernel_rfl
noncomputable def l51_2 : g51_2.D → Option (outD o51_2) := loopN g51_2 o51_2 b51_2 18446744073709551616
theorem at51_2 : Code.at [true, true, true, true, true, true, false, true, false] c51 = .loop (Code.at [true, true, true, true, true, true, false, true, false, false] c51) := by kernel_rfl
theorem s51_2_ok : SubOk P Go.Proofs.Try.f51.ntmps fx51 (Code.at [true, true, true, true, true, true, false, true, false] c51) ⟨g51_2, o51_2, l51_2⟩ := by
  rw [at51_2]
  exact loop_ok (sub_ok (g := g51_2) (outs := ((.normal, g51_2) :: o51_2)) (f := b51_2) (Table.ok T67_ok _) hmix (planAt_ok (P := P) (n := Go.Proofs.Try.f51.ntmps) (fx := fx51) (c := (Code.at [true, true, true, true, true, true, false, true, false, false] c51)) (d := 64) (l := []) trivial) b51_2_eq) rfl _
abbrev g51_1 : Sg := ⟨[0, 4, 6, 7], [.lf (.sl (.int .i64)), .lf (.ptr 0 0), .lf (.ptr 1 0), .lf (.int .i64)], [some (.box true [.many (.int .i64) 16]), some (.box true [.many (.int .i64) 16])]⟩
abbrev o51_1 : Outs := [(.exit 0, ⟨[0, 6], [.lf (.sl (.int .i64)), .lf (.ptr 0 0)], [some (.box true [.many (.int .i64) 16])]⟩)]
noncomputable def b51_1 (x : g51_1.D) : Option (outD ((.normal, g51_1) :: o51_1)) :=
  (if ((decide (x.2.1 < (15 : Int))) = true) then (if ((0 : Int) ≤ x.2.1) then (if (x.2.1 < (16 : Int)) then (if ((0 : Int) ≤ x.2.1) then (if (x.2.1 < (16 : Int)) then (if ((0 : Int) ≤ (Go.IntKind.wrap Go.IntKind.i64 (x.2.1 + (1 : Int)))) then (if ((Go.IntKind.wrap Go.IntKind.i64 (x.2.1 + (1 : Int))) < (16 : Int)) then (some (Sum.inl (x.1, ((Go.IntKind.wrap Go.IntKind.i64 (x.2.1 + (1 : Int))), (x.2.2.1, ((List.set x.2.2.2.1 (Int.toNat (Go.IntKind.wrap Go.IntKind.i64 (x.2.1 + (1 : Int)))) (Go.IntKind.wrap Go.IntKind.i64 ((Go.IntKind.wrap Go.IntKind.i64 ((List.getD x.2.2.2.1 (Int.toNat x.2.1) (0 : Int)) + (List.getD x.2.2.1 (Int.toNat x.2.1) (0 : Int)))) * (2 : Int)))), Unit.unit))))))
   else none)
   else none)
   else none)
   else none)
   else none)
   else none)
   else (some (Sum.inr (Sum.inl (x.1, (x.2.2.2.1, Unit.unit))))))
theorem b51_1_eq (x : g51_1.D) : b51_1 x = evF P (T67.orc _) Go.Proofs.Try.f51.ntmps fx51 (Code.at [true, true, true, true, false, true, false, false] c51) (planAt 64 []) g51_1 x (injK fx51 ((.normal, g51_1) :: o51_1) some) := by kernel_rfl
noncomputable def l51_1 : g51_1.D → Option (outD o51_1) := loopN g51_1 o51_1 b51_1 18446744073709551616
theorem at51_1 : Code.at [true, true, true, true, false, true, false] c51 = .loop (Code.at [true, true, true, true, false, true, false, false] c51) := by kernel_rfl
theorem s51_1_ok : SubOk P Go.Proofs.Try.f51.ntmps fx51 (Code.at [true, true, true, true, false, true, false] c51) ⟨g51_1, o51_1, l51_1⟩ := by
  rw [at51_1]
  exact loop_ok (sub_ok (g := g51_1) (outs := ((.normal, g51_1) :: o51_1)) (f := b51_1) (Table.ok T67_ok _) hmix (planAt_ok (P := P) (n := Go.Proofs.Try.f51.ntmps) (fx := fx51) (c := (Code.at [true, true, true, true, false, true, false, false] c51)) (d := 64) (l := []) trivial) b51_1_eq) rfl _
noncomputable def f51 (x : gi51.D) : Option go51.D :=
  (Option.bind (Go.Ev.Deflate.f67 (x.1, Unit.unit)) (fun y1 => (if ((y1.2.1 != (0 : Int)) = true) then (some (y1.2.1, ([], Unit.unit)))
   else (Option.bind (Go.Ev.Deflate.l51_1 (x.1, ((1 : Int), (y1.1, ((List.replicate (16 : Nat) (0 : Int)), Unit.unit))))) (Sum.elim (fun y2 => (if ((((List.length y2.1) : Nat) : Int) ≤ (((List.length y2.1) : Nat) : Int)) then (if ((((List.length y2.1) : Nat) : Int) ≤ (35184372088832 : Int)) then (if ((Int.toNat (((List.length y2.1) : Nat) : Int)) = (List.length (List.replicate (Int.toNat (((List.length y2.1) : Nat) : Int)) (0 : Int)))) then (Option.bind (Go.Ev.Deflate.l51_2 (y2.1, ((((List.length y2.1) : Nat) : Int), ((0 : Int), (y2.2.1, ((List.replicate (Int.toNat (((List.length y2.1) : Nat) : Int)) (0 : Int)), Unit.unit)))))) (Sum.elim (fun y3 => (if ((List.length y3.1) = (List.length y3.1)) then (some ((0 : Int), (y3.1, Unit.unit)))
   else none)) Empty.elim))
   else none)
   else none)
   else none)) Empty.elim)))))
theorem f51_eq (x : gi51.D) : f51 x = evF P (T67.orc _) Go.Proofs.Try.f51.ntmps fx51 c51 (planAt 64 [([true, true, true, true, false, true, false], ⟨g51_1, o51_1, l51_1⟩), ([true, true, true, true, true, true, false, true, false], ⟨g51_2, o51_2, l51_2⟩)]) gi51 x (fnK fx51 [go51]) := by kernel_rfl
theorem pf51 : AllSub P Go.Proofs.Try.f51.ntmps fx51 c51 [([true, true, true, true, false, true, false], ⟨g51_1, o51_1, l51_1⟩), ([true, true, true, true, true, true, false, true, false], ⟨g51_2, o51_2, l51_2⟩)] := And.intro s51_1_ok (And.intro s51_2_ok (trivial))
theorem qf51 : PlanOk P Go.Proofs.Try.f51.ntmps fx51 (planAt 64 [([true, true, true, true, false, true, false], ⟨g51_1, o51_1, l51_1⟩), ([true, true, true, true, true, true, false, true, false], ⟨g51_2, o51_2, l51_2⟩)]) c51 := planAt_ok pf51
theorem f51_ok : EntOk P 51 ⟨gi51, [go51], f51⟩ :=
  ent_ok (fn := Go.Proofs.Try.f51) (gi := gi51) (gos := [go51]) (f := f51) (c := c51) (fx := fx51) ⟨Go.Proofs.Try.func51, by kernel_rfl, rfl, by decide +kernel, rfl, rfl⟩ (by kernel_rfl) (Table.ok T67_ok _) hmix (qf51) f51_eq
noncomputable def T51 : Table := T67.add 51 [⟨gi51, [go51], f51⟩] []
theorem T51_ok : TableOk P T51 := Table.plus T67_ok (es := [⟨gi51, [go51], f51⟩]) ⟨f51_ok, trivial⟩ []

/-! ## 52: slices.Clone[[]int,int] -/
noncomputable def c52 : Code := Func.code Go.Proofs.Try.f52
abbrev gi52 : Sg := ⟨[0], [.lf (.sl (.int .i64))], []⟩
abbrev go52 : Sg := ⟨[2], [.lf (.gr (.int .i64) 0)], [some (.arr true (.int .i64))]⟩
def fx52 : List Bool := []
noncomputable def f52 (x : gi52.D) : Option go52.D :=
  (if ((List.length x.1) = (0 : Nat)) then (Go.Ev.amb (Go.Ev.Orc.eq (Go.Ev.Table.orcE Go.Ev.Deflate.T51 (Go.Ev.Sg.D Go.Ev.Deflate.go52) (Go.Ev.Sg.eq Go.Ev.Deflate.go52) (Go.Ev.Sg.eq_eq Go.Ev.Deflate.go52))) (some ([], Unit.unit)) (if (((0 : Nat) + (List.length x.1)) ≤ (17592186044416 : Nat)) then (if ((List.length ((List.take (0 : Nat) (List.drop (0 : Nat) (List.replicate (0 : Nat) (0 : Int)))) ++ x.1)) = (List.length ((List.take (0 : Nat) (List.drop (0 : Nat) (List.replicate (0 : Nat) (0 : Int)))) ++ x.1))) then (some (((List.take (0 : Nat) (List.drop (0 : Nat) (List.replicate (0 : Nat) (0 : Int)))) ++ x.1), Unit.unit))
   else none)
   else none))
   else (if (((0 : Nat) + (List.length x.1)) ≤ (17592186044416 : Nat)) then (if ((List.length ((List.take (0 : Nat) (List.drop (0 : Nat) (List.replicate (0 : Nat) (0 : Int)))) ++ x.1)) = (List.length ((List.take (0 : Nat) (List.drop (0 : Nat) (List.replicate (0 : Nat) (0 : Int)))) ++ x.1))) then (some (((List.take (0 : Nat) (List.drop (0 : Nat) (List.replicate (0 : Nat) (0 : Int)))) ++ x.1), Unit.unit))
   else none)
   else none))
theorem f52_eq (x : gi52.D) : f52 x = evF P (T51.orcE go52.D go52.eq go52.eq_eq) Go.Proofs.Try.f52.ntmps fx52 c52 (planAt 64 []) gi52 x (fnK fx52 [go52]) := by kernel_rfl
theorem f52_ok : EntOk P 52 ⟨gi52, [go52], f52⟩ :=
  ent_ok (fn := Go.Proofs.Try.f52) (gi := gi52) (gos := [go52]) (f := f52) (c := c52) (fx := fx52) ⟨Go.Proofs.Try.func52, by kernel_rfl, rfl, by decide +kernel, rfl, rfl⟩ (by kernel_rfl) (Table.okE T51_ok _ _ _) hmix (planAt_ok (P := P) (n := Go.Proofs.Try.f52.ntmps) (fx := fx52) (c := c52) (d := 64) (l := []) trivial) f52_eq
noncomputable def T52 : Table := T51.add 52 [⟨gi52, [go52], f52⟩] []
theorem T52_ok : TableOk P T52 := Table.plus T51_ok (es := [⟨gi52, [go52], f52⟩]) ⟨f52_ok, trivial⟩ []

/-! ## 25: erasure/huff.Make -/
noncomputable def c25 : Code := Func.code Go.Proofs.Try.f25
abbrev gi25 : Sg := ⟨[0], [.lf (.sl (.int .i64))], []⟩
abbrev go25 : List Sg := [⟨[2, 3], [.lf .nilp, .lf (.int .i64)], []⟩, ⟨[2, 3], [.lf (.ptr 0 0), .lf (.int .i64)], [some (.box true [.many (.int .i64) 16, .lf (.sl (.int .i64)), .lf (.sl (.int .i64)), .lf (.gr (.int .i64) 1)]), some (.arr true (.int .i64))]⟩]
def fx25 : List Bool := []
abbrev g25_2 : Sg := ⟨[0, 6, 7, 8, 24, 27, 28, 29], [.lf (.sl (.int .i64)), .lf (.ptr 0 0), .lf (.int .i64), .lf (.int .i64), .lf (.int .i64), .lf (.sl (.int .i64)), .lf (.int .i64), .lf (.int .i64)], [some (.box true [.many (.int .i64) 16, .lf (.sl (.int .i64)), .lf (.sl (.int .i64)), .lf (.gr (.int .i64) 1)]), some (.arr true (.int .i64))]⟩
abbrev o25_2 : Outs := [(.exit 2, ⟨[0, 6, 7, 24], [.lf (.sl (.int .i64)), .lf (.ptr 0 0), .lf (.int .i64), .lf (.int .i64)], [some (.box true [.many (.int .i64) 16, .lf (.sl (.int .i64)), .lf (.sl (.int .i64)), .lf (.gr (.int .i64) 1)]), some (.arr true (.int .i64))]⟩)]
noncomputable def b25_2 (x : g25_2.D) : Option (outD ((.normal, g25_2) :: o25_2)) :=
  (if ((decide (x.2.2.2.2.2.2.1 < x.2.2.2.2.2.1)) = true) then (if ((0 : Int) ≤ x.2.2.2.2.2.2.1) then (if (x.2.2.2.2.2.2.1 < (((List.length x.2.2.2.2.1) : Nat) : Int)) then (if (((List.getD x.2.2.2.2.1 (Int.toNat x.2.2.2.2.2.2.1) (0 : Int)) == (Go.IntKind.wrap Go.IntKind.i64 (x.2.2.1 + (1 : Int)))) = true) then (if (((List.length (List.take (List.length x.2.2.2.2.2.2.2.2.2.2.1) (List.drop (0 : Nat) x.2.2.2.2.2.2.2.2.2.2.1))) + (List.length (List.take (1 : Nat) (List.drop (0 : Nat) (List.set (List.replicate (1 : Nat) (0 : Int)) (0 : Nat) x.2.2.2.2.2.2.1))))) ≤ (17592186044416 : Nat)) then (if ((0 : Int) ≤ (List.getD x.2.2.2.2.1 (Int.toNat x.2.2.2.2.2.2.1) (0 : Int))) then (if ((List.getD x.2.2.2.2.1 (Int.toNat x.2.2.2.2.2.2.1) (0 : Int)) < (16 : Int)) then (if ((0 : Int) ≤ (List.getD x.2.2.2.2.1 (Int.toNat x.2.2.2.2.2.2.1) (0 : Int))) then (if ((List.getD x.2.2.2.2.1 (Int.toNat x.2.2.2.2.2.2.1) (0 : Int)) < (16 : Int)) then (if ((List.getD x.2.2.2.2.1 (Int.toNat x.2.2.2.2.2.2.1) (0 : Int)) < (0 : Int)) then none
   else (if ((List.length ((List.take (List.length x.2.2.2.2.2.2.2.2.2.2.1) (List.drop (0 : Nat) x.2.2.2.2.2.2.2.2.2.2.1)) ++ (List.take (1 : Nat) (List.drop (0 : Nat) (List.set (List.replicate (1 : Nat) (0 : Int)) (0 : Nat) x.2.2.2.2.2.2.1))))) = (List.length ((List.take (List.length x.2.2.2.2.2.2.2.2.2.2.1) (List.drop (0 : Nat) x.2.2.2.2.2.2.2.2.2.2.1)) ++ (List.take (1 : Nat) (List.drop (0 : Nat) (List.set (List.replicate (1 : Nat) (0 : Int)) (0 : Nat) x.2.2.2.2.2.2.1)))))) then (some (Sum.inl (x.1, ((Go.IntKind.wrap Go.IntKind.i64 (x.2.1 + (Int.fdiv (32768 : Int) ((2 : Int) ^ (Min.min (Int.toNat (List.getD x.2.2.2.2.1 (Int.toNat x.2.2.2.2.2.2.1) (0 : Int))) (64 : Nat)))))), (x.2.2.1, (x.2.2.2.1, (x.2.2.2.2.1, (x.2.2.2.2.2.1, ((Go.IntKind.wrap Go.IntKind.i64 (x.2.2.2.2.2.2.1 + (1 : Int))), ((List.set x.2.2.2.2.2.2.2.1 (Int.toNat (List.getD x.2.2.2.2.1 (Int.toNat x.2.2.2.2.2.2.1) (0 : Int))) (Go.IntKind.wrap Go.IntKind.i64 ((List.getD x.2.2.2.2.2.2.2.1 (Int.toNat (List.getD x.2.2.2.2.1 (Int.toNat x.2.2.2.2.2.2.1) (0 : Int))) (0 : Int)) + (1 : Int)))), (x.2.2.2.2.2.2.2.2.1, (x.2.2.2.2.2.2.2.2.2.1, (((List.take (List.length x.2.2.2.2.2.2.2.2.2.2.1) (List.drop (0 : Nat) x.2.2.2.2.2.2.2.2.2.2.1)) ++ (List.take (1 : Nat) (List.drop (0 : Nat) (List.set (List.replicate (1 : Nat) (0 : Int)) (0 : Nat) x.2.2.2.2.2.2.1)))), Unit.unit)))))))))))))
   else none))
   else none)
   else none)
   else none)
   else none)
   else none)
   else (if ((List.length x.2.2.2.2.2.2.2.2.2.2.1) = (List.length x.2.2.2.2.2.2.2.2.2.2.1)) then (some (Sum.inl (x.1, (x.2.1, (x.2.2.1, (x.2.2.2.1, (x.2.2.2.2.1, (x.2.2.2.2.2.1, ((Go.IntKind.wrap Go.IntKind.i64 (x.2.2.2.2.2.2.1 + (1 : Int))), (x.2.2.2.2.2.2.2.1, (x.2.2.2.2.2.2.2.2.1, (x.2.2.2.2.2.2.2.2.2.1, (x.2.2.2.2.2.2.2.2.2.2.1, Unit.unit)))))))))))))
   else none))
   else none)
   else none)
   else (if ((List.length x.2.2.2.2.2.2.2.2.2.2.1) = (List.length x.2.2.2.2.2.2.2.2.2.2.1)) then (some (Sum.inr (Sum.inl (x.1, (x.2.1, (x.2.2.2.1, (x.2.2.2.2.2.2.2.1, (x.2.2.2.2.2.2.2.2.1, (x.2.2.2.2.2.2.2.2.2.1, (x.2.2.2.2.2.2.2.2.2.2.1, Unit.unit))))))))))
   else none))
theorem b25_2_eq (x : g25_2.D) : b25_2 x = evF P (T52.orc _) Go.Proofs.Try.f25.ntmps fx25 (Code.at [true, true, true, true, true, false, true, false, false, true, true, false, false, true, true, false, false] c25) (planAt 64 []) g25_2 x (injK fx25 ((.normal, g25_2) :: o25_2) some) := by kernel_rfl
noncomputable def l25_2 : g25_2.D → Option (outD o25_2) := loopN g25_2 o25_2 b25_2 18446744073709551616
theorem at25_2 : Code.at [true, true, true, true, true, false, true, false, false, true, true, false, false, true, true, false] c25 = .loop (Code.at [true, true, true, true, true, false, true, false, false, true, true, false, false, true, true, false, false] c25) := by kernel_rfl
theorem s25_2_ok : SubOk P Go.Proofs.Try.f25.ntmps fx25 (Code.at [true, true, true, true, true, false, true, false, false, true, true, false, false, true, true, false] c25) ⟨g25_2, o25_2, l25_2⟩ := by
  rw [at25_2]
  exact loop_ok (sub_ok (g := g25_2) (outs := ((.normal, g25_2) :: o25_2)) (f := b25_2) (Table.ok T52_ok _) hmix (planAt_ok (P := P) (n := Go.Proofs.Try.f25.ntmps) (fx := fx25) (c := (Code.at [true, true, true, true, true, false, true, false, false, true, true, false, false, true, true, false, false] c25)) (d := 64) (l := []) trivial) b25_2_eq) rfl _
abbrev g25_1 : Sg := ⟨[0, 6, 7, 24], [.lf (.sl (.int .i64)), .lf (.ptr 0 0), .lf (.int .i64), .lf (.int .i64)], [some (.box true [.many (.int .i64) 16, .lf (.sl (.int .i64)), .lf (.sl (.int .i64)), .lf (.gr (.int .i64) 1)]), some (.arr true (.int .i64))]⟩
abbrev o25_1 : Outs := [(.exit 0, ⟨[6, 7], [.lf (.ptr 0 0), .lf (.int .i64)], [some (.box true [.many (.int .i64) 16, .lf (.sl (.int .i64)), .lf (.sl (.int .i64)), .lf (.gr (.int .i64) 1)]), some (.arr true (.int .i64))]⟩)]
noncomputable def b25_1 (x : g25_1.D) : Option (outD ((.normal, g25_1) :: o25_1)) :=
  (if ((decide (x.2.2.1 < (15 : Int))) = true) then (if ((List.length x.2.2.2.2.2.2.1) = (List.length x.2.2.2.2.2.2.1)) then (Option.bind (Go.Ev.Deflate.l25_2 (x.1, (x.2.1, (x.2.2.1, (x.2.2.1, (x.1, ((((List.length x.1) : Nat) : Int), ((0 : Int), (x.2.2.2.1, (x.2.2.2.2.1, (x.2.2.2.2.2.1, (x.2.2.2.2.2.2.1, Unit.unit)))))))))))) (Sum.elim (fun y1 => (if ((List.length y1.2.2.2.2.2.2.1) = (List.length y1.2.2.2.2.2.2.1)) then (some (Sum.inl (y1.1, (y1.2.1, ((Go.IntKind.wrap Go.IntKind.i64 (y1.2.2.1 + (1 : Int))), (y1.2.2.2.1, (y1.2.2.2.2.1, (y1.2.2.2.2.2.1, (y1.2.2.2.2.2.2.1, Unit.unit)))))))))
   else none)) Empty.elim))
   else none)
   else (if ((List.length x.2.2.2.2.2.2.1) = (List.length x.2.2.2.2.2.2.1)) then (some (Sum.inr (Sum.inl (x.2.1, (x.2.2.2.1, (x.2.2.2.2.1, (x.2.2.2.2.2.1, (x.2.2.2.2.2.2.1, Unit.unit))))))))
   else none))
theorem b25_1_eq (x : g25_1.D) : b25_1 x = evF P (T52.orc _) Go.Proofs.Try.f25.ntmps fx25 (Code.at [true, true, true, true, true, false, true, false, false] c25) (planAt 64 [([true, true, false, false, true, true, false], ⟨g25_2, o25_2, l25_2⟩)]) g25_1 x (injK fx25 ((.normal, g25_1) :: o25_1) some) := by kernel_rfl
noncomputable def l25_1 : g25_1.D → Option (outD o25_1) := loopN g25_1 o25_1 b25_1 18446744073709551616
theorem p25_1 : AllSub P Go.Proofs.Try.f25.ntmps fx25 (Code.at [true, true, true, true, true, false, true, false, false] c25) [([true, true, false, false, true, true, false], ⟨g25_2, o25_2, l25_2⟩)] := And.intro s25_2_ok (trivial)
theorem q25_1 : PlanOk P Go.Proofs.Try.f25.ntmps fx25 (planAt 64 [([true, true, false, false, true, true, false], ⟨g25_2, o25_2, l25_2⟩)]) (Code.at [true, true, true, true, true, false, true, false, false] c25) := planAt_ok p25_1
theorem at25_1 : Code.at [true, true, true, true, true, false, true, false] c25 = .loop (Code.at [true, true, true, true, true, false, true, false, false] c25) := by kernel_rfl
theorem s25_1_ok : SubOk P Go.Proofs.Try.f25.ntmps fx25 (Code.at [true, true, true, true, true, false, true, false] c25) ⟨g25_1, o25_1, l25_1⟩ := by
  rw [at25_1]
  exact loop_ok (sub_ok (g := g25_1) (outs := ((.normal, g25_1) :: o25_1)) (f := b25_1) (Table.ok T52_ok _) hmix (q25_1) b25_1_eq) rfl _
noncomputable def f25 (x : gi25.D) : Option (alt go25) :=
  (Option.bind (Go.Ev.Deflate.f51 (x.1, Unit.unit)) (fun y1 => (if ((y1.1 != (0 : Int)) = true) then (some (Sum.inl (y1.1, Unit.unit)))
   else (Option.bind (Go.Ev.Deflate.f52 (x.1, Unit.unit)) (fun y2 => (Option.bind (Go.Ev.Deflate.l25_1 (x.1, ((0 : Int), ((0 : Int), ((List.replicate (16 : Nat) (0 : Int)), ((List.take (List.length y2.1) (List.drop (0 : Nat) y2.1)), ((List.take (List.length y1.2.1) (List.drop (0 : Nat) y1.2.1)), ([], Unit.unit)))))))) (Sum.elim (fun y3 => (if ((decide (y3.1 < (32768 : Int))) = true) then (if ((decide ((((List.length y3.2.2.2.2.1) : Nat) : Int) > (0 : Int))) = true) then (if ((decide ((((List.length y3.2.2.2.2.1) : Nat) : Int) > (1 : Int))) = true) then (some (Sum.inl ((4 : Int), Unit.unit)))
   else (if (((List.getD y3.2.1 (1 : Nat) (0 : Int)) == (0 : Int)) = true) then (some (Sum.inl ((4 : Int), Unit.unit)))
   else (if ((List.length y3.2.2.2.2.1) = (List.length y3.2.2.2.2.1)) then (some (Sum.inr ((0 : Int), (y3.2.1, (y3.2.2.1, (y3.2.2.2.1, (y3.2.2.2.2.1, Unit.unit)))))))
   else none)))
   else (if ((List.length y3.2.2.2.2.1) = (List.length y3.2.2.2.2.1)) then (some (Sum.inr ((0 : Int), (y3.2.1, (y3.2.2.1, (y3.2.2.2.1, (y3.2.2.2.2.1, Unit.unit)))))))
   else none))
   else (if ((List.length y3.2.2.2.2.1) = (List.length y3.2.2.2.2.1)) then (some (Sum.inr ((0 : Int), (y3.2.1, (y3.2.2.1, (y3.2.2.2.1, (y3.2.2.2.2.1, Unit.unit)))))))
   else none))) Empty.elim)))))))
theorem f25_eq (x : gi25.D) : f25 x = evF P (T52.orc _) Go.Proofs.Try.f25.ntmps fx25 c25 (planAt 64 [([true, true, true, true, true, false, true, false], ⟨g25_1, o25_1, l25_1⟩)]) gi25 x (fnK fx25 go25) := by kernel_rfl
theorem pf25 : AllSub P Go.Proofs.Try.f25.ntmps fx25 c25 [([true, true, true, true, true, false, true, false], ⟨g25_1, o25_1, l25_1⟩)] := And.intro s25_1_ok (trivial)
theorem qf25 : PlanOk P Go.Proofs.Try.f25.ntmps fx25 (planAt 64 [([true, true, true, true, true, false, true, false], ⟨g25_1, o25_1, l25_1⟩)]) c25 := planAt_ok pf25
theorem f25_ok : EntOk P 25 ⟨gi25, go25, f25⟩ :=
  ent_ok (fn := Go.Proofs.Try.f25) (gi := gi25) (gos := go25) (f := f25) (c := c25) (fx := fx25) ⟨Go.Proofs.Try.func25, by kernel_rfl, rfl, by decide +kernel, rfl, rfl⟩ (by kernel_rfl) (Table.ok T52_ok _) hmix (qf25) f25_eq
noncomputable def T25 : Table := T52.add 25 [⟨gi25, go25, f25⟩] []
theorem T25_ok : TableOk P T25 := Table.plus T52_ok (es := [⟨gi25, go25, f25⟩]) ⟨f25_ok, trivial⟩ []

/-! ## 28: erasure/bits.NewWriter -/
noncomputable def c28 : Code := Func.code Go.Proofs.Try.f28
abbrev gi28 : Sg := ⟨[], [], []⟩
abbrev go28 : Sg := ⟨[0], [.lf (.ptr 0 0)], [some (.box true [.lf (.gr (.int .u8) 1), .lf (.int .i64), .lf (.int .i64)]), some (.arr true (.int .u8))]⟩
def fx28 : List Bool := []
noncomputable def f28 (_ : gi28.D) : Option go28.D :=
  (some ((0 : Int), ((0 : Int), ([], Unit.unit))))
theorem f28_eq (x : gi28.D) : f28 x = evF P (T25.orc _) Go.Proofs.Try.f28.ntmps fx28 c28 (planAt 64 []) gi28 x (fnK fx28 [go28]) := by kernel_rfl
theorem f28_ok : EntOk P 28 ⟨gi28, [go28], f28⟩ :=
  ent_ok (fn := Go.Proofs.Try.f28) (gi := gi28) (gos := [go28]) (f := f28) (c := c28) (fx := fx28) ⟨Go.Proofs.Try.func28, by kernel_rfl, rfl, by decide +kernel, rfl, rfl⟩ (by kernel_rfl) (Table.ok T25_ok _) hmix (planAt_ok (P := P) (n := Go.Proofs.Try.f28.ntmps) (fx := fx28) (c := c28) (d := 64) (l := []) trivial) f28_eq
noncomputable def T28 : Table := T25.add 28 [⟨gi28, [go28], f28⟩] []
theorem T28_ok : TableOk P T28 := Table.plus T25_ok (es := [⟨gi28, [go28], f28⟩]) ⟨f28_ok, trivial⟩ []

/-! ## 29: (*erasure/bits.Writer).Put -/
noncomputable def c29 : Code := Func.code Go.Proofs.Try.f29
abbrev gi29 : Sg := ⟨[0, 1, 2], [.lf (.ptr 0 0), .lf (.int .i64), .lf (.int .i64)], [some (.box true [.lf (.gr (.int .u8) 1), .lf (.int .i64), .lf (.int .i64)]), some (.arr true (.int .u8))]⟩
abbrev go29 : Sg := ⟨[6], [.lf (.int .i64)], [some (.box true [.lf (.gr (.int .u8) 2), .lf (.int .i64), .lf (.int .i64)]), none, some (.arr true (.int .u8))]⟩
def fx29 : List Bool := [true, false]
abbrev g29_1 : Sg := ⟨[0], [.lf (.ptr 0 0)], [some (.box true [.lf (.gr (.int .u8) 2), .lf (.int .i64), .lf (.int .i64)]), none, some (.arr true (.int .u8))]⟩
abbrev o29_1 : Outs := [(.exit 1, ⟨[], [], [some (.box true [.lf (.gr (.int .u8) 2), .lf (.int .i64), .lf (.int .i64)]), none, some (.arr true (.int .u8))]⟩)]
noncomputable def b29_1 (x : g29_1.D) : Option (outD ((.normal, g29_1) :: o29_1)) :=
  (if ((decide (x.2.1 ≥ (8 : Int))) = true) then (if (((List.length (List.take (List.length x.2.2.1) (List.drop (0 : Nat) x.2.2.1))) + (List.length (List.take (1 : Nat) (List.drop (0 : Nat) (List.set (List.replicate (1 : Nat) (0 : Int)) (0 : Nat) (Go.IntKind.wrap Go.IntKind.u8 x.1)))))) ≤ (140737488355328 : Nat)) then (if ((List.length ((List.take (List.length x.2.2.1) (List.drop (0 : Nat) x.2.2.1)) ++ (List.take (1 : Nat) (List.drop (0 : Nat) (List.set (List.replicate (1 : Nat) (0 : Int)) (0 : Nat) (Go.IntKind.wrap Go.IntKind.u8 x.1)))))) = (List.length ((List.take (List.length x.2.2.1) (List.drop (0 : Nat) x.2.2.1)) ++ (List.take (1 : Nat) (List.drop (0 : Nat) (List.set (List.replicate (1 : Nat) (0 : Int)) (0 : Nat) (Go.IntKind.wrap Go.IntKind.u8 x.1))))))) then (some (Sum.inl ((Int.fdiv x.1 (256 : Int)), ((Go.IntKind.wrap Go.IntKind.i64 (x.2.1 - (8 : Int))), (((List.take (List.length x.2.2.1) (List.drop (0 : Nat) x.2.2.1)) ++ (List.take (1 : Nat) (List.drop (0 : Nat) (List.set (List.replicate (1 : Nat) (0 : Int)) (0 : Nat) (Go.IntKind.wrap Go.IntKind.u8 x.1))))), Unit.unit)))))
   else none)
   else none)
   else (if ((List.length x.2.2.1) = (List.length x.2.2.1)) then (some (Sum.inr (Sum.inl (x.1, (x.2.1, (x.2.2.1, Unit.unit))))))
   else none))
theorem b29_1_eq (x : g29_1.D) : b29_1 x = evF P (T28.orc _) Go.Proofs.Try.f29.ntmps fx29 (Code.at [true, true, true, false, true, false, false] c29) (planAt 64 []) g29_1 x (injK fx29 ((.normal, g29_1) :: o29_1) some) := by kernel_rfl
noncomputable def l29_1 : g29_1.D → Option (outD o29_1) := loopN g29_1 o29_1 b29_1 18446744073709551616
theorem at29_1 : Code.at [true, true, true, false, true, false] c29 = .loop (Code.at [true, true, true, false, true, false, false] c29) := by kernel_rfl
theorem s29_1_ok : SubOk P Go.Proofs.Try.f29.ntmps fx29 (Code.at [true, true, true, false, true, false] c29) ⟨g29_1, o29_1, l29_1⟩ := by
  rw [at29_1]
  exact loop_ok (sub_ok (g := g29_1) (outs := ((.normal, g29_1) :: o29_1)) (f := b29_1) (Table.ok T28_ok _) hmix (planAt_ok (P := P) (n := Go.Proofs.Try.f29.ntmps) (fx := fx29) (c := (Code.at [true, true, true, false, true, false, false] c29)) (d := 64) (l := []) trivial) b29_1_eq) rfl _
noncomputable def f29 (x : gi29.D) : Option go29.D :=
  (if ((decide (x.2.1 < (0 : Int))) = true) then (if ((List.length x.2.2.2.2.1) = (List.length x.2.2.2.2.1)) then (some ((1 : Int), (x.2.2.1, (x.2.2.2.1, (x.2.2.2.2.1, Unit.unit)))))
   else none)
   else (if ((decide (x.2.1 > (24 : Int))) = true) then (if ((List.length x.2.2.2.2.1) = (List.length x.2.2.2.2.1)) then (some ((1 : Int), (x.2.2.1, (x.2.2.2.1, (x.2.2.2.2.1, Unit.unit)))))
   else none)
   else (if ((decide (x.1 < (0 : Int))) = true) then (if ((List.length x.2.2.2.2.1) = (List.length x.2.2.2.2.1)) then (some ((1 : Int), (x.2.2.1, (x.2.2.2.1, (x.2.2.2.2.1, Unit.unit)))))
   else none)
   else (if (x.2.1 < (0 : Int)) then none
   else (if (((Int.fdiv x.1 ((2 : Int) ^ (Min.min (Int.toNat x.2.1) (64 : Nat)))) != (0 : Int)) = true) then (if ((List.length x.2.2.2.2.1) = (List.length x.2.2.2.2.1)) then (some ((1 : Int), (x.2.2.1, (x.2.2.2.1, (x.2.2.2.2.1, Unit.unit)))))
   else none)
   else (if (x.2.2.2.1 < (0 : Int)) then none
   else (if ((List.length x.2.2.2.2.1) = (List.length x.2.2.2.2.1)) then (Option.bind (Go.Ev.Deflate.l29_1 ((Go.IntKind.wrap Go.IntKind.i64 (((BitVec.toNat ((BitVec.ofInt (64 : Nat) x.2.2.1) ||| (BitVec.ofInt (64 : Nat) (Go.IntKind.wrap Go.IntKind.i64 (x.1 * ((2 : Int) ^ (Min.min (Int.toNat x.2.2.2.1) (64 : Nat)))))))) : Nat) : Int)), ((Go.IntKind.wrap Go.IntKind.i64 (x.2.2.2.1 + x.2.1)), (x.2.2.2.2.1, Unit.unit)))) (Sum.elim (fun y1 => (if ((List.length y1.2.2.1) = (List.length y1.2.2.1)) then (some ((0 : Int), (y1.1, (y1.2.1, (y1.2.2.1, Unit.unit)))))
   else none)) Empty.elim))
   else none)))))))
theorem f29_eq (x : gi29.D) : f29 x = evF P (T28.orc _) Go.Proofs.Try.f29.ntmps fx29 c29 (planAt 64 [([true, true, true, false, true, false], ⟨g29_1, o29_1, l29_1⟩)]) gi29 x (fnK fx29 [go29]) := by kernel_rfl
theorem pf29 : AllSub P Go.Proofs.Try.f29.ntmps fx29 c29 [([true, true, true, false, true, false], ⟨g29_1, o29_1, l29_1⟩)] := And.intro s29_1_ok (trivial)
theorem qf29 : PlanOk P Go.Proofs.Try.f29.ntmps fx29 (planAt 64 [([true, true, true, false, true, false], ⟨g29_1, o29_1, l29_1⟩)]) c29 := planAt_ok pf29
theorem f29_ok : EntOk P 29 ⟨gi29, [go29], f29⟩ :=
  ent_ok (fn := Go.Proofs.Try.f29) (gi := gi29) (gos := [go29]) (f := f29) (c := c29) (fx := fx29) ⟨Go.Proofs.Try.func29, by kernel_rfl, rfl, by decide +kernel, rfl, rfl⟩ (by kernel_rfl) (Table.ok T28_ok _) hmix (qf29) f29_eq
noncomputable def T29 : Table := T28.add 29 [⟨gi29, [go29], f29⟩] []
theorem T29_ok : TableOk P T29 := Table.plus T28_ok (es := [⟨gi29, [go29], f29⟩]) ⟨f29_ok, trivial⟩ []

/-! ## 32: erasure/deflate.lengths -/
noncomputable def c32 : Code := Func.code Go.Proofs.Try.f32
abbrev gi32 : Sg := ⟨[], [], []⟩
abbrev go32 : Sg := ⟨[0], [.lf (.gr (.pair (.int .i64) (.pair (.int .i64) (.int .i64))) 0)], [some (.arr true (.pair (.int .i64) (.pair (.int .i64) (.int .i64))))]⟩
def fx32 : List Bool := []
abbrev g32_1 : Sg := ⟨[1, 2, 3], [.lf (.gr (.pair (.int .i64) (.pair (.int .i64) (.int .i64))) 0), .lf (.int .i64), .lf (.int .i64)], [some (.arr true (.pair (.int .i64) (.pair (.int .i64) (.int .i64))))]⟩
abbrev o32_1 : Outs := [(.exit 0, ⟨[1], [.lf (.gr (.pair (.int .i64) (.pair (.int .i64) (.int .i64))) 0)], [some (.arr true (.pair (.int .i64) (.pair (.int .i64) (.int .i64))))]⟩)]
noncomputable def b32_1 (x : g32_1.D) : Option (outD ((.normal, g32_1) :: o32_1)) :=
  (if ((decide (x.2.1 < (285 : Int))) = true) then (if (((List.length (List.take (List.length x.2.2.1) (List.drop (0 : Nat) x.2.2.1))) + (List.length (List.take (1 : Nat) (List.drop (0 : Nat) (List.set (List.replicate (1 : Nat) ((0 : Int), ((0 : Int), (0 : Int)))) (0 : Nat) (x.2.1, (x.1, (Max.max (Go.IntKind.wrap Go.IntKind.i64 (Int.tdiv (Go.IntKind.wrap Go.IntKind.i64 (x.2.1 - (261 : Int))) (4 : Int))) (0 : Int))))))))) ≤ (5864062014805 : Nat)) then (if ((Max.max (Go.IntKind.wrap Go.IntKind.i64 (Int.tdiv (Go.IntKind.wrap Go.IntKind.i64 (x.2.1 - (261 : Int))) (4 : Int))) (0 : Int)) < (0 : Int)) then none
   else (if ((List.length ((List.take (List.length x.2.2.1) (List.drop (0 : Nat) x.2.2.1)) ++ (List.take (1 : Nat) (List.drop (0 : Nat) (List.set (List.replicate (1 : Nat) ((0 : Int), ((0 : Int), (0 : Int)))) (0 : Nat) (x.2.1, (x.1, (Max.max (Go.IntKind.wrap Go.IntKind.i64 (Int.tdiv (Go.IntKind.wrap Go.IntKind.i64 (x.2.1 - (261 : Int))) (4 : Int))) (0 : Int))))))))) = (List.length ((List.take (List.length x.2.2.1) (List.drop (0 : Nat) x.2.2.1)) ++ (List.take (1 : Nat) (List.drop (0 : Nat) (List.set (List.replicate (1 : Nat) ((0 : Int), ((0 : Int), (0 : Int)))) (0 : Nat) (x.2.1, (x.1, (Max.max (Go.IntKind.wrap Go.IntKind.i64 (Int.tdiv (Go.IntKind.wrap Go.IntKind.i64 (x.2.1 - (261 : Int))) (4 : Int))) (0 : Int)))))))))) then (some (Sum.inl ((Go.IntKind.wrap Go.IntKind.i64 (x.1 + (Go.IntKind.wrap Go.IntKind.i64 ((1 : Int) * ((2 : Int) ^ (Min.min (Int.toNat (Max.max (Go.IntKind.wrap Go.IntKind.i64 (Int.tdiv (Go.IntKind.wrap Go.IntKind.i64 (x.2.1 - (261 : Int))) (4 : Int))) (0 : Int))) (64 : Nat))))))), ((Go.IntKind.wrap Go.IntKind.i64 (x.2.1 + (1 : Int))), (((List.take (List.length x.2.2.1) (List.drop (0 : Nat) x.2.2.1)) ++ (List.take (1 : Nat) (List.drop (0 : Nat) (List.set (List.replicate (1 : Nat) ((0 : Int), ((0 : Int), (0 : Int)))) (0 : Nat) (x.2.1, (x.1, (Max.max (Go.IntKind.wrap Go.IntKind.i64 (Int.tdiv (Go.IntKind.wrap Go.IntKind.i64 (x.2.1 - (261 : Int))) (4 : Int))) (0 : Int)))))))), Unit.unit)))))
   else none))
   else none)
   else (if ((List.length x.2.2.1) = (List.length x.2.2.1)) then (some (Sum.inr (Sum.inl (x.2.2.1, Unit.unit))))
   else none))
theorem b32_1_eq (x : g32_1.D) : b32_1 x = evF P (T29.orc _) Go.Proofs.Try.f32.ntmps fx32 (Code.at [true, true, true, false, true, false, false] c32) (planAt 64 []) g32_1 x (injK fx32 ((.normal, g32_1) :: o32_1) some) := by kernel_rfl
noncomputable def l32_1 : g32_1.D → Option (outD o32_1) := loopN g32_1 o32_1 b32_1 18446744073709551616
theorem at32_1 : Code.at [true, true, true, false, true, false] c32 = .loop (Code.at [true, true, true, false, true, false, false] c32) := by kernel_rfl
theorem s32_1_ok : SubOk P Go.Proofs.Try.f32.ntmps fx32 (Code.at [true, true, true, false, true, false] c32) ⟨g32_1, o32_1, l32_1⟩ := by
  rw [at32_1]
  exact loop_ok (sub_ok (g := g32_1) (outs := ((.normal, g32_1) :: o32_1)) (f := b32_1) (Table.ok T29_ok _) hmix (planAt_ok (P := P) (n := Go.Proofs.Try.f32.ntmps) (fx := fx32) (c := (Code.at [true, true, true, false, true, false, false] c32)) (d := 64) (l := []) trivial) b32_1_eq) rfl _
noncomputable def f32 (_ : gi32.D) : Option go32.D :=
  (Option.bind (Go.Ev.Deflate.l32_1 ((3 : Int), ((257 : Int), ((List.replicate (0 : Nat) ((0 : Int), ((0 : Int), (0 : Int)))), Unit.unit)))) (Sum.elim (fun y1 => (if (((List.length (List.take (List.length y1.1) (List.drop (0 : Nat) y1.1))) + (1 : Nat)) ≤ (5864062014805 : Nat)) then (if ((List.length ((List.take (List.length y1.1) (List.drop (0 : Nat) y1.1)) ++ (List.take (1 : Nat) (List.drop (0 : Nat) (List.set (List.replicate (1 : Nat) ((0 : Int), ((0 : Int), (0 : Int)))) (0 : Nat) ((285 : Int), ((258 : Int), (0 : Int)))))))) = (List.length ((List.take (List.length y1.1) (List.drop (0 : Nat) y1.1)) ++ (List.take (1 : Nat) (List.drop (0 : Nat) (List.set (List.replicate (1 : Nat) ((0 : Int), ((0 : Int), (0 : Int)))) (0 : Nat) ((285 : Int), ((258 : Int), (0 : Int))))))))) then (some (((List.take (List.length y1.1) (List.drop (0 : Nat) y1.1)) ++ (List.take (1 : Nat) (List.drop (0 : Nat) (List.set (List.replicate (1 : Nat) ((0 : Int), ((0 : Int), (0 : Int)))) (0 : Nat) ((285 : Int), ((258 : Int), (0 : Int))))))), Unit.unit))
   else none)
   else none)) Empty.elim))
theorem f32_eq (x : gi32.D) : f32 x = evF P (T29.orc _) Go.Proofs.Try.f32.ntmps fx32 c32 (planAt 64 [([true, true, true, false, true, false], ⟨g32_1, o32_1, l32_1⟩)]) gi32 x (fnK fx32 [go32]) := by kernel_rfl
theorem pf32 : AllSub P Go.Proofs.Try.f32.ntmps fx32 c32 [([true, true, true, false, true, false], ⟨g32_1, o32_1, l32_1⟩)] := And.intro s32_1_ok (trivial)
theorem qf32 : PlanOk P Go.Proofs.Try.f32.ntmps fx32 (planAt 64 [([true, true, true, false, true, false], ⟨g32_1, o32_1, l32_1⟩)]) c32 := planAt_ok pf32
theorem f32_ok : EntOk P 32 ⟨gi32, [go32], f32⟩ :=
  ent_ok (fn := Go.Proofs.Try.f32) (gi := gi32) (gos := [go32]) (f := f32) (c := c32) (fx := fx32) ⟨Go.Proofs.Try.func32, by kernel_rfl, rfl, by decide +kernel, rfl, rfl⟩ (by kernel_rfl) (Table.ok T29_ok _) hmix (qf32) f32_eq
noncomputable def T32 : Table := T29.add 32 [⟨gi32, [go32], f32⟩] []
theorem T32_ok : TableOk P T32 := Table.plus T29_ok (es := [⟨gi32, [go32], f32⟩]) ⟨f32_ok, trivial⟩ []

/-! ## 33: erasure/deflate.backwards -/
noncomputable def c33 : Code := Func.code Go.Proofs.Try.f33
abbrev gi33 : Sg := ⟨[], [], []⟩
abbrev go33 : Sg := ⟨[0], [.lf (.gr (.pair (.int .i64) (.pair (.int .i64) (.int .i64))) 0)], [some (.arr true (.pair (.int .i64) (.pair (.int .i64) (.int .i64))))]⟩
def fx33 : List Bool := []
abbrev g33_1 : Sg := ⟨[1, 2, 6], [.lf (.gr (.pair (.int .i64) (.pair (.int .i64) (.int .i64))) 0), .lf (.int .i64), .lf (.int .i64)], [some (.arr true (.pair (.int .i64) (.pair (.int .i64) (.int .i64))))]⟩
abbrev o33_1 : Outs := [(.exit 0, ⟨[1], [.lf (.gr (.pair (.int .i64) (.pair (.int .i64) (.int .i64))) 0)], [some (.arr true (.pair (.int .i64) (.pair (.int .i64) (.int .i64))))]⟩)]
noncomputable def b33_1 (x : g33_1.D) : Option (outD ((.normal, g33_1) :: o33_1)) :=
  (if ((decide (x.2.1 < (30 : Int))) = true) then (if (((List.length (List.take (List.length x.2.2.1) (List.drop (0 : Nat) x.2.2.1))) + (List.length (List.take (1 : Nat) (List.drop (0 : Nat) (List.set (List.replicate (1 : Nat) ((0 : Int), ((0 : Int), (0 : Int)))) (0 : Nat) (x.2.1, (x.1, (Max.max (Go.IntKind.wrap Go.IntKind.i64 (Int.tdiv (Go.IntKind.wrap Go.IntKind.i64 (x.2.1 - (2 : Int))) (2 : Int))) (0 : Int))))))))) ≤ (5864062014805 : Nat)) then (if ((Max.max (Go.IntKind.wrap Go.IntKind.i64 (Int.tdiv (Go.IntKind.wrap Go.IntKind.i64 (x.2.1 - (2 : Int))) (2 : Int))) (0 : Int)) < (0 : Int)) then none
   else (if ((List.length ((List.take (List.length x.2.2.1) (List.drop (0 : Nat) x.2.2.1)) ++ (List.take (1 : Nat) (List.drop (0 : Nat) (List.set (List.replicate (1 : Nat) ((0 : Int), ((0 : Int), (0 : Int)))) (0 : Nat) (x.2.1, (x.1, (Max.max (Go.IntKind.wrap Go.IntKind.i64 (Int.tdiv (Go.IntKind.wrap Go.IntKind.i64 (x.2.1 - (2 : Int))) (2 : Int))) (0 : Int))))))))) = (List.length ((List.take (List.length x.2.2.1) (List.drop (0 : Nat) x.2.2.1)) ++ (List.take (1 : Nat) (List.drop (0 : Nat) (List.set (List.replicate (1 : Nat) ((0 : Int), ((0 : Int), (0 : Int)))) (0 : Nat) (x.2.1, (x.1, (Max.max (Go.IntKind.wrap Go.IntKind.i64 (Int.tdiv (Go.IntKind.wrap Go.IntKind.i64 (x.2.1 - (2 : Int))) (2 : Int))) (0 : Int)))))))))) then (some (Sum.inl ((Go.IntKind.wrap Go.IntKind.i64 (x.1 + (Go.IntKind.wrap Go.IntKind.i64 ((1 : Int) * ((2 : Int) ^ (Min.min (Int.toNat (Max.max (Go.IntKind.wrap Go.IntKind.i64 (Int.tdiv (Go.IntKind.wrap Go.IntKind.i64 (x.2.1 - (2 : Int))) (2 : Int))) (0 : Int))) (64 : Nat))))))), ((Go.IntKind.wrap Go.IntKind.i64 (x.2.1 + (1 : Int))), (((List.take (List.length x.2.2.1) (List.drop (0 : Nat) x.2.2.1)) ++ (List.take (1 : Nat) (List.drop (0 : Nat) (List.set (List.replicate (1 : Nat) ((0 : Int), ((0 : Int), (0 : Int)))) (0 : Nat) (x.2.1, (x.1, (Max.max (Go.IntKind.wrap Go.IntKind.i64 (Int.tdiv (Go.IntKind.wrap Go.IntKind.i64 (x.2.1 - (2 : Int))) (2 : Int))) (0 : Int)))))))), Unit.unit)))))
   else none))
   else none)
   else (if ((List.length x.2.2.1) = (List.length x.2.2.1)) then (some (Sum.inr (Sum.inl (x.2.2.1, Unit.unit))))
   else none))
theorem b33_1_eq (x : g33_1.D) : b33_1 x = evF P (T32.orc _) Go.Proofs.Try.f33.ntmps fx33 (Code.at [true, true, true, false, true, false, false] c33) (planAt 64 []) g33_1 x (injK fx33 ((.normal, g33_1) :: o33_1) some) := by kernel_rfl
noncomputable def l33_1 : g33_1.D → Option (outD o33_1) := loopN g33_1 o33_1 b33_1 18446744073709551616
theorem at33_1 : Code.at [true, true, true, false, true, false] c33 = .loop (Code.at [true, true, true, false, true, false, false] c33) := by kernel_rfl
theorem s33_1_ok : SubOk P Go.Proofs.Try.f33.ntmps fx33 (Code.at [true, true, true, false, true, false] c33) ⟨g33_1, o33_1, l33_1⟩ := by
  rw [at33_1]
  exact loop_ok (sub_ok (g := g33_1) (outs := ((.normal, g33_1) :: o33_1)) (f := b33_1) (Table.ok T32_ok _) hmix (planAt_ok (P := P) (n := Go.Proofs.Try.f33.ntmps) (fx := fx33) (c := (Code.at [true, true, true, false, true, false, false] c33)) (d := 64) (l := []) trivial) b33_1_eq) rfl _
noncomputable def f33 (_ : gi33.D) : Option go33.D :=
  (Option.bind (Go.Ev.Deflate.l33_1 ((1 : Int), ((0 : Int), ((List.replicate (0 : Nat) ((0 : Int), ((0 : Int), (0 : Int)))), Unit.unit)))) (Sum.elim (fun y1 => (if ((List.length y1.1) = (List.length y1.1)) then (some (y1.1, Unit.unit))
   else none)) Empty.elim))
theorem f33_eq (x : gi33.D) : f33 x = evF P (T32.orc _) Go.Proofs.Try.f33.ntmps fx33 c33 (planAt 64 [([true, true, true, false, true, false], ⟨g33_1, o33_1, l33_1⟩)]) gi33 x (fnK fx33 [go33]) := by kernel_rfl
theorem pf33 : AllSub P Go.Proofs.Try.f33.ntmps fx33 c33 [([true, true, true, false, true, false], ⟨g33_1, o33_1, l33_1⟩)] := And.intro s33_1_ok (trivial)
theorem qf33 : PlanOk P Go.Proofs.Try.f33.ntmps fx33 (planAt 64 [([true, true, true, false, true, false], ⟨g33_1, o33_1, l33_1⟩)]) c33 := planAt_ok pf33
theorem f33_ok : EntOk P 33 ⟨gi33, [go33], f33⟩ :=
  ent_ok (fn := Go.Proofs.Try.f33) (gi := gi33) (gos := [go33]) (f := f33) (c := c33) (fx := fx33) ⟨Go.Proofs.Try.func33, by kernel_rfl, rfl, by decide +kernel, rfl, rfl⟩ (by kernel_rfl) (Table.ok T32_ok _) hmix (qf33) f33_eq
noncomputable def T33 : Table := T32.add 33 [⟨gi33, [go33], f33⟩] []
theorem T33_ok : TableOk P T33 := Table.plus T32_ok (es := [⟨gi33, [go33], f33⟩]) ⟨f33_ok, trivial⟩ []

/-! ## 54: (*erasure/huff.Table).Put$1 -/
noncomputable def c54 : Code := Func.code Go.Proofs.Try.f54
abbrev gi54 : Sg := ⟨[0, 1, 2], [.lf (.int .i64), .lf (.ptr 0 0), .lf (.ptr 3 0)], [some (.box true [.lf (.ptr 1 0)]), some (.box true [.many (.int .i64) 16, .lf (.sl (.int .i64)), .lf (.sl (.int .i64)), .lf (.gr (.int .i64) 2)]), some (.arr true (.int .i64)), some (.box true [.lf (.int .i64)])]⟩
abbrev go54 : Sg := ⟨[4], [.lf (.int .i64)], [some (.box true [.lf (.ptr 1 0)]), some (.box true [.many (.int .i64) 16, .lf (.sl (.int .i64)), .lf (.sl (.int .i64)), .lf (.gr (.int .i64) 2)]), some (.arr true (.int .i64)), some (.box true [.lf (.int .i64)])]⟩
def fx54 : List Bool := [true, true, true, true]
noncomputable def f54 (x : gi54.D) : Option go54.D :=
  (if ((0 : Int) ≤ x.2.2.2.2.2.1) then (if (x.2.2.2.2.2.1 < (((List.length x.2.2.2.1) : Nat) : Int)) then (if ((0 : Int) ≤ x.2.2.2.2.2.1) then (if (x.2.2.2.2.2.1 < (((List.length x.2.2.1) : Nat) : Int)) then (if ((Go.IntKind.wrap Go.IntKind.i64 ((Go.IntKind.wrap Go.IntKind.i64 ((List.getD x.2.2.1 (Int.toNat x.2.2.2.2.2.1) (0 : Int)) - (1 : Int))) - x.1)) < (0 : Int)) then none
   else (if ((List.length x.2.2.2.2.1) = (List.length x.2.2.2.2.1)) then (some ((Go.IntKind.wrap Go.IntKind.i64 (((BitVec.toNat ((BitVec.ofInt (64 : Nat) (Int.fdiv (List.getD x.2.2.2.1 (Int.toNat x.2.2.2.2.2.1) (0 : Int)) ((2 : Int) ^ (Min.min (Int.toNat (Go.IntKind.wrap Go.IntKind.i64 ((Go.IntKind.wrap Go.IntKind.i64 ((List.getD x.2.2.1 (Int.toNat x.2.2.2.2.2.1) (0 : Int)) - (1 : Int))) - x.1))) (64 : Nat))))) &&& (BitVec.ofInt (64 : Nat) (1 : Int)))) : Nat) : Int)), (x.2.1, (x.2.2.1, (x.2.2.2.1, (x.2.2.2.2.1, (x.2.2.2.2.2.1, Unit.unit)))))))
   else none))
   else none)
   else none)
   else none)
   else none)
theorem f54_eq (x : gi54.D) : f54 x = evF P (T33.orc _) Go.Proofs.Try.f54.ntmps fx54 c54 (planAt 64 []) gi54 x (fnK fx54 [go54]) := by kernel_rfl
theorem f54_ok : EntOk P 54 ⟨gi54, [go54], f54⟩ :=
  ent_ok (fn := Go.Proofs.Try.f54) (gi := gi54) (gos := [go54]) (f := f54) (c := c54) (fx := fx54) ⟨Go.Proofs.Try.func54, by kernel_rfl, rfl, by decide +kernel, rfl, rfl⟩ (by kernel_rfl) (Table.ok T33_ok _) hmix (planAt_ok (P := P) (n := Go.Proofs.Try.f54.ntmps) (fx := fx54) (c := c54) (d := 64) (l := []) trivial) f54_eq
noncomputable def T54 : Table := T33.add 54 [⟨gi54, [go54], f54⟩] []
theorem T54_ok : TableOk P T54 := Table.plus T33_ok (es := [⟨gi54, [go54], f54⟩]) ⟨f54_ok, trivial⟩ []

/-! ## 31: (*erasure/huff.Table).Put -/
noncomputable def c31 : Code := Func.code Go.Proofs.Try.f31
abbrev gi31 : Sg := ⟨[0, 1, 2], [.lf .nilp, .lf (.ptr 0 0), .lf (.int .i64)], [some (.box true [.lf (.gr (.int .u8) 1), .lf (.int .i64), .lf (.int .i64)]), some (.arr true (.int .u8))]⟩
abbrev go31 : Sg := ⟨[6], [.lf (.int .i64)], [some (.box true [.lf (.gr (.int .u8) 1), .lf (.int .i64), .lf (.int .i64)]), some (.arr true (.int .u8))]⟩
def fx31 : List Bool := [true, true]
noncomputable def f31 (x : gi31.D) : Option go31.D :=
  (if ((List.length x.2.2.2.1) = (List.length x.2.2.2.1)) then (some ((3 : Int), (x.2.1, (x.2.2.1, (x.2.2.2.1, Unit.unit)))))
   else none)
theorem f31_eq (x : gi31.D) : f31 x = evF P (T54.orc _) Go.Proofs.Try.f31.ntmps fx31 c31 (planAt 64 []) gi31 x (fnK fx31 [go31]) := by kernel_rfl
theorem f31_ok : EntOk P 31 ⟨gi31, [go31], f31⟩ :=
  ent_ok (fn := Go.Proofs.Try.f31) (gi := gi31) (gos := [go31]) (f := f31) (c := c31) (fx := fx31) ⟨Go.Proofs.Try.func31, by kernel_rfl, rfl, by decide +kernel, rfl, rfl⟩ (by kernel_rfl) (Table.ok T54_ok _) hmix (planAt_ok (P := P) (n := Go.Proofs.Try.f31.ntmps) (fx := fx31) (c := c31) (d := 64) (l := []) trivial) f31_eq
abbrev gi31_b : Sg := ⟨[0, 1, 2], [.lf (.ptr 0 0), .lf (.ptr 2 0), .lf (.int .i64)], [some (.box true [.many (.int .i64) 16, .lf (.sl (.int .i64)), .lf (.sl (.int .i64)), .lf (.gr (.int .i64) 1)]), some (.arr true (.int .i64)), some (.box true [.lf (.gr (.int .u8) 3), .lf (.int .i64), .lf (.int .i64)]), some (.arr true (.int .u8))]⟩
abbrev go31_b : Sg := ⟨[6], [.lf (.int .i64)], [some (.box true [.many (.int .i64) 16, .lf (.sl (.int .i64)), .lf (.sl (.int .i64)), .lf (.gr (.int .i64) 1)]), some (.arr true (.int .i64)), some (.box true [.lf (.gr (.int .u8) 4), .lf (.int .i64), .lf (.int .i64)]), none, some (.arr true (.int .u8))]⟩
def fx31_b : List Bool := [true, true, true, false]
abbrev g31_b_1 : Sg := ⟨[1, 7, 46, 47], [.lf (.ptr 2 0), .lf (.fnc 54 [(.ptr 4 0), (.ptr 5 0)]), .lf (.int .i64), .lf (.int .i64)], [some (.box true [.many (.int .i64) 16, .lf (.sl (.int .i64)), .lf (.sl (.int .i64)), .lf (.gr (.int .i64) 1)]), some (.arr true (.int .i64)), some (.box true [.lf (.gr (.int .u8) 6), .lf (.int .i64), .lf (.int .i64)]), none, some (.box true [.lf (.ptr 0 0)]), some (.box true [.lf (.int .i64)]), some (.arr true (.int .u8))]⟩
abbrev o31_b_1 : Outs := [(.exit 1, ⟨[], [], [some (.box true [.many (.int .i64) 16, .lf (.sl (.int .i64)), .lf (.sl (.int .i64)), .lf (.gr (.int .i64) 1)]), some (.arr true (.int .i64)), some (.box true [.lf (.gr (.int .u8) 4), .lf (.int .i64), .lf (.int .i64)]), none, some (.arr true (.int .u8))]⟩), (.ret, ⟨[6], [.lf (.int .i64)], [some (.box true [.many (.int .i64) 16, .lf (.sl (.int .i64)), .lf (.sl (.int .i64)), .lf (.gr (.int .i64) 1)]), some (.arr true (.int .i64)), some (.box true [.lf (.gr (.int .u8) 4), .lf (.int .i64), .lf (.int .i64)]), none, some (.arr true (.int .u8))]⟩)]
noncomputable def b31_b_1 (x : g31_b_1.D) : Option (outD ((.normal, g31_b_1) :: o31_b_1)) :=
  (if ((decide (x.2.1 < x.1)) = true) then (if ((List.length x.2.2.2.2.2.1) = (List.length x.2.2.2.2.2.1)) then (Option.bind (Go.Ev.Deflate.f54 (x.2.1, (x.2.2.1, (x.2.2.2.1, (x.2.2.2.2.1, (x.2.2.2.2.2.1, (x.2.2.2.2.2.2.2.2.1, Unit.unit))))))) (fun y1 => (if ((List.length x.2.2.2.2.2.2.2.2.2.1) = (List.length x.2.2.2.2.2.2.2.2.2.1)) then (Option.bind (Go.Ev.Deflate.f29 (y1.1, ((1 : Int), (x.2.2.2.2.2.2.1, (x.2.2.2.2.2.2.2.1, (x.2.2.2.2.2.2.2.2.2.1, Unit.unit)))))) (fun y2 => (if ((y2.1 != (0 : Int)) = true) then (if ((List.length y1.2.2.2.2.1) = (List.length y1.2.2.2.2.1)) then (if ((List.length y2.2.2.2.1) = (List.length y2.2.2.2.1)) then (some (Sum.inr (Sum.inr (Sum.inl (y2.1, (y1.2.1, (y1.2.2.1, (y1.2.2.2.1, (y1.2.2.2.2.1, (y2.2.1, (y2.2.2.1, (y2.2.2.2.1, Unit.unit))))))))))))
   else none)
   else none)
   else (if ((List.length y1.2.2.2.2.1) = (List.length y1.2.2.2.2.1)) then (if ((List.length y2.2.2.2.1) = (List.length y2.2.2.2.1)) then (some (Sum.inl (x.1, ((Go.IntKind.wrap Go.IntKind.i64 (x.2.1 + (1 : Int))), (y1.2.1, (y1.2.2.1, (y1.2.2.2.1, (y1.2.2.2.2.1, (y2.2.1, (y2.2.2.1, (y1.2.2.2.2.2.1, (y2.2.2.2.1, Unit.unit))))))))))))
   else none)
   else none))))
   else none)))
   else none)
   else (if ((List.length x.2.2.2.2.2.1) = (List.length x.2.2.2.2.2.1)) then (if ((List.length x.2.2.2.2.2.2.2.2.2.1) = (List.length x.2.2.2.2.2.2.2.2.2.1)) then (some (Sum.inr (Sum.inl (x.2.2.1, (x.2.2.2.1, (x.2.2.2.2.1, (x.2.2.2.2.2.1, (x.2.2.2.2.2.2.1, (x.2.2.2.2.2.2.2.1, (x.2.2.2.2.2.2.2.2.2.1, Unit.unit))))))))))
   else none)
   else none))
theorem b31_b_1_eq (x : g31_b_1.D) : b31_b_1 x = evF P (T54.orc _) Go.Proofs.Try.f31.ntmps fx31_b (Code.at [true, true, true, false, true, false, false] c31) (planAt 64 []) g31_b_1 x (injK fx31_b ((.normal, g31_b_1) :: o31_b_1) some) := by kernel_rfl
noncomputable def l31_b_1 : g31_b_1.D → Option (outD o31_b_1) := loopN g31_b_1 o31_b_1 b31_b_1 18446744073709551616
theorem at31_b_1 : Code.at [true, true, true, false, true, false] c31 = .loop (Code.at [true, true, true, false, true, false, false] c31) := by kernel_rfl
theorem s31_b_1_ok : SubOk P Go.Proofs.Try.f31.ntmps fx31_b (Code.at [true, true, true, false, true, false] c31) ⟨g31_b_1, o31_b_1, l31_b_1⟩ := by
  rw [at31_b_1]
  exact loop_ok (sub_ok (g := g31_b_1) (outs := ((.normal, g31_b_1) :: o31_b_1)) (f := b31_b_1) (Table.ok T54_ok _) hmix (planAt_ok (P := P) (n := Go.Proofs.Try.f31.ntmps) (fx := fx31_b) (c := (Code.at [true, true, true, false, true, false, false] c31)) (d := 64) (l := []) trivial) b31_b_1_eq) rfl _
noncomputable def f31_b (x : gi31_b.D) : Option go31_b.D :=
  (if ((decide (x.1 < (0 : Int))) = true) then (if ((List.length x.2.2.2.2.1) = (List.length x.2.2.2.2.1)) then (if ((List.length x.2.2.2.2.2.2.2.1) = (List.length x.2.2.2.2.2.2.2.1)) then (some ((8 : Int), (x.2.1, (x.2.2.1, (x.2.2.2.1, (x.2.2.2.2.1, (x.2.2.2.2.2.1, (x.2.2.2.2.2.2.1, (x.2.2.2.2.2.2.2.1, Unit.unit)))))))))
   else none)
   else none)
   else (if ((decide (x.1 ≥ (((List.length x.2.2.1) : Nat) : Int))) = true) then (if ((List.length x.2.2.2.2.1) = (List.length x.2.2.2.2.1)) then (if ((List.length x.2.2.2.2.2.2.2.1) = (List.length x.2.2.2.2.2.2.2.1)) then (some ((8 : Int), (x.2.1, (x.2.2.1, (x.2.2.2.1, (x.2.2.2.2.1, (x.2.2.2.2.2.1, (x.2.2.2.2.2.2.1, (x.2.2.2.2.2.2.2.1, Unit.unit)))))))))
   else none)
   else none)
   else (if ((0 : Int) ≤ x.1) then (if (x.1 < (((List.length x.2.2.1) : Nat) : Int)) then (if (((List.getD x.2.2.1 (Int.toNat x.1) (0 : Int)) == (0 : Int)) = true) then (if ((List.length x.2.2.2.2.1) = (List.length x.2.2.2.2.1)) then (if ((List.length x.2.2.2.2.2.2.2.1) = (List.length x.2.2.2.2.2.2.2.1)) then (some ((8 : Int), (x.2.1, (x.2.2.1, (x.2.2.2.1, (x.2.2.2.2.1, (x.2.2.2.2.2.1, (x.2.2.2.2.2.2.1, (x.2.2.2.2.2.2.2.1, Unit.unit)))))))))
   else none)
   else none)
   else (if ((0 : Int) ≤ x.1) then (if (x.1 < (((List.length x.2.2.1) : Nat) : Int)) then (if ((List.length x.2.2.2.2.1) = (List.length x.2.2.2.2.1)) then (if ((List.length x.2.2.2.2.2.2.2.1) = (List.length x.2.2.2.2.2.2.2.1)) then (Option.bind (Go.Ev.Deflate.l31_b_1 ((List.getD x.2.2.1 (Int.toNat x.1) (0 : Int)), ((0 : Int), (x.2.1, (x.2.2.1, (x.2.2.2.1, (x.2.2.2.2.1, (x.2.2.2.2.2.1, (x.2.2.2.2.2.2.1, (x.1, (x.2.2.2.2.2.2.2.1, Unit.unit))))))))))) (Sum.elim (fun y1 => (if ((List.length y1.2.2.2.1) = (List.length y1.2.2.2.1)) then (if ((List.length y1.2.2.2.2.2.2.1) = (List.length y1.2.2.2.2.2.2.1)) then (some ((0 : Int), (y1.1, (y1.2.1, (y1.2.2.1, (y1.2.2.2.1, (y1.2.2.2.2.1, (y1.2.2.2.2.2.1, (y1.2.2.2.2.2.2.1, Unit.unit)))))))))
   else none)
   else none)) (Sum.elim (fun y1 => (if ((List.length y1.2.2.2.2.1) = (List.length y1.2.2.2.2.1)) then (if ((List.length y1.2.2.2.2.2.2.2.1) = (List.length y1.2.2.2.2.2.2.2.1)) then (some (y1.1, (y1.2.1, (y1.2.2.1, (y1.2.2.2.1, (y1.2.2.2.2.1, (y1.2.2.2.2.2.1, (y1.2.2.2.2.2.2.1, (y1.2.2.2.2.2.2.2.1, Unit.unit)))))))))
   else none)
   else none)) Empty.elim)))
   else none)
   else none)
   else none)
   else none))
   else none)
   else none)))
theorem f31_b_eq (x : gi31_b.D) : f31_b x = evF P (T54.orc _) Go.Proofs.Try.f31.ntmps fx31_b c31 (planAt 64 [([true, true, true, false, true, false], ⟨g31_b_1, o31_b_1, l31_b_1⟩)]) gi31_b x (fnK fx31_b [go31_b]) := by kernel_rfl
theorem pf31_b : AllSub P Go.Proofs.Try.f31.ntmps fx31_b c31 [([true, true, true, false, true, false], ⟨g31_b_1, o31_b_1, l31_b_1⟩)] := And.intro s31_b_1_ok (trivial)
theorem qf31_b : PlanOk P Go.Proofs.Try.f31.ntmps fx31_b (planAt 64 [([true, true, true, false, true, false], ⟨g31_b_1, o31_b_1, l31_b_1⟩)]) c31 := planAt_ok pf31_b
theorem f31_b_ok : EntOk P 31 ⟨gi31_b, [go31_b], f31_b⟩ :=
  ent_ok (fn := Go.Proofs.Try.f31) (gi := gi31_b) (gos := [go31_b]) (f := f31_b) (c := c31) (fx := fx31_b) ⟨Go.Proofs.Try.func31, by kernel_rfl, rfl, by decide +kernel, rfl, rfl⟩ (by kernel_rfl) (Table.ok T54_ok _) hmix (qf31_b) f31_b_eq
noncomputable def T31 : Table := T54.add 31 [⟨gi31, [go31], f31⟩, ⟨gi31_b, [go31_b], f31_b⟩] []
theorem T31_ok : TableOk P T31 := Table.plus T54_ok (es := [⟨gi31, [go31], f31⟩, ⟨gi31_b, [go31_b], f31_b⟩]) ⟨f31_ok, f31_b_ok, trivial⟩ []

/-! ## 30: erasure/deflate.Put$2 -/
noncomputable def c30 : Code := Func.code Go.Proofs.Try.f30
abbrev gi30 : Sg := ⟨[0, 1, 2, 3], [.lf .nilp, .lf (.sl (.pair (.int .i64) (.pair (.int .i64) (.int .i64)))), .lf (.int .i64), .lf (.ptr 0 0)], [some (.box true [.lf (.ptr 1 0)]), some (.box true [.lf (.gr (.int .u8) 2), .lf (.int .i64), .lf (.int .i64)]), some (.arr true (.int .u8))]⟩
abbrev go30 : Sg := ⟨[], [], [some (.box true [.lf (.ptr 1 0)]), some (.box true [.lf (.gr (.int .u8) 3), .lf (.int .i64), .lf (.int .i64)]), none, some (.arr true (.int .u8))]⟩
def fx30 : List Bool := [true, true, false]
abbrev g30_1 : Sg := ⟨[0, 1, 2, 3, 7], [.lf .nilp, .lf (.sl (.pair (.int .i64) (.pair (.int .i64) (.int .i64)))), .lf (.int .i64), .lf (.ptr 0 0), .lf (.int .i64)], [some (.box true [.lf (.ptr 1 0)]), some (.box true [.lf (.gr (.int .u8) 3), .lf (.int .i64), .lf (.int .i64)]), none, some (.arr true (.int .u8))]⟩
abbrev o30_1 : Outs := [(.exit 0, ⟨[0, 1, 2, 3, 7], [.lf .nilp, .lf (.sl (.pair (.int .i64) (.pair (.int .i64) (.int .i64)))), .lf (.int .i64), .lf (.ptr 0 0), .lf (.int .i64)], [some (.box true [.lf (.ptr 1 0)]), some (.box true [.lf (.gr (.int .u8) 3), .lf (.int .i64), .lf (.int .i64)]), none, some (.arr true (.int .u8))]⟩)]
noncomputable def b30_1 (x : g30_1.D) : Option (outD ((.normal, g30_1) :: o30_1)) :=
  (if ((0 : Int) ≤ x.2.2.1) then (if (x.2.2.1 < (((List.length x.1) : Nat) : Int)) then (if ((decide ((List.getD x.1 (Int.toNat x.2.2.1) ((0 : Int), ((0 : Int), (0 : Int)))).2.1 > x.2.1)) = true) then (if ((List.length x.2.2.2.2.2.1) = (List.length x.2.2.2.2.2.1)) then (some (Sum.inl (x.1, (x.2.1, ((Go.IntKind.wrap Go.IntKind.i64 (x.2.2.1 - (1 : Int))), (x.2.2.2.1, (x.2.2.2.2.1, (x.2.2.2.2.2.1, Unit.unit))))))))
   else none)
   else (if ((List.length x.2.2.2.2.2.1) = (List.length x.2.2.2.2.2.1)) then (some (Sum.inr (Sum.inl (x.1, (x.2.1, (x.2.2.1, (x.2.2.2.1, (x.2.2.2.2.1, (x.2.2.2.2.2.1, Unit.unit)))))))))
   else none))
   else none)
   else none)
theorem b30_1_eq (x : g30_1.D) : b30_1 x = evF P (T31.orc _) Go.Proofs.Try.f30.ntmps fx30 (Code.at [true, false, false, false] c30) (planAt 64 []) g30_1 x (injK fx30 ((.normal, g30_1) :: o30_1) some) := by kernel_rfl
noncomputable def l30_1 : g30_1.D → Option (outD o30_1) := loopN g30_1 o30_1 b30_1 18446744073709551616
theorem at30_1 : Code.at [true, false, false] c30 = .loop (Code.at [true, false, false, false] c30) := by kernel_rfl
theorem s30_1_ok : SubOk P Go.Proofs.Try.f30.ntmps fx30 (Code.at [true, false, false] c30) ⟨g30_1, o30_1, l30_1⟩ := by
  rw [at30_1]
  exact loop_ok (sub_ok (g := g30_1) (outs := ((.normal, g30_1) :: o30_1)) (f := b30_1) (Table.ok T31_ok _) hmix (planAt_ok (P := P) (n := Go.Proofs.Try.f30.ntmps) (fx := fx30) (c := (Code.at [true, false, false, false] c30)) (d := 64) (l := []) trivial) b30_1_eq) rfl _
noncomputable def f30 (x : gi30.D) : Option go30.D :=
  (if ((List.length x.2.2.2.2.1) = (List.length x.2.2.2.2.1)) then (Option.bind (Go.Ev.Deflate.l30_1 (x.1, (x.2.1, ((Go.IntKind.wrap Go.IntKind.i64 ((((List.length x.1) : Nat) : Int) - (1 : Int))), (x.2.2.1, (x.2.2.2.1, (x.2.2.2.2.1, Unit.unit))))))) (Sum.elim (fun y1 => (if ((0 : Int) ≤ y1.2.2.1) then (if (y1.2.2.1 < (((List.length y1.1) : Nat) : Int)) then (if ((List.length y1.2.2.2.2.2.1) = (List.length y1.2.2.2.2.2.1)) then (Option.bind (Go.Ev.Deflate.f31 ((List.getD y1.1 (Int.toNat y1.2.2.1) ((0 : Int), ((0 : Int), (0 : Int)))).1, (y1.2.2.2.1, (y1.2.2.2.2.1, (y1.2.2.2.2.2.1, Unit.unit))))) (fun y2 => (if ((0 : Int) ≤ y1.2.2.1) then (if (y1.2.2.1 < (((List.length y1.1) : Nat) : Int)) then (if ((0 : Int) ≤ y1.2.2.1) then (if (y1.2.2.1 < (((List.length y1.1) : Nat) : Int)) then (if ((List.length y2.2.2.2.1) = (List.length y2.2.2.2.1)) then (Option.bind (Go.Ev.Deflate.f29 ((Go.IntKind.wrap Go.IntKind.i64 (y1.2.1 - (List.getD y1.1 (Int.toNat y1.2.2.1) ((0 : Int), ((0 : Int), (0 : Int)))).2.1)), ((List.getD y1.1 (Int.toNat y1.2.2.1) ((0 : Int), ((0 : Int), (0 : Int)))).2.2, (y2.2.1, (y2.2.2.1, (y2.2.2.2.1, Unit.unit)))))) (fun y3 => (if ((List.length y3.2.2.2.1) = (List.length y3.2.2.2.1)) then (some (y3.2.1, (y3.2.2.1, (y3.2.2.2.1, Unit.unit))))
   else none)))
   else none)
   else none)
   else none)
   else none)
   else none)))
   else none)
   else none)
   else none)) Empty.elim))
   else none)
theorem f30_eq (x : gi30.D) : f30 x = evF P (T31.orc _) Go.Proofs.Try.f30.ntmps fx30 c30 (planAt 64 [([true, false, false], ⟨g30_1, o30_1, l30_1⟩)]) gi30 x (fnK fx30 [go30]) := by kernel_rfl
theorem pf30 : AllSub P Go.Proofs.Try.f30.ntmps fx30 c30 [([true, false, false], ⟨g30_1, o30_1, l30_1⟩)] := And.intro s30_1_ok (trivial)
theorem qf30 : PlanOk P Go.Proofs.Try.f30.ntmps fx30 (planAt 64 [([true, false, false], ⟨g30_1, o30_1, l30_1⟩)]) c30 := planAt_ok pf30
theorem f30_ok : EntOk P 30 ⟨gi30, [go30], f30⟩ :=
  ent_ok (fn := Go.Proofs.Try.f30) (gi := gi30) (gos := [go30]) (f := f30) (c := c30) (fx := fx30) ⟨Go.Proofs.Try.func30, by kernel_rfl, rfl, by decide +kernel, rfl, rfl⟩ (by kernel_rfl) (Table.ok T31_ok _) hmix (qf30) f30_eq
abbrev gi30_b : Sg := ⟨[0, 1, 2, 3], [.lf (.ptr 0 0), .lf (.sl (.pair (.int .i64) (.pair (.int .i64) (.int .i64)))), .lf (.int .i64), .lf (.ptr 2 0)], [some (.box true [.many (.int .i64) 16, .lf (.sl (.int .i64)), .lf (.sl (.int .i64)), .lf (.gr (.int .i64) 1)]), some (.arr true (.int .i64)), some (.box true [.lf (.ptr 3 0)]), some (.box true [.lf (.gr (.int .u8) 4), .lf (.int .i64), .lf (.int .i64)]), some (.arr true (.int .u8))]⟩
abbrev go30_b : Sg := ⟨[], [], [some (.box true [.many (.int .i64) 16, .lf (.sl (.int .i64)), .lf (.sl (.int .i64)), .lf (.gr (.int .i64) 1)]), some (.arr true (.int .i64)), some (.box true [.lf (.ptr 3 0)]), some (.box true [.lf (.gr (.int .u8) 5), .lf (.int .i64), .lf (.int .i64)]), none, some (.arr true (.int .u8))]⟩
def fx30_b : List Bool := [true, true, true, true, false]
abbrev g30_b_1 : Sg := ⟨[0, 1, 2, 3, 7], [.lf (.ptr 0 0), .lf (.sl (.pair (.int .i64) (.pair (.int .i64) (.int .i64)))), .lf (.int .i64), .lf (.ptr 2 0), .lf (.int .i64)], [some (.box true [.many (.int .i64) 16, .lf (.sl (.int .i64)), .lf (.sl (.int .i64)), .lf (.gr (.int .i64) 1)]), some (.arr true (.int .i64)), some (.box true [.lf (.ptr 3 0)]), some (.box true [.lf (.gr (.int .u8) 5), .lf (.int .i64), .lf (.int .i64)]), none, some (.arr true (.int .u8))]⟩
abbrev o30_b_1 : Outs := [(.exit 0, ⟨[0, 1, 2, 3, 7], [.lf (.ptr 0 0), .lf (.sl (.pair (.int .i64) (.pair (.int .i64) (.int .i64)))), .lf (.int .i64), .lf (.ptr 2 0), .lf (.int .i64)], [some (.box true [.many (.int .i64) 16, .lf (.sl (.int .i64)), .lf (.sl (.int .i64)), .lf (.gr (.int .i64) 1)]), some (.arr true (.int .i64)), some (.box true [.lf (.ptr 3 0)]), some (.box true [.lf (.gr (.int .u8) 5), .lf (.int .i64), .lf (.int .i64)]), none, some (.arr true (.int .u8))]⟩)]
noncomputable def b30_b_1 (x : g30_b_1.D) : Option (outD ((.normal, g30_b_1) :: o30_b_1)) :=
  (if ((0 : Int) ≤ x.2.2.1) then (if (x.2.2.1 < (((List.length x.1) : Nat) : Int)) then (if ((decide ((List.getD x.1 (Int.toNat x.2.2.1) ((0 : Int), ((0 : Int), (0 : Int)))).2.1 > x.2.1)) = true) then (if ((List.length x.2.2.2.2.2.2.1) = (List.length x.2.2.2.2.2.2.1)) then (if ((List.length x.2.2.2.2.2.2.2.2.2.1) = (List.length x.2.2.2.2.2.2.2.2.2.1)) then (some (Sum.inl (x.1, (x.2.1, ((Go.IntKind.wrap Go.IntKind.i64 (x.2.2.1 - (1 : Int))), (x.2.2.2.1, (x.2.2.2.2.1, (x.2.2.2.2.2.1, (x.2.2.2.2.2.2.1, (x.2.2.2.2.2.2.2.1, (x.2.2.2.2.2.2.2.2.1, (x.2.2.2.2.2.2.2.2.2.1, Unit.unit))))))))))))
   else none)
   else none)
   else (if ((List.length x.2.2.2.2.2.2.1) = (List.length x.2.2.2.2.2.2.1)) then (if ((List.length x.2.2.2.2.2.2.2.2.2.1) = (List.length x.2.2.2.2.2.2.2.2.2.1)) then (some (Sum.inr (Sum.inl (x.1, (x.2.1, (x.2.2.1, (x.2.2.2.1, (x.2.2.2.2.1, (x.2.2.2.2.2.1, (x.2.2.2.2.2.2.1, (x.2.2.2.2.2.2.2.1, (x.2.2.2.2.2.2.2.2.1, (x.2.2.2.2.2.2.2.2.2.1, Unit.unit)))))))))))))
   else none)
   else none))
   else none)
   else none)
theorem b30_b_1_eq (x : g30_b_1.D) : b30_b_1 x = evF P (T31.orc _) Go.Proofs.Try.f30.ntmps fx30_b (Code.at [true, false, false, false] c30) (planAt 64 []) g30_b_1 x (injK fx30_b ((.normal, g30_b_1) :: o30_b_1) some) := by kernel_rfl
noncomputable def l30_b_1 : g30_b_1.D → Option (outD o30_b_1) := loopN g30_b_1 o30_b_1 b30_b_1 18446744073709551616
theorem at30_b_1 : Code.at [true, false, false] c30 = .loop (Code.at [true, false, false, false] c30) := by kernel_rfl
theorem s30_b_1_ok : SubOk P Go.Proofs.Try.f30.ntmps fx30_b (Code.at [true, false, false] c30) ⟨g30_b_1, o30_b_1, l30_b_1⟩ := by
  rw [at30_b_1]
  exact loop_ok (sub_ok (g := g30_b_1) (outs := ((.normal, g30_b_1) :: o30_b_1)) (f := b30_b_1) (Table.ok T31_ok _) hmix (planAt_ok (P := P) (n := Go.Proofs.Try.f30.ntmps) (fx := fx30_b) (c := (Code.at [true, false, false, false] c30)) (d := 64) (l := []) trivial) b30_b_1_eq) rfl _
noncomputable def f30_b (x : gi30_b.D) : Option go30_b.D :=
  (if ((List.length x.2.2.2.2.2.1) = (List.length x.2.2.2.2.2.1)) then (if ((List.length x.2.2.2.2.2.2.2.2.1) = (List.length x.2.2.2.2.2.2.2.2.1)) then (Option.bind (Go.Ev.Deflate.l30_b_1 (x.1, (x.2.1, ((Go.IntKind.wrap Go.IntKind.i64 ((((List.length x.1) : Nat) : Int) - (1 : Int))), (x.2.2.1, (x.2.2.2.1, (x.2.2.2.2.1, (x.2.2.2.2.2.1, (x.2.2.2.2.2.2.1, (x.2.2.2.2.2.2.2.1, (x.2.2.2.2.2.2.2.2.1, Unit.unit))))))))))) (Sum.elim (fun y1 => (if ((0 : Int) ≤ y1.2.2.1) then (if (y1.2.2.1 < (((List.length y1.1) : Nat) : Int)) then (if ((List.length y1.2.2.2.2.2.2.1) = (List.length y1.2.2.2.2.2.2.1)) then (if ((List.length y1.2.2.2.2.2.2.2.2.2.1) = (List.length y1.2.2.2.2.2.2.2.2.2.1)) then (Option.bind (Go.Ev.Deflate.f31_b ((List.getD y1.1 (Int.toNat y1.2.2.1) ((0 : Int), ((0 : Int), (0 : Int)))).1, (y1.2.2.2.1, (y1.2.2.2.2.1, (y1.2.2.2.2.2.1, (y1.2.2.2.2.2.2.1, (y1.2.2.2.2.2.2.2.1, (y1.2.2.2.2.2.2.2.2.1, (y1.2.2.2.2.2.2.2.2.2.1, Unit.unit))))))))) (fun y2 => (if ((0 : Int) ≤ y1.2.2.1) then (if (y1.2.2.1 < (((List.length y1.1) : Nat) : Int)) then (if ((0 : Int) ≤ y1.2.2.1) then (if (y1.2.2.1 < (((List.length y1.1) : Nat) : Int)) then (if ((List.length y2.2.2.2.2.2.2.2.1) = (List.length y2.2.2.2.2.2.2.2.1)) then (Option.bind (Go.Ev.Deflate.f29 ((Go.IntKind.wrap Go.IntKind.i64 (y1.2.1 - (List.getD y1.1 (Int.toNat y1.2.2.1) ((0 : Int), ((0 : Int), (0 : Int)))).2.1)), ((List.getD y1.1 (Int.toNat y1.2.2.1) ((0 : Int), ((0 : Int), (0 : Int)))).2.2, (y2.2.2.2.2.2.1, (y2.2.2.2.2.2.2.1, (y2.2.2.2.2.2.2.2.1, Unit.unit)))))) (fun y3 => (if ((List.length y2.2.2.2.2.1) = (List.length y2.2.2.2.2.1)) then (if ((List.length y3.2.2.2.1) = (List.length y3.2.2.2.1)) then (some (y2.2.1, (y2.2.2.1, (y2.2.2.2.1, (y2.2.2.2.2.1, (y3.2.1, (y3.2.2.1, (y3.2.2.2.1, Unit.unit))))))))
   else none)
   else none)))
   else none)
   else none)
   else none)
   else none)
   else none)))
   else none)
   else none)
   else none)
   else none)) Empty.elim))
   else none)
   else none)
theorem f30_b_eq (x : gi30_b.D) : f30_b x = evF P (T31.orc _) Go.Proofs.Try.f30.ntmps fx30_b c30 (planAt 64 [([true, false, false], ⟨g30_b_1, o30_b_1, l30_b_1⟩)]) gi30_b x (fnK fx30_b [go30_b]) := by kernel_rfl
theorem pf30_b : AllSub P Go.Proofs.Try.f30.ntmps fx30_b c30 [([true, false, false], ⟨g30_b_1, o30_b_1, l30_b_1⟩)] := And.intro s30_b_1_ok (trivial)
theorem qf30_b : PlanOk P Go.Proofs.Try.f30.ntmps fx30_b (planAt 64 [([true, false, false], ⟨g30_b_1, o30_b_1, l30_b_1⟩)]) c30 := planAt_ok pf30_b
theorem f30_b_ok : EntOk P 30 ⟨gi30_b, [go30_b], f30_b⟩ :=
  ent_ok (fn := Go.Proofs.Try.f30) (gi := gi30_b) (gos := [go30_b]) (f := f30_b) (c := c30) (fx := fx30_b) ⟨Go.Proofs.Try.func30, by kernel_rfl, rfl, by decide +kernel, rfl, rfl⟩ (by kernel_rfl) (Table.ok T31_ok _) hmix (qf30_b) f30_b_eq
noncomputable def T30 : Table := T31.add 30 [⟨gi30, [go30], f30⟩, ⟨gi30_b, [go30_b], f30_b⟩] []
theorem T30_ok : TableOk P T30 := Table.plus T31_ok (es := [⟨gi30, [go30], f30⟩, ⟨gi30_b, [go30_b], f30_b⟩]) ⟨f30_ok, f30_b_ok, trivial⟩ []

/-! ## 55: slices.Clone[[]byte,byte] -/
noncomputable def c55 : Code := Func.code Go.Proofs.Try.f55
abbrev gi55 : Sg := ⟨[0], [.lf (.sl (.int .u8))], []⟩
abbrev go55 : Sg := ⟨[2], [.lf (.gr (.int .u8) 0)], [some (.arr true (.int .u8))]⟩
def fx55 : List Bool := []
noncomputable def f55 (x : gi55.D) : Option go55.D :=
  (if ((List.length x.1) = (0 : Nat)) then (Go.Ev.amb (Go.Ev.Orc.eq (Go.Ev.Table.orcE Go.Ev.Deflate.T30 (Go.Ev.Sg.D Go.Ev.Deflate.go55) (Go.Ev.Sg.eq Go.Ev.Deflate.go55) (Go.Ev.Sg.eq_eq Go.Ev.Deflate.go55))) (some ([], Unit.unit)) (if (((0 : Nat) + (List.length x.1)) ≤ (140737488355328 : Nat)) then (if ((List.length ((List.take (0 : Nat) (List.drop (0 : Nat) (List.replicate (0 : Nat) (0 : Int)))) ++ x.1)) = (List.length ((List.take (0 : Nat) (List.drop (0 : Nat) (List.replicate (0 : Nat) (0 : Int)))) ++ x.1))) then (some (((List.take (0 : Nat) (List.drop (0 : Nat) (List.replicate (0 : Nat) (0 : Int)))) ++ x.1), Unit.unit))
   else none)
   else none))
   else (if (((0 : Nat) + (List.length x.1)) ≤ (140737488355328 : Nat)) then (if ((List.length ((List.take (0 : Nat) (List.drop (0 : Nat) (List.replicate (0 : Nat) (0 : Int)))) ++ x.1)) = (List.length ((List.take (0 : Nat) (List.drop (0 : Nat) (List.replicate (0 : Nat) (0 : Int)))) ++ x.1))) then (some (((List.take (0 : Nat) (List.drop (0 : Nat) (List.replicate (0 : Nat) (0 : Int)))) ++ x.1), Unit.unit))
   else none)
   else none))
theorem f55_eq (x : gi55.D) : f55 x = evF P (T30.orcE go55.D go55.eq go55.eq_eq) Go.Proofs.Try.f55.ntmps fx55 c55 (planAt 64 []) gi55 x (fnK fx55 [go55]) := by kernel_rfl
theorem f55_ok : EntOk P 55 ⟨gi55, [go55], f55⟩ :=
  ent_ok (fn := Go.Proofs.Try.f55) (gi := gi55) (gos := [go55]) (f := f55) (c := c55) (fx := fx55) ⟨Go.Proofs.Try.func55, by kernel_rfl, rfl, by decide +kernel, rfl, rfl⟩ (by kernel_rfl) (Table.okE T30_ok _ _ _) hmix (planAt_ok (P := P) (n := Go.Proofs.Try.f55.ntmps) (fx := fx55) (c := c55) (d := 64) (l := []) trivial) f55_eq
noncomputable def T55 : Table := T30.add 55 [⟨gi55, [go55], f55⟩] []
theorem T55_ok : TableOk P T55 := Table.plus T30_ok (es := [⟨gi55, [go55], f55⟩]) ⟨f55_ok, trivial⟩ []

/-! ## 34: (*erasure/bits.Writer).Bytes -/
noncomputable def c34 : Code := Func.code Go.Proofs.Try.f34
abbrev gi34 : Sg := ⟨[0], [.lf (.ptr 0 0)], [some (.box true [.lf (.gr (.int .u8) 1), .lf (.int .i64), .lf (.int .i64)]), some (.arr true (.int .u8))]⟩
abbrev go34 : Sg := ⟨[2], [.lf (.gr (.int .u8) 2)], [some (.box true [.lf (.gr (.int .u8) 1), .lf (.int .i64), .lf (.int .i64)]), some (.arr true (.int .u8)), some (.arr true (.int .u8))]⟩
def fx34 : List Bool := [true, true]
noncomputable def f34 (x : gi34.D) : Option go34.D :=
  (Option.bind (Go.Ev.Deflate.f55 ((List.take (List.length x.2.2.1) (List.drop (0 : Nat) x.2.2.1)), Unit.unit)) (fun y1 => (if ((decide (x.2.1 > (0 : Int))) = true) then (if (((List.length (List.take (List.length y1.1) (List.drop (0 : Nat) y1.1))) + (List.length (List.take (1 : Nat) (List.drop (0 : Nat) (List.set (List.replicate (1 : Nat) (0 : Int)) (0 : Nat) (Go.IntKind.wrap Go.IntKind.u8 x.1)))))) ≤ (140737488355328 : Nat)) then (if ((List.length ((List.take (List.length y1.1) (List.drop (0 : Nat) y1.1)) ++ (List.take (1 : Nat) (List.drop (0 : Nat) (List.set (List.replicate (1 : Nat) (0 : Int)) (0 : Nat) (Go.IntKind.wrap Go.IntKind.u8 x.1)))))) = (List.length ((List.take (List.length y1.1) (List.drop (0 : Nat) y1.1)) ++ (List.take (1 : Nat) (List.drop (0 : Nat) (List.set (List.replicate (1 : Nat) (0 : Int)) (0 : Nat) (Go.IntKind.wrap Go.IntKind.u8 x.1))))))) then (if ((List.length x.2.2.1) = (List.length x.2.2.1)) then (some (x.1, (x.2.1, (x.2.2.1, (((List.take (List.length y1.1) (List.drop (0 : Nat) y1.1)) ++ (List.take (1 : Nat) (List.drop (0 : Nat) (List.set (List.replicate (1 : Nat) (0 : Int)) (0 : Nat) (Go.IntKind.wrap Go.IntKind.u8 x.1))))), Unit.unit)))))
   else none)
   else none)
   else none)
   else (if ((List.length y1.1) = (List.length y1.1)) then (if ((List.length x.2.2.1) = (List.length x.2.2.1)) then (some (x.1, (x.2.1, (x.2.2.1, (y1.1, Unit.unit)))))
   else none)
   else none))))
theorem f34_eq (x : gi34.D) : f34 x = evF P (T55.orc _) Go.Proofs.Try.f34.ntmps fx34 c34 (planAt 64 []) gi34 x (fnK fx34 [go34]) := by kernel_rfl
theorem f34_ok : EntOk P 34 ⟨gi34, [go34], f34⟩ :=
  ent_ok (fn := Go.Proofs.Try.f34) (gi := gi34) (gos := [go34]) (f := f34) (c := c34) (fx := fx34) ⟨Go.Proofs.Try.func34, by kernel_rfl, rfl, by decide +kernel, rfl, rfl⟩ (by kernel_rfl) (Table.ok T55_ok _) hmix (planAt_ok (P := P) (n := Go.Proofs.Try.f34.ntmps) (fx := fx34) (c := c34) (d := 64) (l := []) trivial) f34_eq
noncomputable def T34 : Table := T55.add 34 [⟨gi34, [go34], f34⟩] []
theorem T34_ok : TableOk P T34 := Table.plus T55_ok (es := [⟨gi34, [go34], f34⟩]) ⟨f34_ok, trivial⟩ []

/-! ## 11: erasure/deflate.Put -/
noncomputable def c11 : Code := Func.code Go.Proofs.Try.f11
abbrev gi11 : Sg := ⟨[0], [.lf (.sl (.pair (.int .i64) (.pair (.int .i64) (.int .i64))))], []⟩
abbrev go11 : Sg := ⟨[2, 3], [.lf (.gr (.int .u8) 0), .lf (.int .i64)], [some (.arr true (.int .u8))]⟩
def fx11 : List Bool := []
abbrev g11_2 : Sg := ⟨[4, 6, 7, 8, 9, 10, 38, 39, 40], [.lf (.ptr 0 0), .lf (.ptr 1 0), .lf (.ptr 2 0), .lf (.fnc 30 [(.ptr 2 0)]), .lf (.sl (.pair (.int .i64) (.pair (.int .i64) (.int .i64)))), .lf (.sl (.pair (.int .i64) (.pair (.int .i64) (.int .i64)))), .lf (.sl (.pair (.int .i64) (.pair (.int .i64) (.int .i64)))), .lf (.int .i64), .lf (.int .i64)], [some (.box true [.many (.int .i64) 16, .lf (.sl (.int .i64)), .lf (.sl (.int .i64)), .lf (.gr (.int .i64) 3)]), some (.box true [.many (.int .i64) 16, .lf (.sl (.int .i64)), .lf (.sl (.int .i64)), .lf (.gr (.int .i64) 4)]), some (.box true [.lf (.ptr 5 0)]), some (.arr true (.int .i64)), some (.arr true (.int .i64)), some (.box true [.lf (.gr (.int .u8) 6), .lf (.int .i64), .lf (.int .i64)]), some (.arr true (.int .u8))]⟩
abbrev o11_2 : Outs := [(.exit 0, ⟨[4, 7], [.lf (.ptr 0 0), .lf (.ptr 1 0)], [some (.box true [.many (.int .i64) 16, .lf (.sl (.int .i64)), .lf (.sl (.int .i64)), .lf (.gr (.int .i64) 2)]), some (.box true [.lf (.ptr 3 0)]), some (.arr true (.int .i64)), some (.box true [.lf (.gr (.int .u8) 4), .lf (.int .i64), .lf (.int .i64)]), some (.arr true (.int .u8))]⟩)]
noncomputable def b11_2 (x : g11_2.D) : Option (outD ((.normal, g11_2) :: o11_2)) :=
  (if ((decide (x.2.2.2.2.1 < x.2.2.2.1)) = true) then (if ((0 : Int) ≤ x.2.2.2.2.1) then (if (x.2.2.2.2.1 < (((List.length x.2.2.1) : Nat) : Int)) then (if (((List.getD x.2.2.1 (Int.toNat x.2.2.2.2.1) ((0 : Int), ((0 : Int), (0 : Int)))).2.1 == (0 : Int)) = true) then (if ((List.length x.2.2.2.2.2.2.2.2.2.2.2.1) = (List.length x.2.2.2.2.2.2.2.2.2.2.2.1)) then (if ((List.length x.2.2.2.2.2.2.2.2.2.2.2.2.2.2.2.1) = (List.length x.2.2.2.2.2.2.2.2.2.2.2.2.2.2.2.1)) then (Option.bind (Go.Ev.Deflate.f31_b ((List.getD x.2.2.1 (Int.toNat x.2.2.2.2.1) ((0 : Int), ((0 : Int), (0 : Int)))).1, (x.2.2.2.2.2.1, (x.2.2.2.2.2.2.1, (x.2.2.2.2.2.2.2.1, (x.2.2.2.2.2.2.2.2.2.2.2.1, (x.2.2.2.2.2.2.2.2.2.2.2.2.2.1, (x.2.2.2.2.2.2.2.2.2.2.2.2.2.2.1, (x.2.2.2.2.2.2.2.2.2.2.2.2.2.2.2.1, Unit.unit))))))))) (fun y1 => (if ((List.length y1.2.2.2.2.1) = (List.length y1.2.2.2.2.1)) then (if ((List.length x.2.2.2.2.2.2.2.2.2.2.2.2.1) = (List.length x.2.2.2.2.2.2.2.2.2.2.2.2.1)) then (if ((List.length y1.2.2.2.2.2.2.2.1) = (List.length y1.2.2.2.2.2.2.2.1)) then (some (Sum.inl (x.1, (x.2.1, (x.2.2.1, (x.2.2.2.1, ((Go.IntKind.wrap Go.IntKind.i64 (x.2.2.2.2.1 + (1 : Int))), (y1.2.1, (y1.2.2.1, (y1.2.2.2.1, (x.2.2.2.2.2.2.2.2.1, (x.2.2.2.2.2.2.2.2.2.1, (x.2.2.2.2.2.2.2.2.2.2.1, (y1.2.2.2.2.1, (x.2.2.2.2.2.2.2.2.2.2.2.2.1, (y1.2.2.2.2.2.1, (y1.2.2.2.2.2.2.1, (y1.2.2.2.2.2.2.2.1, Unit.unit))))))))))))))))))
   else none)
   else none)
   else none)))
   else none)
   else none)
   else (if ((List.length x.2.2.2.2.2.2.2.2.2.2.2.1) = (List.length x.2.2.2.2.2.2.2.2.2.2.2.1)) then (if ((List.length x.2.2.2.2.2.2.2.2.2.2.2.2.2.2.2.1) = (List.length x.2.2.2.2.2.2.2.2.2.2.2.2.2.2.2.1)) then (Option.bind (Go.Ev.Deflate.f30_b (x.1, ((List.getD x.2.2.1 (Int.toNat x.2.2.2.2.1) ((0 : Int), ((0 : Int), (0 : Int)))).2.1, (x.2.2.2.2.2.1, (x.2.2.2.2.2.2.1, (x.2.2.2.2.2.2.2.1, (x.2.2.2.2.2.2.2.2.2.2.2.1, (x.2.2.2.2.2.2.2.2.2.2.2.2.2.1, (x.2.2.2.2.2.2.2.2.2.2.2.2.2.2.1, (x.2.2.2.2.2.2.2.2.2.2.2.2.2.2.2.1, Unit.unit)))))))))) (fun y1 => (if ((List.length x.2.2.2.2.2.2.2.2.2.2.2.2.1) = (List.length x.2.2.2.2.2.2.2.2.2.2.2.2.1)) then (if ((List.length y1.2.2.2.2.2.2.1) = (List.length y1.2.2.2.2.2.2.1)) then (Option.bind (Go.Ev.Deflate.f30_b (x.2.1, ((List.getD x.2.2.1 (Int.toNat x.2.2.2.2.1) ((0 : Int), ((0 : Int), (0 : Int)))).2.2, (x.2.2.2.2.2.2.2.2.1, (x.2.2.2.2.2.2.2.2.2.1, (x.2.2.2.2.2.2.2.2.2.2.1, (x.2.2.2.2.2.2.2.2.2.2.2.2.1, (y1.2.2.2.2.1, (y1.2.2.2.2.2.1, (y1.2.2.2.2.2.2.1, Unit.unit)))))))))) (fun y2 => (if ((List.length y1.2.2.2.1) = (List.length y1.2.2.2.1)) then (if ((List.length y2.2.2.2.1) = (List.length y2.2.2.2.1)) then (if ((List.length y2.2.2.2.2.2.2.1) = (List.length y2.2.2.2.2.2.2.1)) then (some (Sum.inl (x.1, (x.2.1, (x.2.2.1, (x.2.2.2.1, ((Go.IntKind.wrap Go.IntKind.i64 (x.2.2.2.2.1 + (1 : Int))), (y1.1, (y1.2.1, (y1.2.2.1, (y2.1, (y2.2.1, (y2.2.2.1, (y1.2.2.2.1, (y2.2.2.2.1, (y2.2.2.2.2.1, (y2.2.2.2.2.2.1, (y2.2.2.2.2.2.2.1, Unit.unit))))))))))))))))))
   else none)
   else none)
   else none)))
   else none)
   else none)))
   else none)
   else none))
   else none)
   else none)
   else (if ((List.length x.2.2.2.2.2.2.2.2.2.2.2.1) = (List.length x.2.2.2.2.2.2.2.2.2.2.2.1)) then (if ((List.length x.2.2.2.2.2.2.2.2.2.2.2.2.2.2.2.1) = (List.length x.2.2.2.2.2.2.2.2.2.2.2.2.2.2.2.1)) then (some (Sum.inr (Sum.inl (x.2.2.2.2.2.1, (x.2.2.2.2.2.2.1, (x.2.2.2.2.2.2.2.1, (x.2.2.2.2.2.2.2.2.2.2.2.1, (x.2.2.2.2.2.2.2.2.2.2.2.2.2.1, (x.2.2.2.2.2.2.2.2.2.2.2.2.2.2.1, (x.2.2.2.2.2.2.2.2.2.2.2.2.2.2.2.1, Unit.unit))))))))))
   else none)
   else none))
theorem b11_2_eq (x : g11_2.D) : b11_2 x = evF P (T34.orc _) Go.Proofs.Try.f11.ntmps fx11 (Code.at [true, true, true, true, true, true, true, true, true, true, false, true, false, false] c11) (planAt 64 []) g11_2 x (injK fx11 ((.normal, g11_2) :: o11_2) some) := by kernel_rfl
noncomputable def l11_2 : g11_2.D → Option (outD o11_2) := loopN g11_2 o11_2 b11_2 18446744073709551616
theorem at11_2 : Code.at [true, true, true, true, true, true, true, true, true, true, false, true, false] c11 = .loop (Code.at [true, true, true, true, true, true, true, true, true, true, false, true, false, false] c11) := by kernel_rfl
theorem s11_2_ok : SubOk P Go.Proofs.Try.f11.ntmps fx11 (Code.at [true, true, true, true, true, true, true, true, true, true, false, true, false] c11) ⟨g11_2, o11_2, l11_2⟩ := by
  rw [at11_2]
  exact loop_ok (sub_ok (g := g11_2) (outs := ((.normal, g11_2) :: o11_2)) (f := b11_2) (Table.ok T34_ok _) hmix (planAt_ok (P := P) (n := Go.Proofs.Try.f11.ntmps) (fx := fx11) (c := (Code.at [true, true, true, true, true, true, true, true, true, true, false, true, false, false] c11)) (d := 64) (l := []) trivial) b11_2_eq) rfl _
abbrev g11_1 : Sg := ⟨[0], [.lf (.sl (.pair (.int .i64) (.pair (.int .i64) (.int .i64))))], []⟩
abbrev o11_1 : Outs := [(.normal, ⟨[0, 4, 5], [.lf (.sl (.pair (.int .i64) (.pair (.int .i64) (.int .i64)))), .lf .nilp, .lf (.int .i64)], []⟩), (.normal, ⟨[0, 4, 5], [.lf (.sl (.pair (.int .i64) (.pair (.int .i64) (.int .i64)))), .lf (.ptr 0 0), .lf (.int .i64)], [some (.box true [.many (.int .i64) 16, .lf (.sl (.int .i64)), .lf (.sl (.int .i64)), .lf (.gr (.int .i64) 1)]), some (.arr true (.int .i64))]⟩)]
noncomputable def b11_1 (x : g11_1.D) : Option (outD o11_1) :=
  (Option.bind (Go.Ev.Deflate.f26 Unit.unit) (fun y1 => (Option.bind (Go.Ev.Deflate.f25 ((List.take (List.length y1.1) (List.drop (0 : Nat) y1.1)), Unit.unit)) (Sum.elim (fun y2 => (some (Sum.inl (x.1, (y2.1, Unit.unit))))) (fun y2 => (if ((List.length y2.2.2.2.2.1) = (List.length y2.2.2.2.2.1)) then (some (Sum.inr (Sum.inl (x.1, (y2.1, (y2.2.1, (y2.2.2.1, (y2.2.2.2.1, (y2.2.2.2.2.1, Unit.unit)))))))))
   else none))))))
theorem b11_1_eq (x : g11_1.D) : b11_1 x = evF P (T34.orc _) Go.Proofs.Try.f11.ntmps fx11 (Code.at [true, true, false] c11) (planAt 64 []) g11_1 x (injK fx11 o11_1 some) := by kernel_rfl
theorem s11_1_ok : SubOk P Go.Proofs.Try.f11.ntmps fx11 (Code.at [true, true, false] c11) ⟨g11_1, o11_1, b11_1⟩ :=
  sub_ok (g := g11_1) (outs := o11_1) (f := b11_1) (Table.ok T34_ok _) hmix (planAt_ok (P := P) (n := Go.Proofs.Try.f11.ntmps) (fx := fx11) (c := (Code.at [true, true, false] c11)) (d := 64) (l := []) trivial) b11_1_eq
noncomputable def f11 (x : gi11.D) : Option go11.D :=
  (Option.bind (Go.Ev.Deflate.f22 (x.1, Unit.unit)) (fun y1 => (if (y1.1 = true) then (some ((1 : Int), ([], Unit.unit)))
   else (Option.bind (Go.Ev.Deflate.b11_1 (x.1, Unit.unit)) (Sum.elim (fun y2 => (if ((y2.2.1 != (0 : Int)) = true) then (some (y2.2.1, ([], Unit.unit)))
   else (Option.bind (Go.Ev.Deflate.f27 ((List.take (1 : Nat) (List.drop (0 : Nat) (List.set (List.replicate (1 : Nat) (0 : Int)) (0 : Nat) (5 : Int)))), ((32 : Int), Unit.unit))) (fun y3 => (Option.bind (Go.Ev.Deflate.f25 ((List.take (List.length y3.1) (List.drop (0 : Nat) y3.1)), Unit.unit)) (Sum.elim (fun y4 => (if ((y4.1 != (0 : Int)) = true) then (some (y4.1, ([], Unit.unit)))
   else (Option.bind (Go.Ev.Deflate.f28 Unit.unit) (fun y5 => (if ((List.length y5.2.2.1) = (List.length y5.2.2.1)) then (Option.bind (Go.Ev.Deflate.f29 ((3 : Int), ((3 : Int), (y5.1, (y5.2.1, (y5.2.2.1, Unit.unit)))))) (fun _ => (Option.bind (Go.Ev.Deflate.f32 Unit.unit) (fun _ => (Option.bind (Go.Ev.Deflate.f33 Unit.unit) (fun _ => none))))))
   else none))))) (fun y4 => (if ((y4.1 != (0 : Int)) = true) then (some (y4.1, ([], Unit.unit)))
   else (Option.bind (Go.Ev.Deflate.f28 Unit.unit) (fun y5 => (if ((List.length y5.2.2.1) = (List.length y5.2.2.1)) then (Option.bind (Go.Ev.Deflate.f29 ((3 : Int), ((3 : Int), (y5.1, (y5.2.1, (y5.2.2.1, Unit.unit)))))) (fun _ => (Option.bind (Go.Ev.Deflate.f32 Unit.unit) (fun _ => (Option.bind (Go.Ev.Deflate.f33 Unit.unit) (fun _ => none))))))
   else none))))))))))) (Sum.elim (fun y2 => (if ((y2.2.1 != (0 : Int)) = true) then (some (y2.2.1, ([], Unit.unit)))
   else (Option.bind (Go.Ev.Deflate.f27 ((List.take (1 : Nat) (List.drop (0 : Nat) (List.set (List.replicate (1 : Nat) (0 : Int)) (0 : Nat) (5 : Int)))), ((32 : Int), Unit.unit))) (fun y3 => (Option.bind (Go.Ev.Deflate.f25 ((List.take (List.length y3.1) (List.drop (0 : Nat) y3.1)), Unit.unit)) (Sum.elim (fun y4 => (if ((y4.1 != (0 : Int)) = true) then (some (y4.1, ([], Unit.unit)))
   else (Option.bind (Go.Ev.Deflate.f28 Unit.unit) (fun y5 => (if ((List.length y5.2.2.1) = (List.length y5.2.2.1)) then (Option.bind (Go.Ev.Deflate.f29 ((3 : Int), ((3 : Int), (y5.1, (y5.2.1, (y5.2.2.1, Unit.unit)))))) (fun _ => (Option.bind (Go.Ev.Deflate.f32 Unit.unit) (fun _ => (Option.bind (Go.Ev.Deflate.f33 Unit.unit) (fun _ => none))))))
   else none))))) (fun y4 => (if ((y4.1 != (0 : Int)) = true) then (some (y4.1, ([], Unit.unit)))
   else (Option.bind (Go.Ev.Deflate.f28 Unit.unit) (fun y5 => (if ((List.length y5.2.2.1) = (List.length y5.2.2.1)) then (Option.bind (Go.Ev.Deflate.f29 ((3 : Int), ((3 : Int), (y5.1, (y5.2.1, (y5.2.2.1, Unit.unit)))))) (fun y6 => (Option.bind (Go.Ev.Deflate.f32 Unit.unit) (fun y7 => (Option.bind (Go.Ev.Deflate.f33 Unit.unit) (fun y8 => (if ((List.length y2.2.2.2.2.2.1) = (List.length y2.2.2.2.2.2.1)) then (if ((List.length y4.2.2.2.2.1) = (List.length y4.2.2.2.2.1)) then (if ((List.length y6.2.2.2.1) = (List.length y6.2.2.2.1)) then (Option.bind (Go.Ev.Deflate.l11_2 ((List.take (List.length y7.1) (List.drop (0 : Nat) y7.1)), ((List.take (List.length y8.1) (List.drop (0 : Nat) y8.1)), (y2.1, ((((List.length y2.1) : Nat) : Int), ((0 : Int), (y2.2.2.1, (y2.2.2.2.1, (y2.2.2.2.2.1, (y4.2.1, (y4.2.2.1, (y4.2.2.2.1, (y2.2.2.2.2.2.1, (y4.2.2.2.2.1, (y6.2.1, (y6.2.2.1, (y6.2.2.2.1, Unit.unit))))))))))))))))) (Sum.elim (fun y9 => (if ((List.length y9.2.2.2.1) = (List.length y9.2.2.2.1)) then (if ((List.length y9.2.2.2.2.2.2.1) = (List.length y9.2.2.2.2.2.2.1)) then (Option.bind (Go.Ev.Deflate.f31_b ((256 : Int), (y9.1, (y9.2.1, (y9.2.2.1, (y9.2.2.2.1, (y9.2.2.2.2.1, (y9.2.2.2.2.2.1, (y9.2.2.2.2.2.2.1, Unit.unit))))))))) (fun y10 => (if ((List.length y10.2.2.2.2.2.2.2.1) = (List.length y10.2.2.2.2.2.2.2.1)) then (Option.bind (Go.Ev.Deflate.f34 (y10.2.2.2.2.2.1, (y10.2.2.2.2.2.2.1, (y10.2.2.2.2.2.2.2.1, Unit.unit)))) (fun y11 => (if ((List.length y11.2.2.2.1) = (List.length y11.2.2.2.1)) then (some ((0 : Int), (y11.2.2.2.1, Unit.unit)))
   else none)))
   else none)))
   else none)
   else none)) Empty.elim))
   else none)
   else none)
   else none)))))))
   else none))))))))))) Empty.elim))))))
theorem f11_eq (x : gi11.D) : f11 x = evF P (T34.orc _) Go.Proofs.Try.f11.ntmps fx11 c11 (planAt 64 [([true, true, false], ⟨g11_1, o11_1, b11_1⟩), ([true, true, true, true, true, true, true, true, true, true, false, true, false], ⟨g11_2, o11_2, l11_2⟩)]) gi11 x (fnK fx11 [go11]) := by kernel_rfl
theorem pf11 : AllSub P Go.Proofs.Try.f11.ntmps fx11 c11 [([true, true, false], ⟨g11_1, o11_1, b11_1⟩), ([true, true, true, true, true, true, true, true, true, true, false, true, false], ⟨g11_2, o11_2, l11_2⟩)] := And.intro s11_1_ok (And.intro s11_2_ok (trivial))
theorem qf11 : PlanOk P Go.Proofs.Try.f11.ntmps fx11 (planAt 64 [([true, true, false], ⟨g11_1, o11_1, b11_1⟩), ([true, true, true, true, true, true, true, true, true, true, false, true, false], ⟨g11_2, o11_2, l11_2⟩)]) c11 := planAt_ok pf11
theorem f11_ok : EntOk P 11 ⟨gi11, [go11], f11⟩ :=
  ent_ok (fn := Go.Proofs.Try.f11) (gi := gi11) (gos := [go11]) (f := f11) (c := c11) (fx := fx11) ⟨Go.Proofs.Try.func11, by kernel_rfl, rfl, by decide +kernel, rfl, rfl⟩ (by kernel_rfl) (Table.ok T34_ok _) hmix (qf11) f11_eq
noncomputable def T11 : Table := T34.add 11 [⟨gi11, [go11], f11⟩] []
theorem T11_ok : TableOk P T11 := Table.plus T34_ok (es := [⟨gi11, [go11], f11⟩]) ⟨f11_ok, trivial⟩ []

/-! ## 35: erasure/erasureref05.Fixed -/
noncomputable def c35 : Code := Func.code Go.Proofs.Try.f35
abbrev gi35 : Sg := ⟨[], [], []⟩
abbrev go35 : Sg := ⟨[0], [.lf (.gr (.int .i64) 0)], [some (.arr true (.int .i64))]⟩
def fx35 : List Bool := []
abbrev g35_2 : Sg := ⟨[1, 2, 3], [.lf (.gr (.int .i64) 0), .lf (.int .i64), .lf (.int .i64)], [some (.arr true (.int .i64))]⟩
abbrev o35_2 : Outs := [(.normal, ⟨[1, 2, 3], [.lf (.gr (.int .i64) 0), .lf (.int .i64), .lf (.int .i64)], [some (.arr true (.int .i64))]⟩)]
noncomputable def b35_2 (x : g35_2.D) : Option (outD o35_2) :=
  (if ((decide (x.1 > (143 : Int))) = true) then (if ((decide (x.1 < (256 : Int))) = true) then (if ((List.length x.2.2.1) = (List.length x.2.2.1)) then (some (Sum.inl (x.1, ((9 : Int), (x.2.2.1, Unit.unit)))))
   else none)
   else (if ((List.length x.2.2.1) = (List.length x.2.2.1)) then (some (Sum.inl (x.1, (x.2.1, (x.2.2.1, Unit.unit)))))
   else none))
   else (if ((List.length x.2.2.1) = (List.length x.2.2.1)) then (some (Sum.inl (x.1, (x.2.1, (x.2.2.1, Unit.unit)))))
   else none))
theorem b35_2_eq (x : g35_2.D) : b35_2 x = evF P (T11.orc _) Go.Proofs.Try.f35.ntmps fx35 (Code.at [true, true, false, true, false, false, true, false, false, true, false] c35) (planAt 64 []) g35_2 x (injK fx35 o35_2 some) := by kernel_rfl
theorem s35_2_ok : SubOk P Go.Proofs.Try.f35.ntmps fx35 (Code.at [true, true, false, true, false, false, true, false, false, true, false] c35) ⟨g35_2, o35_2, b35_2⟩ :=
  sub_ok (g := g35_2) (outs := o35_2) (f := b35_2) (Table.ok T11_ok _) hmix (planAt_ok (P := P) (n := Go.Proofs.Try.f35.ntmps) (fx := fx35) (c := (Code.at [true, true, false, true, false, false, true, false, false, true, false] c35)) (d := 64) (l := []) trivial) b35_2_eq
abbrev g35_1 : Sg := ⟨[1, 2], [.lf (.gr (.int .i64) 0), .lf (.int .i64)], [some (.arr true (.int .i64))]⟩
abbrev o35_1 : Outs := [(.exit 0, ⟨[1], [.lf (.gr (.int .i64) 0)], [some (.arr true (.int .i64))]⟩)]
noncomputable def b35_1 (x : g35_1.D) : Option (outD ((.normal, g35_1) :: o35_1)) :=
  (if ((decide (x.1 < (288 : Int))) = true) then (if ((List.length x.2.1) = (List.length x.2.1)) then (Option.bind (Go.Ev.Deflate.b35_2 (x.1, ((8 : Int), (x.2.1, Unit.unit)))) (Sum.elim (fun y1 => (if ((decide (y1.1 > (255 : Int))) = true) then (if ((decide (y1.1 < (280 : Int))) = true) then (if (((List.length (List.take (List.length y1.2.2.1) (List.drop (0 : Nat) y1.2.2.1))) + (1 : Nat)) ≤ (17592186044416 : Nat)) then (if ((List.length ((List.take (List.length y1.2.2.1) (List.drop (0 : Nat) y1.2.2.1)) ++ (List.take (1 : Nat) (List.drop (0 : Nat) (List.set (List.replicate (1 : Nat) (0 : Int)) (0 : Nat) (7 : Int)))))) = (List.length ((List.take (List.length y1.2.2.1) (List.drop (0 : Nat) y1.2.2.1)) ++ (List.take (1 : Nat) (List.drop (0 : Nat) (List.set (List.replicate (1 : Nat) (0 : Int)) (0 : Nat) (7 : Int))))))) then (some (Sum.inl ((Go.IntKind.wrap Go.IntKind.i64 (y1.1 + (1 : Int))), (((List.take (List.length y1.2.2.1) (List.drop (0 : Nat) y1.2.2.1)) ++ (List.take (1 : Nat) (List.drop (0 : Nat) (List.set (List.replicate (1 : Nat) (0 : Int)) (0 : Nat) (7 : Int))))), Unit.unit))))
   else none)
   else none)
   else (if (((List.length (List.take (List.length y1.2.2.1) (List.drop (0 : Nat) y1.2.2.1))) + (List.length (List.take (1 : Nat) (List.drop (0 : Nat) (List.set (List.replicate (1 : Nat) (0 : Int)) (0 : Nat) y1.2.1))))) ≤ (17592186044416 : Nat)) then (if ((List.length ((List.take (List.length y1.2.2.1) (List.drop (0 : Nat) y1.2.2.1)) ++ (List.take (1 : Nat) (List.drop (0 : Nat) (List.set (List.replicate (1 : Nat) (0 : Int)) (0 : Nat) y1.2.1))))) = (List.length ((List.take (List.length y1.2.2.1) (List.drop (0 : Nat) y1.2.2.1)) ++ (List.take (1 : Nat) (List.drop (0 : Nat) (List.set (List.replicate (1 : Nat) (0 : Int)) (0 : Nat) y1.2.1)))))) then (some (Sum.inl ((Go.IntKind.wrap Go.IntKind.i64 (y1.1 + (1 : Int))), (((List.take (List.length y1.2.2.1) (List.drop (0 : Nat) y1.2.2.1)) ++ (List.take (1 : Nat) (List.drop (0 : Nat) (List.set (List.replicate (1 : Nat) (0 : Int)) (0 : Nat) y1.2.1)))), Unit.unit))))
   else none)
   else none))
   else (if (((List.length (List.take (List.length y1.2.2.1) (List.drop (0 : Nat) y1.2.2.1))) + (List.length (List.take (1 : Nat) (List.drop (0 : Nat) (List.set (List.replicate (1 : Nat) (0 : Int)) (0 : Nat) y1.2.1))))) ≤ (17592186044416 : Nat)) then (if ((List.length ((List.take (List.length y1.2.2.1) (List.drop (0 : Nat) y1.2.2.1)) ++ (List.take (1 : Nat) (List.drop (0 : Nat) (List.set (List.replicate (1 : Nat) (0 : Int)) (0 : Nat) y1.2.1))))) = (List.length ((List.take (List.length y1.2.2.1) (List.drop (0 : Nat) y1.2.2.1)) ++ (List.take (1 : Nat) (List.drop (0 : Nat) (List.set (List.replicate (1 : Nat) (0 : Int)) (0 : Nat) y1.2.1)))))) then (some (Sum.inl ((Go.IntKind.wrap Go.IntKind.i64 (y1.1 + (1 : Int))), (((List.take (List.length y1.2.2.1) (List.drop (0 : Nat) y1.2.2.1)) ++ (List.take (1 : Nat) (List.drop (0 : Nat) (List.set (List.replicate (1 : Nat) (0 : Int)) (0 : Nat) y1.2.1)))), Unit.unit))))
   else none)
   else none))) Empty.elim))
   else none)
   else (if ((List.length x.2.1) = (List.length x.2.1)) then (some (Sum.inr (Sum.inl (x.2.1, Unit.unit))))
   else none))
theorem b35_1_eq (x : g35_1.D) : b35_1 x = evF P (T11.orc _) Go.Proofs.Try.f35.ntmps fx35 (Code.at [true, true, false, true, false, false] c35) (planAt 64 [([true, false, false, true, false], ⟨g35_2, o35_2, b35_2⟩)]) g35_1 x (injK fx35 ((.normal, g35_1) :: o35_1) some) := by kernel_rfl
noncomputable def l35_1 : g35_1.D → Option (outD o35_1) := loopN g35_1 o35_1 b35_1 18446744073709551616
theorem p35_1 : AllSub P Go.Proofs.Try.f35.ntmps fx35 (Code.at [true, true, false, true, false, false] c35) [([true, false, false, true, false], ⟨g35_2, o35_2, b35_2⟩)] := And.intro s35_2_ok (trivial)
theorem q35_1 : PlanOk P Go.Proofs.Try.f35.ntmps fx35 (planAt 64 [([true, false, false, true, false], ⟨g35_2, o35_2, b35_2⟩)]) (Code.at [true, true, false, true, false, false] c35) := planAt_ok p35_1
theorem at35_1 : Code.at [true, true, false, true, false] c35 = .loop (Code.at [true, true, false, true, false, false] c35) := by kernel_rfl
theorem s35_1_ok : SubOk P Go.Proofs.Try.f35.ntmps fx35 (Code.at [true, true, false, true, false] c35) ⟨g35_1, o35_1, l35_1⟩ := by
  rw [at35_1]
  exact loop_ok (sub_ok (g := g35_1) (outs := ((.normal, g35_1) :: o35_1)) (f := b35_1) (Table.ok T11_ok _) hmix (q35_1) b35_1_eq) rfl _
noncomputable def f35 (_ : gi35.D) : Option go35.D :=
  (Option.bind (Go.Ev.Deflate.l35_1 ((0 : Int), ([], Unit.unit))) (Sum.elim (fun y1 => (if ((List.length y1.1) = (List.length y1.1)) then (some (y1.1, Unit.unit))
   else none)) Empty.elim))
theorem f35_eq (x : gi35.D) : f35 x = evF P (T11.orc _) Go.Proofs.Try.f35.ntmps fx35 c35 (planAt 64 [([true, true, false, true, false], ⟨g35_1, o35_1, l35_1⟩)]) gi35 x (fnK fx35 [go35]) := by kernel_rfl
theorem pf35 : AllSub P Go.Proofs.Try.f35.ntmps fx35 c35 [([true, true, false, true, false], ⟨g35_1, o35_1, l35_1⟩)] := And.intro s35_1_ok (trivial)
theorem qf35 : PlanOk P Go.Proofs.Try.f35.ntmps fx35 (planAt 64 [([true, true, false, true, false], ⟨g35_1, o35_1, l35_1⟩)]) c35 := planAt_ok pf35
theorem f35_ok : EntOk P 35 ⟨gi35, [go35], f35⟩ :=
  ent_ok (fn := Go.Proofs.Try.f35) (gi := gi35) (gos := [go35]) (f := f35) (c := c35) (fx := fx35) ⟨Go.Proofs.Try.func35, by kernel_rfl, rfl, by decide +kernel, rfl, rfl⟩ (by kernel_rfl) (Table.ok T11_ok _) hmix (qf35) f35_eq
noncomputable def T35 : Table := T11.add 35 [⟨gi35, [go35], f35⟩] []
theorem T35_ok : TableOk P T35 := Table.plus T11_ok (es := [⟨gi35, [go35], f35⟩]) ⟨f35_ok, trivial⟩ []

/-! ## 36: erasure/erasureref06.Is -/
noncomputable def c36 : Code := Func.code Go.Proofs.Try.f36
abbrev gi36 : Sg := ⟨[0], [.agg [.lf (.int .i64), .lf (.int .i64), .lf (.int .i64)]], []⟩
abbrev go36 : Sg := ⟨[2], [.lf .bool], []⟩
def fx36 : List Bool := []
abbrev g36_1 : Sg := ⟨[1], [.lf (.ptr 0 0)], [some (.box true [.lf (.int .i64), .lf (.int .i64), .lf (.int .i64)])]⟩
abbrev o36_1 : Outs := [(.normal, ⟨[2], [.lf .bool], []⟩)]
noncomputable def b36_1 (x : g36_1.D) : Option (outD o36_1) :=
  (if ((x.2.2.1 == (0 : Int)) = true) then (if ((decide (x.1 ≥ (0 : Int))) = true) then (some (Sum.inl ((decide (x.1 ≤ (255 : Int))), Unit.unit)))
   else (some (Sum.inl (false, Unit.unit))))
   else (some (Sum.inl (false, Unit.unit))))
theorem b36_1_eq (x : g36_1.D) : b36_1 x = evF P (T35.orc _) Go.Proofs.Try.f36.ntmps fx36 (Code.at [true, false, true, false, false] c36) (planAt 64 []) g36_1 x (injK fx36 o36_1 some) := by kernel_rfl
theorem s36_1_ok : SubOk P Go.Proofs.Try.f36.ntmps fx36 (Code.at [true, false, true, false, false] c36) ⟨g36_1, o36_1, b36_1⟩ :=
  sub_ok (g := g36_1) (outs := o36_1) (f := b36_1) (Table.ok T35_ok _) hmix (planAt_ok (P := P) (n := Go.Proofs.Try.f36.ntmps) (fx := fx36) (c := (Code.at [true, false, true, false, false] c36)) (d := 64) (l := []) trivial) b36_1_eq
noncomputable def f36 (x : gi36.D) : Option go36.D :=
  (if ((x.2.1 == (0 : Int)) = true) then (Option.bind (Go.Ev.Deflate.b36_1 (x.1, (x.2.1, (x.2.2.1, Unit.unit)))) (Sum.elim (fun y1 => (some (y1.1, Unit.unit))) Empty.elim))
   else (if ((decide (x.2.1 ≥ (3 : Int))) = true) then (if ((decide (x.2.1 ≤ (258 : Int))) = true) then (if ((decide (x.2.2.1 ≥ (1 : Int))) = true) then (if ((decide (x.2.2.1 ≤ (32768 : Int))) = true) then (some ((x.1 == (0 : Int)), Unit.unit))
   else (some (false, Unit.unit)))
   else (some (false, Unit.unit)))
   else (some (false, Unit.unit)))
   else (some (false, Unit.unit))))
theorem f36_eq (x : gi36.D) : f36 x = evF P (T35.orc _) Go.Proofs.Try.f36.ntmps fx36 c36 (planAt 64 [([true, false, true, false, false], ⟨g36_1, o36_1, b36_1⟩)]) gi36 x (fnK fx36 [go36]) := by kernel_rfl
theorem pf36 : AllSub P Go.Proofs.Try.f36.ntmps fx36 c36 [([true, false, true, false, false], ⟨g36_1, o36_1, b36_1⟩)] := And.intro s36_1_ok (trivial)
theorem qf36 : PlanOk P Go.Proofs.Try.f36.ntmps fx36 (planAt 64 [([true, false, true, false, false], ⟨g36_1, o36_1, b36_1⟩)]) c36 := planAt_ok pf36
theorem f36_ok : EntOk P 36 ⟨gi36, [go36], f36⟩ :=
  ent_ok (fn := Go.Proofs.Try.f36) (gi := gi36) (gos := [go36]) (f := f36) (c := c36) (fx := fx36) ⟨Go.Proofs.Try.func36, by kernel_rfl, rfl, by decide +kernel, rfl, rfl⟩ (by kernel_rfl) (Table.ok T35_ok _) hmix (qf36) f36_eq
noncomputable def T36 : Table := T35.add 36 [⟨gi36, [go36], f36⟩] []
theorem T36_ok : TableOk P T36 := Table.plus T35_ok (es := [⟨gi36, [go36], f36⟩]) ⟨f36_ok, trivial⟩ []

/-! ## 75: erasure/erasureref05.power -/
noncomputable def c75 : Code := Func.code Go.Proofs.Try.f75
abbrev gi75 : Sg := ⟨[0], [.lf (.int .i64)], []⟩
abbrev go75 : Sg := ⟨[2], [.lf (.int .i64)], []⟩
def fx75 : List Bool := []
abbrev g75_1 : Sg := ⟨[0, 3, 4], [.lf (.int .i64), .lf (.int .i64), .lf (.int .i64)], []⟩
abbrev o75_1 : Outs := [(.exit 0, ⟨[3], [.lf (.int .i64)], []⟩)]
noncomputable def b75_1 (x : g75_1.D) : Option (outD ((.normal, g75_1) :: o75_1)) :=
  (if ((decide (x.2.2.1 < x.1)) = true) then (some (Sum.inl (x.1, ((Go.IntKind.wrap Go.IntKind.i64 ((2 : Int) * x.2.1)), ((Go.IntKind.wrap Go.IntKind.i64 (x.2.2.1 + (1 : Int))), Unit.unit)))))
   else (some (Sum.inr (Sum.inl (x.2.1, Unit.unit)))))
theorem b75_1_eq (x : g75_1.D) : b75_1 x = evF P (T36.orc _) Go.Proofs.Try.f75.ntmps fx75 (Code.at [true, true, false, true, false, false] c75) (planAt 64 []) g75_1 x (injK fx75 ((.normal, g75_1) :: o75_1) some) := by kernel_rfl
noncomputable def l75_1 : g75_1.D → Option (outD o75_1) := loopN g75_1 o75_1 b75_1 18446744073709551616
theorem at75_1 : Code.at [true, true, false, true, false] c75 = .loop (Code.at [true, true, false, true, false, false] c75) := by kernel_rfl
theorem s75_1_ok : SubOk P Go.Proofs.Try.f75.ntmps fx75 (Code.at [true, true, false, true, false] c75) ⟨g75_1, o75_1, l75_1⟩ := by
  rw [at75_1]
  exact loop_ok (sub_ok (g := g75_1) (outs := ((.normal, g75_1) :: o75_1)) (f := b75_1) (Table.ok T36_ok _) hmix (planAt_ok (P := P) (n := Go.Proofs.Try.f75.ntmps) (fx := fx75) (c := (Code.at [true, true, false, true, false, false] c75)) (d := 64) (l := []) trivial) b75_1_eq) rfl _
noncomputable def f75 (x : gi75.D) : Option go75.D :=
  (Option.bind (Go.Ev.Deflate.l75_1 (x.1, ((1 : Int), ((0 : Int), Unit.unit)))) (Sum.elim (fun y1 => (some (y1.1, Unit.unit))) Empty.elim))
theorem f75_eq (x : gi75.D) : f75 x = evF P (T36.orc _) Go.Proofs.Try.f75.ntmps fx75 c75 (planAt 64 [([true, true, false, true, false], ⟨g75_1, o75_1, l75_1⟩)]) gi75 x (fnK fx75 [go75]) := by kernel_rfl
theorem pf75 : AllSub P Go.Proofs.Try.f75.ntmps fx75 c75 [([true, true, false, true, false], ⟨g75_1, o75_1, l75_1⟩)] := And.intro s75_1_ok (trivial)
theorem qf75 : PlanOk P Go.Proofs.Try.f75.ntmps fx75 (planAt 64 [([true, true, false, true, false], ⟨g75_1, o75_1, l75_1⟩)]) c75 := planAt_ok pf75
theorem f75_ok : EntOk P 75 ⟨gi75, [go75], f75⟩ :=
  ent_ok (fn := Go.Proofs.Try.f75) (gi := gi75) (gos := [go75]) (f := f75) (c := c75) (fx := fx75) ⟨Go.Proofs.Try.func75, by kernel_rfl, rfl, by decide +kernel, rfl, rfl⟩ (by kernel_rfl) (Table.ok T36_ok _) hmix (qf75) f75_eq
noncomputable def T75 : Table := T36.add 75 [⟨gi75, [go75], f75⟩] []
theorem T75_ok : TableOk P T75 := Table.plus T36_ok (es := [⟨gi75, [go75], f75⟩]) ⟨f75_ok, trivial⟩ []

/-! ## 70: erasure/erasureref05.Share -/
noncomputable def c70 : Code := Func.code Go.Proofs.Try.f70
abbrev gi70 : Sg := ⟨[0], [.lf (.sl (.int .i64))], []⟩
abbrev go70 : Sg := ⟨[2], [.lf (.int .i64)], []⟩
def fx70 : List Bool := []
abbrev g70_1 : Sg := ⟨[0, 3, 4], [.lf (.sl (.int .i64)), .lf (.int .i64), .lf (.int .i64)], []⟩
abbrev o70_1 : Outs := [(.exit 0, ⟨[3], [.lf (.int .i64)], []⟩), (.ret, ⟨[2], [.lf (.int .i64)], []⟩)]
noncomputable def b70_1 (x : g70_1.D) : Option (outD ((.normal, g70_1) :: o70_1)) :=
  (if ((decide (x.2.2.1 < (((List.length x.1) : Nat) : Int))) = true) then (if ((0 : Int) ≤ x.2.2.1) then (if (x.2.2.1 < (((List.length x.1) : Nat) : Int)) then (if ((decide ((List.getD x.1 (Int.toNat x.2.2.1) (0 : Int)) < (0 : Int))) = true) then (some (Sum.inr (Sum.inr (Sum.inl ((-1 : Int), Unit.unit)))))
   else (if ((0 : Int) ≤ x.2.2.1) then (if (x.2.2.1 < (((List.length x.1) : Nat) : Int)) then (if ((decide ((List.getD x.1 (Int.toNat x.2.2.1) (0 : Int)) > (15 : Int))) = true) then (some (Sum.inr (Sum.inr (Sum.inl ((-1 : Int), Unit.unit)))))
   else (if ((0 : Int) ≤ x.2.2.1) then (if (x.2.2.1 < (((List.length x.1) : Nat) : Int)) then (if ((decide ((List.getD x.1 (Int.toNat x.2.2.1) (0 : Int)) > (0 : Int))) = true) then (if ((0 : Int) ≤ x.2.2.1) then (if (x.2.2.1 < (((List.length x.1) : Nat) : Int)) then (Option.bind (Go.Ev.Deflate.f75 ((Go.IntKind.wrap Go.IntKind.i64 ((15 : Int) - (List.getD x.1 (Int.toNat x.2.2.1) (0 : Int)))), Unit.unit)) (fun y1 => (some (Sum.inl (x.1, ((Go.IntKind.wrap Go.IntKind.i64 (x.2.1 + y1.1)), ((Go.IntKind.wrap Go.IntKind.i64 (x.2.2.1 + (1 : Int))), Unit.unit)))))))
   else none)
   else none)
   else (some (Sum.inl (x.1, (x.2.1, ((Go.IntKind.wrap Go.IntKind.i64 (x.2.2.1 + (1 : Int))), Unit.unit))))))
   else none)
   else none))
   else none)
   else none))
   else none)
   else none)
   else (some (Sum.inr (Sum.inl (x.2.1, Unit.unit)))))
theorem b70_1_eq (x : g70_1.D) : b70_1 x = evF P (T75.orc _) Go.Proofs.Try.f70.ntmps fx70 (Code.at [true, true, true, false, true, false, false] c70) (planAt 64 []) g70_1 x (injK fx70 ((.normal, g70_1) :: o70_1) some) := by kernel_rfl
noncomputable def l70_1 : g70_1.D → Option (outD o70_1) := loopN g70_1 o70_1 b70_1 18446744073709551616
theorem at70_1 : Code.at [true, true, true, false, true, false] c70 = .loop (Code.at [true, true, true, false, true, false, false] c70) := by kernel_rfl
theorem s70_1_ok : SubOk P Go.Proofs.Try.f70.ntmps fx70 (Code.at [true, true, true, false, true, false] c70) ⟨g70_1, o70_1, l70_1⟩ := by
  rw [at70_1]
  exact loop_ok (sub_ok (g := g70_1) (outs := ((.normal, g70_1) :: o70_1)) (f := b70_1) (Table.ok T75_ok _) hmix (planAt_ok (P := P) (n := Go.Proofs.Try.f70.ntmps) (fx := fx70) (c := (Code.at [true, true, true, false, true, false, false] c70)) (d := 64) (l := []) trivial) b70_1_eq) rfl _
noncomputable def f70 (x : gi70.D) : Option go70.D :=
  (if ((decide ((((List.length x.1) : Nat) : Int) > (320 : Int))) = true) then (some ((-1 : Int), Unit.unit))
   else (Option.bind (Go.Ev.Deflate.l70_1 (x.1, ((0 : Int), ((0 : Int), Unit.unit)))) (Sum.elim (fun y1 => (some (y1.1, Unit.unit))) (Sum.elim (fun y1 => (some (y1.1, Unit.unit))) Empty.elim))))
theorem f70_eq (x : gi70.D) : f70 x = evF P (T75.orc _) Go.Proofs.Try.f70.ntmps fx70 c70 (planAt 64 [([true, true, true, false, true, false], ⟨g70_1, o70_1, l70_1⟩)]) gi70 x (fnK fx70 [go70]) := by kernel_rfl
theorem pf70 : AllSub P Go.Proofs.Try.f70.ntmps fx70 c70 [([true, true, true, false, true, false], ⟨g70_1, o70_1, l70_1⟩)] := And.intro s70_1_ok (trivial)
theorem qf70 : PlanOk P Go.Proofs.Try.f70.ntmps fx70 (planAt 64 [([true, true, true, false, true, false], ⟨g70_1, o70_1, l70_1⟩)]) c70 := planAt_ok pf70
theorem f70_ok : EntOk P 70 ⟨gi70, [go70], f70⟩ :=
  ent_ok (fn := Go.Proofs.Try.f70) (gi := gi70) (gos := [go70]) (f := f70) (c := c70) (fx := fx70) ⟨Go.Proofs.Try.func70, by kernel_rfl, rfl, by decide +kernel, rfl, rfl⟩ (by kernel_rfl) (Table.ok T75_ok _) hmix (qf70) f70_eq
noncomputable def T70 : Table := T75.add 70 [⟨gi70, [go70], f70⟩] []
theorem T70_ok : TableOk P T70 := Table.plus T75_ok (es := [⟨gi70, [go70], f70⟩]) ⟨f70_ok, trivial⟩ []

/-! ## 56: erasure/erasureref05.Codes -/
noncomputable def c56 : Code := Func.code Go.Proofs.Try.f56
abbrev gi56 : Sg := ⟨[0], [.lf (.sl (.int .i64))], []⟩
abbrev go56 : Sg := ⟨[2, 3], [.lf (.gr (.int .i64) 0), .lf (.int .i64)], [some (.arr true (.int .i64))]⟩
def fx56 : List Bool := []
abbrev g56_2 : Sg := ⟨[0, 5, 6, 7, 8], [.lf (.sl (.int .i64)), .lf (.gr (.int .i64) 0), .lf (.int .i64), .lf (.int .i64), .lf (.int .i64)], [some (.arr true (.int .i64))]⟩
abbrev o56_2 : Outs := [(.exit 2, ⟨[0, 5, 6, 7], [.lf (.sl (.int .i64)), .lf (.gr (.int .i64) 0), .lf (.int .i64), .lf (.int .i64)], [some (.arr true (.int .i64))]⟩)]
noncomputable def b56_2 (x : g56_2.D) : Option (outD ((.normal, g56_2) :: o56_2)) :=
  (if ((decide (x.2.2.2.1 < (((List.length x.1) : Nat) : Int))) = true) then (if ((0 : Int) ≤ x.2.2.2.1) then (if (x.2.2.2.1 < (((List.length x.1) : Nat) : Int)) then (if (((List.getD x.1 (Int.toNat x.2.2.2.1) (0 : Int)) == x.2.2.1) = true) then (if ((0 : Int) ≤ x.2.2.2.1) then (if (x.2.2.2.1 < (((List.length x.2.2.2.2.1) : Nat) : Int)) then (if ((List.length x.2.2.2.2.1) = (List.length (List.set x.2.2.2.2.1 ((0 : Nat) + (Int.toNat x.2.2.2.1)) x.2.1))) then (some (Sum.inl (x.1, ((Go.IntKind.wrap Go.IntKind.i64 (x.2.1 + (1 : Int))), (x.2.2.1, ((Go.IntKind.wrap Go.IntKind.i64 (x.2.2.2.1 + (1 : Int))), ((List.set x.2.2.2.2.1 ((0 : Nat) + (Int.toNat x.2.2.2.1)) x.2.1), Unit.unit)))))))
   else none)
   else none)
   else none)
   else (if ((List.length x.2.2.2.2.1) = (List.length x.2.2.2.2.1)) then (some (Sum.inl (x.1, (x.2.1, (x.2.2.1, ((Go.IntKind.wrap Go.IntKind.i64 (x.2.2.2.1 + (1 : Int))), (x.2.2.2.2.1, Unit.unit)))))))
   else none))
   else none)
   else none)
   else (if ((List.length x.2.2.2.2.1) = (List.length x.2.2.2.2.1)) then (some (Sum.inr (Sum.inl (x.1, (x.2.1, (x.2.2.1, (x.2.2.2.2.1, Unit.unit)))))))
   else none))
theorem b56_2_eq (x : g56_2.D) : b56_2 x = evF P (T70.orc _) Go.Proofs.Try.f56.ntmps fx56 (Code.at [true, true, true, true, true, true, false, true, false, false, true, false, false, true, true, false, false] c56) (planAt 64 []) g56_2 x (injK fx56 ((.normal, g56_2) :: o56_2) some) := by kernel_rfl
noncomputable def l56_2 : g56_2.D → Option (outD o56_2) := loopN g56_2 o56_2 b56_2 18446744073709551616
theorem at56_2 : Code.at [true, true, true, true, true, true, false, true, false, false, true, false, false, true, true, false] c56 = .loop (Code.at [true, true, true, true, true, true, false, true, false, false, true, false, false, true, true, false, false] c56) := by kernel_rfl
theorem s56_2_ok : SubOk P Go.Proofs.Try.f56.ntmps fx56 (Code.at [true, true, true, true, true, true, false, true, false, false, true, false, false, true, true, false] c56) ⟨g56_2, o56_2, l56_2⟩ := by
  rw [at56_2]
  exact loop_ok (sub_ok (g := g56_2) (outs := ((.normal, g56_2) :: o56_2)) (f := b56_2) (Table.ok T70_ok _) hmix (planAt_ok (P := P) (n := Go.Proofs.Try.f56.ntmps) (fx := fx56) (c := (Code.at [true, true, true, true, true, true, false, true, false, false, true, false, false, true, true, false, false] c56)) (d := 64) (l := []) trivial) b56_2_eq) rfl _
abbrev g56_1 : Sg := ⟨[0, 5, 6, 7], [.lf (.sl (.int .i64)), .lf (.gr (.int .i64) 0), .lf (.int .i64), .lf (.int .i64)], [some (.arr true (.int .i64))]⟩
abbrev o56_1 : Outs := [(.exit 0, ⟨[5], [.lf (.gr (.int .i64) 0)], [some (.arr true (.int .i64))]⟩)]
noncomputable def b56_1 (x : g56_1.D) : Option (outD ((.normal, g56_1) :: o56_1)) :=
  (if ((decide (x.2.2.1 ≤ (15 : Int))) = true) then (if ((List.length x.2.2.2.1) = (List.length x.2.2.2.1)) then (Option.bind (Go.Ev.Deflate.l56_2 (x.1, ((Go.IntKind.wrap Go.IntKind.i64 ((2 : Int) * x.2.1)), (x.2.2.1, ((0 : Int), (x.2.2.2.1, Unit.unit)))))) (Sum.elim (fun y1 => (if ((List.length y1.2.2.2.1) = (List.length y1.2.2.2.1)) then (some (Sum.inl (y1.1, (y1.2.1, ((Go.IntKind.wrap Go.IntKind.i64 (y1.2.2.1 + (1 : Int))), (y1.2.2.2.1, Unit.unit))))))
   else none)) Empty.elim))
   else none)
   else (if ((List.length x.2.2.2.1) = (List.length x.2.2.2.1)) then (some (Sum.inr (Sum.inl (x.2.2.2.1, Unit.unit))))
   else none))
theorem b56_1_eq (x : g56_1.D) : b56_1 x = evF P (T70.orc _) Go.Proofs.Try.f56.ntmps fx56 (Code.at [true, true, true, true, true, true, false, true, false, false] c56) (planAt 64 [([true, false, false, true, true, false], ⟨g56_2, o56_2, l56_2⟩)]) g56_1 x (injK fx56 ((.normal, g56_1) :: o56_1) some) := by kernel_rfl
noncomputable def l56_1 : g56_1.D → Option (outD o56_1) := loopN g56_1 o56_1 b56_1 18446744073709551616
theorem p56_1 : AllSub P Go.Proofs.Try.f56.ntmps fx56 (Code.at [true, true, true, true, true, true, false, true, false, false] c56) [([true, false, false, true, true, false], ⟨g56_2, o56_2, l56_2⟩)] := And.intro s56_2_ok (trivial)
theorem q56_1 : PlanOk P Go.Proofs.Try.f56.ntmps fx56 (planAt 64 [([true, false, false, true, true, false], ⟨g56_2, o56_2, l56_2⟩)]) (Code.at [true, true, true, true, true, true, false, true, false, false] c56) := planAt_ok p56_1
theorem at56_1 : Code.at [true, true, true, true, true, true, false, true, false] c56 = .loop (Code.at [true, true, true, true, true, true, false, true, false, false] c56) := by kernel_rfl
theorem s56_1_ok : SubOk P Go.Proofs.Try.f56.ntmps fx56 (Code.at [true, true, true, true, true, true, false, true, false] c56) ⟨g56_1, o56_1, l56_1⟩ := by
  rw [at56_1]
  exact loop_ok (sub_ok (g := g56_1) (outs := ((.normal, g56_1) :: o56_1)) (f := b56_1) (Table.ok T70_ok _) hmix (q56_1) b56_1_eq) rfl _
noncomputable def f56 (x : gi56.D) : Option go56.D :=
  (Option.bind (Go.Ev.Deflate.f70 (x.1, Unit.unit)) (fun y1 => (if ((decide (y1.1 < (0 : Int))) = true) then (some ((1 : Int), ([], Unit.unit)))
   else (if ((decide (y1.1 > (32768 : Int))) = true) then (some ((4 : Int), ([], Unit.unit)))
   else (if ((((List.length x.1) : Nat) : Int) ≤ (((List.length x.1) : Nat) : Int)) then (if ((((List.length x.1) : Nat) : Int) ≤ (35184372088832 : Int)) then (if ((Int.toNat (((List.length x.1) : Nat) : Int)) = (List.length (List.replicate (Int.toNat (((List.length x.1) : Nat) : Int)) (0 : Int)))) then (Option.bind (Go.Ev.Deflate.l56_1 (x.1, ((0 : Int), ((1 : Int), ((List.replicate (Int.toNat (((List.length x.1) : Nat) : Int)) (0 : Int)), Unit.unit))))) (Sum.elim (fun y2 => (if ((List.length y2.1) = (List.length y2.1)) then (some ((0 : Int), (y2.1, Unit.unit)))
   else none)) Empty.elim))
   else none)
   else none)
   else none)))))
theorem f56_eq (x : gi56.D) : f56 x = evF P (T70.orc _) Go.Proofs.Try.f56.ntmps fx56 c56 (planAt 64 [([true, true, true, true, true, true, false, true, false], ⟨g56_1, o56_1, l56_1⟩)]) gi56 x (fnK fx56 [go56]) := by kernel_rfl
theorem pf56 : AllSub P Go.Proofs.Try.f56.ntmps fx56 c56 [([true, true, true, true, true, true, false, true, false], ⟨g56_1, o56_1, l56_1⟩)] := And.intro s56_1_ok (trivial)
theorem qf56 : PlanOk P Go.Proofs.Try.f56.ntmps fx56 (planAt 64 [([true, true, true, true, true, true, false, true, false], ⟨g56_1, o56_1, l56_1⟩)]) c56 := planAt_ok pf56
theorem f56_ok : EntOk P 56 ⟨gi56, [go56], f56⟩ :=
  ent_ok (fn := Go.Proofs.Try.f56) (gi := gi56) (gos := [go56]) (f := f56) (c := c56) (fx := fx56) ⟨Go.Proofs.Try.func56, by kernel_rfl, rfl, by decide +kernel, rfl, rfl⟩ (by kernel_rfl) (Table.ok T70_ok _) hmix (qf56) f56_eq
noncomputable def T56 : Table := T70.add 56 [⟨gi56, [go56], f56⟩] []
theorem T56_ok : TableOk P T56 := Table.plus T70_ok (es := [⟨gi56, [go56], f56⟩]) ⟨f56_ok, trivial⟩ []

/-! ## 37: erasure/erasureref05.Word -/
noncomputable def c37 : Code := Func.code Go.Proofs.Try.f37
abbrev gi37 : Sg := ⟨[0, 1], [.lf (.sl (.int .i64)), .lf (.int .i64)], []⟩
abbrev go37 : Sg := ⟨[4], [.lf (.gr .bool 0)], [some (.arr true .bool)]⟩
def fx37 : List Bool := []
abbrev g37_1 : Sg := ⟨[7, 8, 9], [.lf (.gr .bool 0), .lf (.int .i64), .lf (.int .i64)], [some (.arr true .bool)]⟩
abbrev o37_1 : Outs := [(.exit 0, ⟨[7], [.lf (.gr .bool 0)], [some (.arr true .bool)]⟩)]
noncomputable def b37_1 (x : g37_1.D) : Option (outD ((.normal, g37_1) :: o37_1)) :=
  (if ((decide (x.2.1 ≥ (0 : Int))) = true) then (if ((0 : Int) ≤ x.2.1) then (if (x.2.1 < (((List.length x.2.2.1) : Nat) : Int)) then (if ((List.length x.2.2.1) = (List.length (List.set x.2.2.1 ((0 : Nat) + (Int.toNat x.2.1)) ((Int.tmod x.1 (2 : Int)) == (1 : Int))))) then (some (Sum.inl ((Go.IntKind.wrap Go.IntKind.i64 (Int.tdiv x.1 (2 : Int))), ((Go.IntKind.wrap Go.IntKind.i64 (x.2.1 - (1 : Int))), ((List.set x.2.2.1 ((0 : Nat) + (Int.toNat x.2.1)) ((Int.tmod x.1 (2 : Int)) == (1 : Int))), Unit.unit)))))
   else none)
   else none)
   else none)
   else (if ((List.length x.2.2.1) = (List.length x.2.2.1)) then (some (Sum.inr (Sum.inl (x.2.2.1, Unit.unit))))
   else none))
theorem b37_1_eq (x : g37_1.D) : b37_1 x = evF P (T56.orc _) Go.Proofs.Try.f37.ntmps fx37 (Code.at [true, true, true, true, true, false, true, false, false] c37) (planAt 64 []) g37_1 x (injK fx37 ((.normal, g37_1) :: o37_1) some) := by kernel_rfl
noncomputable def l37_1 : g37_1.D → Option (outD o37_1) := loopN g37_1 o37_1 b37_1 18446744073709551616
theorem at37_1 : Code.at [true, true, true, true, true, false, true, false] c37 = .loop (Code.at [true, true, true, true, true, false, true, false, false] c37) := by kernel_rfl
theorem s37_1_ok : SubOk P Go.Proofs.Try.f37.ntmps fx37 (Code.at [true, true, true, true, true, false, true, false] c37) ⟨g37_1, o37_1, l37_1⟩ := by
  rw [at37_1]
  exact loop_ok (sub_ok (g := g37_1) (outs := ((.normal, g37_1) :: o37_1)) (f := b37_1) (Table.ok T56_ok _) hmix (planAt_ok (P := P) (n := Go.Proofs.Try.f37.ntmps) (fx := fx37) (c := (Code.at [true, true, true, true, true, false, true, false, false] c37)) (d := 64) (l := []) trivial) b37_1_eq) rfl _
noncomputable def f37 (x : gi37.D) : Option go37.D :=
  (if ((decide (x.2.1 < (0 : Int))) = true) then (some ([], Unit.unit))
   else (if ((decide (x.2.1 ≥ (((List.length x.1) : Nat) : Int))) = true) then (some ([], Unit.unit))
   else (if ((0 : Int) ≤ x.2.1) then (if (x.2.1 < (((List.length x.1) : Nat) : Int)) then (if (((List.getD x.1 (Int.toNat x.2.1) (0 : Int)) == (0 : Int)) = true) then (some ([], Unit.unit))
   else (Option.bind (Go.Ev.Deflate.f56 (x.1, Unit.unit)) (fun y1 => (if ((0 : Int) ≤ x.2.1) then (if (x.2.1 < (((List.length x.1) : Nat) : Int)) then (if ((0 : Int) ≤ (List.getD x.1 (Int.toNat x.2.1) (0 : Int))) then (if ((List.getD x.1 (Int.toNat x.2.1) (0 : Int)) ≤ (List.getD x.1 (Int.toNat x.2.1) (0 : Int))) then (if ((List.getD x.1 (Int.toNat x.2.1) (0 : Int)) ≤ (281474976710656 : Int)) then (if ((0 : Int) ≤ x.2.1) then (if (x.2.1 < (((List.length y1.2.1) : Nat) : Int)) then (if ((0 : Int) ≤ x.2.1) then (if (x.2.1 < (((List.length x.1) : Nat) : Int)) then (if ((Int.toNat (List.getD x.1 (Int.toNat x.2.1) (0 : Int))) = (List.length (List.replicate (Int.toNat (List.getD x.1 (Int.toNat x.2.1) (0 : Int))) false))) then (Option.bind (Go.Ev.Deflate.l37_1 ((List.getD y1.2.1 ((0 : Nat) + (Int.toNat x.2.1)) (0 : Int)), ((Go.IntKind.wrap Go.IntKind.i64 ((List.getD x.1 (Int.toNat x.2.1) (0 : Int)) - (1 : Int))), ((List.replicate (Int.toNat (List.getD x.1 (Int.toNat x.2.1) (0 : Int))) false), Unit.unit)))) (Sum.elim (fun y2 => (if ((List.length y2.1) = (List.length y2.1)) then (some (y2.1, Unit.unit))
   else none)) Empty.elim))
   else none)
   else none)
   else none)
   else none)
   else none)
   else none)
   else none)
   else none)
   else none)
   else none))))
   else none)
   else none)))
theorem f37_eq (x : gi37.D) : f37 x = evF P (T56.orc _) Go.Proofs.Try.f37.ntmps fx37 c37 (planAt 64 [([true, true, true, true, true, false, true, false], ⟨g37_1, o37_1, l37_1⟩)]) gi37 x (fnK fx37 [go37]) := by kernel_rfl
theorem pf37 : AllSub P Go.Proofs.Try.f37.ntmps fx37 c37 [([true, true, true, true, true, false, true, false], ⟨g37_1, o37_1, l37_1⟩)] := And.intro s37_1_ok (trivial)
theorem qf37 : PlanOk P Go.Proofs.Try.f37.ntmps fx37 (planAt 64 [([true, true, true, true, true, false, true, false], ⟨g37_1, o37_1, l37_1⟩)]) c37 := planAt_ok pf37
theorem f37_ok : EntOk P 37 ⟨gi37, [go37], f37⟩ :=
  ent_ok (fn := Go.Proofs.Try.f37) (gi := gi37) (gos := [go37]) (f := f37) (c := c37) (fx := fx37) ⟨Go.Proofs.Try.func37, by kernel_rfl, rfl, by decide +kernel, rfl, rfl⟩ (by kernel_rfl) (Table.ok T56_ok _) hmix (qf37) f37_eq
noncomputable def T37 : Table := T56.add 37 [⟨gi37, [go37], f37⟩] []
theorem T37_ok : TableOk P T37 := Table.plus T56_ok (es := [⟨gi37, [go37], f37⟩]) ⟨f37_ok, trivial⟩ []

/-! ## 58: erasure/erasureref06.more -/
noncomputable def c58 : Code := Func.code Go.Proofs.Try.f58
abbrev gi58 : Sg := ⟨[0], [.lf (.int .i64)], []⟩
abbrev go58 : Sg := ⟨[2], [.lf (.int .i64)], []⟩
def fx58 : List Bool := []
noncomputable def f58 (x : gi58.D) : Option go58.D :=
  (if ((decide (x.1 < (265 : Int))) = true) then (some ((0 : Int), Unit.unit))
   else (some ((Go.IntKind.wrap Go.IntKind.i64 (Int.tdiv (Go.IntKind.wrap Go.IntKind.i64 (x.1 - (261 : Int))) (4 : Int))), Unit.unit)))
theorem f58_eq (x : gi58.D) : f58 x = evF P (T37.orc _) Go.Proofs.Try.f58.ntmps fx58 c58 (planAt 64 []) gi58 x (fnK fx58 [go58]) := by kernel_rfl
theorem f58_ok : EntOk P 58 ⟨gi58, [go58], f58⟩ :=
  ent_ok (fn := Go.Proofs.Try.f58) (gi := gi58) (gos := [go58]) (f := f58) (c := c58) (fx := fx58) ⟨Go.Proofs.Try.func58, by kernel_rfl, rfl, by decide +kernel, rfl, rfl⟩ (by kernel_rfl) (Table.ok T37_ok _) hmix (planAt_ok (P := P) (n := Go.Proofs.Try.f58.ntmps) (fx := fx58) (c := c58) (d := 64) (l := []) trivial) f58_eq
noncomputable def T58 : Table := T37.add 58 [⟨gi58, [go58], f58⟩] []
theorem T58_ok : TableOk P T58 := Table.plus T37_ok (es := [⟨gi58, [go58], f58⟩]) ⟨f58_ok, trivial⟩ []

/-! ## 57: erasure/erasureref06.power -/
noncomputable def c57 : Code := Func.code Go.Proofs.Try.f57
abbrev gi57 : Sg := ⟨[0], [.lf (.int .i64)], []⟩
abbrev go57 : Sg := ⟨[2], [.lf (.int .i64)], []⟩
def fx57 : List Bool := []
abbrev g57_1 : Sg := ⟨[0, 3, 4], [.lf (.int .i64), .lf (.int .i64), .lf (.int .i64)], []⟩
abbrev o57_1 : Outs := [(.exit 0, ⟨[3], [.lf (.int .i64)], []⟩)]
noncomputable def b57_1 (x : g57_1.D) : Option (outD ((.normal, g57_1) :: o57_1)) :=
  (if ((decide (x.2.2.1 < x.1)) = true) then (some (Sum.inl (x.1, ((Go.IntKind.wrap Go.IntKind.i64 ((2 : Int) * x.2.1)), ((Go.IntKind.wrap Go.IntKind.i64 (x.2.2.1 + (1 : Int))), Unit.unit)))))
   else (some (Sum.inr (Sum.inl (x.2.1, Unit.unit)))))
theorem b57_1_eq (x : g57_1.D) : b57_1 x = evF P (T58.orc _) Go.Proofs.Try.f57.ntmps fx57 (Code.at [true, true, false, true, false, false] c57) (planAt 64 []) g57_1 x (injK fx57 ((.normal, g57_1) :: o57_1) some) := by kernel_rfl
noncomputable def l57_1 : g57_1.D → Option (outD o57_1) := loopN g57_1 o57_1 b57_1 18446744073709551616
theorem at57_1 : Code.at [true, true, false, true, false] c57 = .loop (Code.at [true, true, false, true, false, false] c57) := by kernel_rfl
theorem s57_1_ok : SubOk P Go.Proofs.Try.f57.ntmps fx57 (Code.at [true, true, false, true, false] c57) ⟨g57_1, o57_1, l57_1⟩ := by
  rw [at57_1]
  exact loop_ok (sub_ok (g := g57_1) (outs := ((.normal, g57_1) :: o57_1)) (f := b57_1) (Table.ok T58_ok _) hmix (planAt_ok (P := P) (n := Go.Proofs.Try.f57.ntmps) (fx := fx57) (c := (Code.at [true, true, false, true, false, false] c57)) (d := 64) (l := []) trivial) b57_1_eq) rfl _
noncomputable def f57 (x : gi57.D) : Option go57.D :=
  (Option.bind (Go.Ev.Deflate.l57_1 (x.1, ((1 : Int), ((0 : Int), Unit.unit)))) (Sum.elim (fun y1 => (some (y1.1, Unit.unit))) Empty.elim))
theorem f57_eq (x : gi57.D) : f57 x = evF P (T58.orc _) Go.Proofs.Try.f57.ntmps fx57 c57 (planAt 64 [([true, true, false, true, false], ⟨g57_1, o57_1, l57_1⟩)]) gi57 x (fnK fx57 [go57]) := by kernel_rfl
theorem pf57 : AllSub P Go.Proofs.Try.f57.ntmps fx57 c57 [([true, true, false, true, false], ⟨g57_1, o57_1, l57_1⟩)] := And.intro s57_1_ok (trivial)
theorem qf57 : PlanOk P Go.Proofs.Try.f57.ntmps fx57 (planAt 64 [([true, true, false, true, false], ⟨g57_1, o57_1, l57_1⟩)]) c57 := planAt_ok pf57
theorem f57_ok : EntOk P 57 ⟨gi57, [go57], f57⟩ :=
  ent_ok (fn := Go.Proofs.Try.f57) (gi := gi57) (gos := [go57]) (f := f57) (c := c57) (fx := fx57) ⟨Go.Proofs.Try.func57, by kernel_rfl, rfl, by decide +kernel, rfl, rfl⟩ (by kernel_rfl) (Table.ok T58_ok _) hmix (qf57) f57_eq
noncomputable def T57 : Table := T58.add 57 [⟨gi57, [go57], f57⟩] []
theorem T57_ok : TableOk P T57 := Table.plus T58_ok (es := [⟨gi57, [go57], f57⟩]) ⟨f57_ok, trivial⟩ []

/-! ## 38: erasure/erasureref06.Length -/
noncomputable def c38 : Code := Func.code Go.Proofs.Try.f38
abbrev gi38 : Sg := ⟨[0], [.lf (.int .i64)], []⟩
abbrev go38 : Sg := ⟨[2, 3], [.lf (.int .i64), .lf (.int .i64)], []⟩
def fx38 : List Bool := []
abbrev g38_1 : Sg := ⟨[0, 4, 5], [.lf (.int .i64), .lf (.int .i64), .lf (.int .i64)], []⟩
abbrev o38_1 : Outs := [(.exit 0, ⟨[0, 4], [.lf (.int .i64), .lf (.int .i64)], []⟩)]
noncomputable def b38_1 (x : g38_1.D) : Option (outD ((.normal, g38_1) :: o38_1)) :=
  (if ((decide (x.2.2.1 < x.1)) = true) then (Option.bind (Go.Ev.Deflate.f58 (x.2.2.1, Unit.unit)) (fun y1 => (Option.bind (Go.Ev.Deflate.f57 (y1.1, Unit.unit)) (fun y2 => (some (Sum.inl (x.1, ((Go.IntKind.wrap Go.IntKind.i64 (x.2.1 + y2.1)), ((Go.IntKind.wrap Go.IntKind.i64 (x.2.2.1 + (1 : Int))), Unit.unit)))))))))
   else (some (Sum.inr (Sum.inl (x.1, (x.2.1, Unit.unit))))))
theorem b38_1_eq (x : g38_1.D) : b38_1 x = evF P (T57.orc _) Go.Proofs.Try.f38.ntmps fx38 (Code.at [true, true, true, false, true, false, false] c38) (planAt 64 []) g38_1 x (injK fx38 ((.normal, g38_1) :: o38_1) some) := by kernel_rfl
noncomputable def l38_1 : g38_1.D → Option (outD o38_1) := loopN g38_1 o38_1 b38_1 18446744073709551616
theorem at38_1 : Code.at [true, true, true, false, true, false] c38 = .loop (Code.at [true, true, true, false, true, false, false] c38) := by kernel_rfl
theorem s38_1_ok : SubOk P Go.Proofs.Try.f38.ntmps fx38 (Code.at [true, true, true, false, true, false] c38) ⟨g38_1, o38_1, l38_1⟩ := by
  rw [at38_1]
  exact loop_ok (sub_ok (g := g38_1) (outs := ((.normal, g38_1) :: o38_1)) (f := b38_1) (Table.ok T57_ok _) hmix (planAt_ok (P := P) (n := Go.Proofs.Try.f38.ntmps) (fx := fx38) (c := (Code.at [true, true, true, false, true, false, false] c38)) (d := 64) (l := []) trivial) b38_1_eq) rfl _
noncomputable def f38 (x : gi38.D) : Option go38.D :=
  (if ((x.1 == (285 : Int)) = true) then (some ((258 : Int), ((0 : Int), Unit.unit)))
   else (Option.bind (Go.Ev.Deflate.l38_1 (x.1, ((3 : Int), ((257 : Int), Unit.unit)))) (Sum.elim (fun y1 => (Option.bind (Go.Ev.Deflate.f58 (y1.1, Unit.unit)) (fun y2 => (some (y1.2.1, (y2.1, Unit.unit)))))) Empty.elim)))
theorem f38_eq (x : gi38.D) : f38 x = evF P (T57.orc _) Go.Proofs.Try.f38.ntmps fx38 c38 (planAt 64 [([true, true, true, false, true, false], ⟨g38_1, o38_1, l38_1⟩)]) gi38 x (fnK fx38 [go38]) := by kernel_rfl
theorem pf38 : AllSub P Go.Proofs.Try.f38.ntmps fx38 c38 [([true, true, true, false, true, false], ⟨g38_1, o38_1, l38_1⟩)] := And.intro s38_1_ok (trivial)
theorem qf38 : PlanOk P Go.Proofs.Try.f38.ntmps fx38 (planAt 64 [([true, true, true, false, true, false], ⟨g38_1, o38_1, l38_1⟩)]) c38 := planAt_ok pf38
theorem f38_ok : EntOk P 38 ⟨gi38, [go38], f38⟩ :=
  ent_ok (fn := Go.Proofs.Try.f38) (gi := gi38) (gos := [go38]) (f := f38) (c := c38) (fx := fx38) ⟨Go.Proofs.Try.func38, by kernel_rfl, rfl, by decide +kernel, rfl, rfl⟩ (by kernel_rfl) (Table.ok T57_ok _) hmix (qf38) f38_eq
noncomputable def T38 : Table := T57.add 38 [⟨gi38, [go38], f38⟩] []
theorem T38_ok : TableOk P T38 := Table.plus T57_ok (es := [⟨gi38, [go38], f38⟩]) ⟨f38_ok, trivial⟩ []

/-! ## 59: erasure/erasureref04.Put -/
noncomputable def c59 : Code := Func.code Go.Proofs.Try.f59
abbrev gi59 : Sg := ⟨[0, 1, 2], [.lf (.gr .bool 0), .lf (.int .i64), .lf (.int .i64)], [some (.arr true .bool)]⟩
abbrev go59 : Sg := ⟨[6, 7], [.lf (.gr .bool 1), .lf (.int .i64)], [none, some (.arr true .bool)]⟩
def fx59 : List Bool := [false]
abbrev g59_1 : Sg := ⟨[0, 1, 2, 8, 9], [.lf (.gr .bool 1), .lf (.int .i64), .lf (.int .i64), .lf (.gr .bool 2), .lf (.int .i64)], [none, some (.arr true .bool), some (.arr true .bool)]⟩
abbrev o59_1 : Outs := [(.exit 0, ⟨[0, 1, 8], [.lf (.gr .bool 1), .lf (.int .i64), .lf (.gr .bool 2)], [none, some (.arr true .bool), some (.arr true .bool)]⟩)]
noncomputable def b59_1 (x : g59_1.D) : Option (outD ((.normal, g59_1) :: o59_1)) :=
  (if ((decide (x.2.2.1 < x.2.1)) = true) then (if (((List.length (List.take (List.length x.2.2.2.2.1) (List.drop (0 : Nat) x.2.2.2.2.1))) + (List.length (List.take (1 : Nat) (List.drop (0 : Nat) (List.set (List.replicate (1 : Nat) false) (0 : Nat) ((Int.tmod x.1 (2 : Int)) == (1 : Int))))))) ≤ (140737488355328 : Nat)) then (if ((List.length x.2.2.2.1) = (List.length x.2.2.2.1)) then (if ((List.length ((List.take (List.length x.2.2.2.2.1) (List.drop (0 : Nat) x.2.2.2.2.1)) ++ (List.take (1 : Nat) (List.drop (0 : Nat) (List.set (List.replicate (1 : Nat) false) (0 : Nat) ((Int.tmod x.1 (2 : Int)) == (1 : Int))))))) = (List.length ((List.take (List.length x.2.2.2.2.1) (List.drop (0 : Nat) x.2.2.2.2.1)) ++ (List.take (1 : Nat) (List.drop (0 : Nat) (List.set (List.replicate (1 : Nat) false) (0 : Nat) ((Int.tmod x.1 (2 : Int)) == (1 : Int)))))))) then (some (Sum.inl ((Go.IntKind.wrap Go.IntKind.i64 (Int.tdiv x.1 (2 : Int))), (x.2.1, ((Go.IntKind.wrap Go.IntKind.i64 (x.2.2.1 + (1 : Int))), (x.2.2.2.1, (((List.take (List.length x.2.2.2.2.1) (List.drop (0 : Nat) x.2.2.2.2.1)) ++ (List.take (1 : Nat) (List.drop (0 : Nat) (List.set (List.replicate (1 : Nat) false) (0 : Nat) ((Int.tmod x.1 (2 : Int)) == (1 : Int)))))), Unit.unit)))))))
   else none)
   else none)
   else none)
   else (if ((List.length x.2.2.2.1) = (List.length x.2.2.2.1)) then (if ((List.length x.2.2.2.2.1) = (List.length x.2.2.2.2.1)) then (some (Sum.inr (Sum.inl (x.1, (x.2.2.2.1, (x.2.2.2.2.1, Unit.unit))))))
   else none)
   else none))
theorem b59_1_eq (x : g59_1.D) : b59_1 x = evF P (T38.orc _) Go.Proofs.Try.f59.ntmps fx59 (Code.at [true, true, true, false, true, false, false] c59) (planAt 64 []) g59_1 x (injK fx59 ((.normal, g59_1) :: o59_1) some) := by kernel_rfl
noncomputable def l59_1 : g59_1.D → Option (outD o59_1) := loopN g59_1 o59_1 b59_1 18446744073709551616
theorem at59_1 : Code.at [true, true, true, false, true, false] c59 = .loop (Code.at [true, true, true, false, true, false, false] c59) := by kernel_rfl
theorem s59_1_ok : SubOk P Go.Proofs.Try.f59.ntmps fx59 (Code.at [true, true, true, false, true, false] c59) ⟨g59_1, o59_1, l59_1⟩ := by
  rw [at59_1]
  exact loop_ok (sub_ok (g := g59_1) (outs := ((.normal, g59_1) :: o59_1)) (f := b59_1) (Table.ok T38_ok _) hmix (planAt_ok (P := P) (n := Go.Proofs.Try.f59.ntmps) (fx := fx59) (c := (Code.at [true, true, true, false, true, false, false] c59)) (d := 64) (l := []) trivial) b59_1_eq) rfl _
noncomputable def f59 (x : gi59.D) : Option go59.D :=
  (if ((decide (x.2.1 < (0 : Int))) = true) then (if ((List.length x.2.2.1) = (List.length x.2.2.1)) then (some ((1 : Int), (x.2.2.1, Unit.unit)))
   else none)
   else (if ((decide (x.2.1 > (24 : Int))) = true) then (if ((List.length x.2.2.1) = (List.length x.2.2.1)) then (some ((1 : Int), (x.2.2.1, Unit.unit)))
   else none)
   else (if ((decide (x.1 < (0 : Int))) = true) then (if ((List.length x.2.2.1) = (List.length x.2.2.1)) then (some ((1 : Int), (x.2.2.1, Unit.unit)))
   else none)
   else (if ((List.length x.2.2.1) = (List.length x.2.2.1)) then (Option.bind (Go.Ev.Deflate.l59_1 (x.1, (x.2.1, ((0 : Int), (x.2.2.1, ([], Unit.unit)))))) (Sum.elim (fun y1 => (if ((decide (y1.1 > (0 : Int))) = true) then (if ((List.length y1.2.1) = (List.length y1.2.1)) then (some ((1 : Int), (y1.2.1, Unit.unit)))
   else none)
   else (if (((List.length (List.take (List.length y1.2.1) (List.drop (0 : Nat) y1.2.1))) + (List.length (List.take (List.length y1.2.2.1) (List.drop (0 : Nat) y1.2.2.1)))) ≤ (140737488355328 : Nat)) then (if ((List.length ((List.take (List.length y1.2.1) (List.drop (0 : Nat) y1.2.1)) ++ (List.take (List.length y1.2.2.1) (List.drop (0 : Nat) y1.2.2.1)))) = (List.length ((List.take (List.length y1.2.1) (List.drop (0 : Nat) y1.2.1)) ++ (List.take (List.length y1.2.2.1) (List.drop (0 : Nat) y1.2.2.1))))) then (some ((0 : Int), (((List.take (List.length y1.2.1) (List.drop (0 : Nat) y1.2.1)) ++ (List.take (List.length y1.2.2.1) (List.drop (0 : Nat) y1.2.2.1))), Unit.unit)))
   else none)
   else none))) Empty.elim))
   else none))))
theorem f59_eq (x : gi59.D) : f59 x = evF P (T38.orc _) Go.Proofs.Try.f59.ntmps fx59 c59 (planAt 64 [([true, true, true, false, true, false], ⟨g59_1, o59_1, l59_1⟩)]) gi59 x (fnK fx59 [go59]) := by kernel_rfl
theorem pf59 : AllSub P Go.Proofs.Try.f59.ntmps fx59 c59 [([true, true, true, false, true, false], ⟨g59_1, o59_1, l59_1⟩)] := And.intro s59_1_ok (trivial)
theorem qf59 : PlanOk P Go.Proofs.Try.f59.ntmps fx59 (planAt 64 [([true, true, true, false, true, false], ⟨g59_1, o59_1, l59_1⟩)]) c59 := planAt_ok pf59
theorem f59_ok : EntOk P 59 ⟨gi59, [go59], f59⟩ :=
  ent_ok (fn := Go.Proofs.Try.f59) (gi := gi59) (gos := [go59]) (f := f59) (c := c59) (fx := fx59) ⟨Go.Proofs.Try.func59, by kernel_rfl, rfl, by decide +kernel, rfl, rfl⟩ (by kernel_rfl) (Table.ok T38_ok _) hmix (qf59) f59_eq
noncomputable def T59 : Table := T38.add 59 [⟨gi59, [go59], f59⟩] [true, false, false]
theorem T59_ok : TableOk P T59 := Table.plus T38_ok (es := [⟨gi59, [go59], f59⟩]) ⟨f59_ok, trivial⟩ [true, false, false]

/-! ## 39: erasure/erasureref07.put -/
noncomputable def c39 : Code := Func.code Go.Proofs.Try.f39
abbrev gi39 : Sg := ⟨[0, 1, 2], [.lf (.gr .bool 0), .lf (.int .i64), .lf (.int .i64)], [some (.arr true .bool)]⟩
abbrev go39 : Sg := ⟨[6], [.lf (.gr .bool 1)], [none, some (.arr true .bool)]⟩
def fx39 : List Bool := [false]
noncomputable def f39 (x : gi39.D) : Option go39.D :=
  (if ((List.length x.2.2.1) = (List.length x.2.2.1)) then (Option.bind (Go.Ev.Deflate.f59 (x.1, (x.2.1, (x.2.2.1, Unit.unit)))) (fun y1 => (if ((List.length y1.2.1) = (List.length y1.2.1)) then (some (y1.2.1, Unit.unit))
   else none)))
   else none)
theorem f39_eq (x : gi39.D) : f39 x = evF P (T59.orc _) Go.Proofs.Try.f39.ntmps fx39 c39 (planAt 64 []) gi39 x (fnK fx39 [go39]) := by kernel_rfl
theorem f39_ok : EntOk P 39 ⟨gi39, [go39], f39⟩ :=
  ent_ok (fn := Go.Proofs.Try.f39) (gi := gi39) (gos := [go39]) (f := f39) (c := c39) (fx := fx39) ⟨Go.Proofs.Try.func39, by kernel_rfl, rfl, by decide +kernel, rfl, rfl⟩ (by kernel_rfl) (Table.ok T59_ok _) hmix (planAt_ok (P := P) (n := Go.Proofs.Try.f39.ntmps) (fx := fx39) (c := c39) (d := 64) (l := []) trivial) f39_eq
noncomputable def T39 : Table := T59.add 39 [⟨gi39, [go39], f39⟩] [true, false, false]
theorem T39_ok : TableOk P T39 := Table.plus T59_ok (es := [⟨gi39, [go39], f39⟩]) ⟨f39_ok, trivial⟩ [true, false, false]

/-! ## 60: erasure/erasureref06.behind -/
noncomputable def c60 : Code := Func.code Go.Proofs.Try.f60
abbrev gi60 : Sg := ⟨[0], [.lf (.int .i64)], []⟩
abbrev go60 : Sg := ⟨[2], [.lf (.int .i64)], []⟩
def fx60 : List Bool := []
noncomputable def f60 (x : gi60.D) : Option go60.D :=
  (if ((decide (x.1 < (4 : Int))) = true) then (some ((0 : Int), Unit.unit))
   else (some ((Go.IntKind.wrap Go.IntKind.i64 (Int.tdiv (Go.IntKind.wrap Go.IntKind.i64 (x.1 - (2 : Int))) (2 : Int))), Unit.unit)))
theorem f60_eq (x : gi60.D) : f60 x = evF P (T39.orc _) Go.Proofs.Try.f60.ntmps fx60 c60 (planAt 64 []) gi60 x (fnK fx60 [go60]) := by kernel_rfl
theorem f60_ok : EntOk P 60 ⟨gi60, [go60], f60⟩ :=
  ent_ok (fn := Go.Proofs.Try.f60) (gi := gi60) (gos := [go60]) (f := f60) (c := c60) (fx := fx60) ⟨Go.Proofs.Try.func60, by kernel_rfl, rfl, by decide +kernel, rfl, rfl⟩ (by kernel_rfl) (Table.ok T39_ok _) hmix (planAt_ok (P := P) (n := Go.Proofs.Try.f60.ntmps) (fx := fx60) (c := c60) (d := 64) (l := []) trivial) f60_eq
noncomputable def T60 : Table := T39.add 60 [⟨gi60, [go60], f60⟩] []
theorem T60_ok : TableOk P T60 := Table.plus T39_ok (es := [⟨gi60, [go60], f60⟩]) ⟨f60_ok, trivial⟩ []

/-! ## 40: erasure/erasureref06.Back -/
noncomputable def c40 : Code := Func.code Go.Proofs.Try.f40
abbrev gi40 : Sg := ⟨[0], [.lf (.int .i64)], []⟩
abbrev go40 : Sg := ⟨[2, 3], [.lf (.int .i64), .lf (.int .i64)], []⟩
def fx40 : List Bool := []
abbrev g40_1 : Sg := ⟨[0, 4, 5], [.lf (.int .i64), .lf (.int .i64), .lf (.int .i64)], []⟩
abbrev o40_1 : Outs := [(.exit 0, ⟨[0, 4], [.lf (.int .i64), .lf (.int .i64)], []⟩)]
noncomputable def b40_1 (x : g40_1.D) : Option (outD ((.normal, g40_1) :: o40_1)) :=
  (if ((decide (x.2.2.1 < x.1)) = true) then (Option.bind (Go.Ev.Deflate.f60 (x.2.2.1, Unit.unit)) (fun y1 => (Option.bind (Go.Ev.Deflate.f57 (y1.1, Unit.unit)) (fun y2 => (some (Sum.inl (x.1, ((Go.IntKind.wrap Go.IntKind.i64 (x.2.1 + y2.1)), ((Go.IntKind.wrap Go.IntKind.i64 (x.2.2.1 + (1 : Int))), Unit.unit)))))))))
   else (some (Sum.inr (Sum.inl (x.1, (x.2.1, Unit.unit))))))
theorem b40_1_eq (x : g40_1.D) : b40_1 x = evF P (T60.orc _) Go.Proofs.Try.f40.ntmps fx40 (Code.at [true, true, false, true, false, false] c40) (planAt 64 []) g40_1 x (injK fx40 ((.normal, g40_1) :: o40_1) some) := by kernel_rfl
noncomputable def l40_1 : g40_1.D → Option (outD o40_1) := loopN g40_1 o40_1 b40_1 18446744073709551616
theorem at40_1 : Code.at [true, true, false, true, false] c40 = .loop (Code.at [true, true, false, true, false, false] c40) := by kernel_rfl
theorem s40_1_ok : SubOk P Go.Proofs.Try.f40.ntmps fx40 (Code.at [true, true, false, true, false] c40) ⟨g40_1, o40_1, l40_1⟩ := by
  rw [at40_1]
  exact loop_ok (sub_ok (g := g40_1) (outs := ((.normal, g40_1) :: o40_1)) (f := b40_1) (Table.ok T60_ok _) hmix (planAt_ok (P := P) (n := Go.Proofs.Try.f40.ntmps) (fx := fx40) (c := (Code.at [true, true, false, true, false, false] c40)) (d := 64) (l := []) trivial) b40_1_eq) rfl _
noncomputable def f40 (x : gi40.D) : Option go40.D :=
  (Option.bind (Go.Ev.Deflate.l40_1 (x.1, ((1 : Int), ((0 : Int), Unit.unit)))) (Sum.elim (fun y1 => (Option.bind (Go.Ev.Deflate.f60 (y1.1, Unit.unit)) (fun y2 => (some (y1.2.1, (y2.1, Unit.unit)))))) Empty.elim))
theorem f40_eq (x : gi40.D) : f40 x = evF P (T60.orc _) Go.Proofs.Try.f40.ntmps fx40 c40 (planAt 64 [([true, true, false, true, false], ⟨g40_1, o40_1, l40_1⟩)]) gi40 x (fnK fx40 [go40]) := by kernel_rfl
theorem pf40 : AllSub P Go.Proofs.Try.f40.ntmps fx40 c40 [([true, true, false, true, false], ⟨g40_1, o40_1, l40_1⟩)] := And.intro s40_1_ok (trivial)
theorem qf40 : PlanOk P Go.Proofs.Try.f40.ntmps fx40 (planAt 64 [([true, true, false, true, false], ⟨g40_1, o40_1, l40_1⟩)]) c40 := planAt_ok pf40
theorem f40_ok : EntOk P 40 ⟨gi40, [go40], f40⟩ :=
  ent_ok (fn := Go.Proofs.Try.f40) (gi := gi40) (gos := [go40]) (f := f40) (c := c40) (fx := fx40) ⟨Go.Proofs.Try.func40, by kernel_rfl, rfl, by decide +kernel, rfl, rfl⟩ (by kernel_rfl) (Table.ok T60_ok _) hmix (qf40) f40_eq
noncomputable def T40 : Table := T60.add 40 [⟨gi40, [go40], f40⟩] []
theorem T40_ok : TableOk P T40 := Table.plus T60_ok (es := [⟨gi40, [go40], f40⟩]) ⟨f40_ok, trivial⟩ []

/-! ## 41: erasure/erasureref04.Bytes -/
noncomputable def c41 : Code := Func.code Go.Proofs.Try.f41
abbrev gi41 : Sg := ⟨[0], [.lf (.sl .bool)], []⟩
abbrev go41 : Sg := ⟨[2], [.lf (.gr (.int .u8) 0)], [some (.arr true (.int .u8))]⟩
def fx41 : List Bool := []
abbrev g41_2 : Sg := ⟨[0, 3, 4, 5, 6], [.lf (.sl .bool), .lf (.gr (.int .u8) 0), .lf (.int .i64), .lf (.int .i64), .lf (.int .i64)], [some (.arr true (.int .u8))]⟩
abbrev o41_2 : Outs := [(.exit 2, ⟨[0, 3, 4, 5], [.lf (.sl .bool), .lf (.gr (.int .u8) 0), .lf (.int .i64), .lf (.int .i64)], [some (.arr true (.int .u8))]⟩)]
noncomputable def b41_2 (x : g41_2.D) : Option (outD ((.normal, g41_2) :: o41_2)) :=
  (if ((decide (x.2.2.2.1 < (Int.tmod x.2.1 (8 : Int)))) = true) then (if ((List.length x.2.2.2.2.1) = (List.length x.2.2.2.2.1)) then (some (Sum.inl (x.1, (x.2.1, ((Go.IntKind.wrap Go.IntKind.i64 ((2 : Int) * x.2.2.1)), ((Go.IntKind.wrap Go.IntKind.i64 (x.2.2.2.1 + (1 : Int))), (x.2.2.2.2.1, Unit.unit)))))))
   else none)
   else (if ((List.length x.2.2.2.2.1) = (List.length x.2.2.2.2.1)) then (some (Sum.inr (Sum.inl (x.1, (x.2.1, (x.2.2.1, (x.2.2.2.2.1, Unit.unit)))))))
   else none))
theorem b41_2_eq (x : g41_2.D) : b41_2 x = evF P (T40.orc _) Go.Proofs.Try.f41.ntmps fx41 (Code.at [true, true, false, true, false, false, true, false, false, true, false, true, false, true, false, false] c41) (planAt 64 []) g41_2 x (injK fx41 ((.normal, g41_2) :: o41_2) some) := by kernel_rfl
noncomputable def l41_2 : g41_2.D → Option (outD o41_2) := loopN g41_2 o41_2 b41_2 18446744073709551616
theorem at41_2 : Code.at [true, true, false, true, false, false, true, false, false, true, false, true, false, true, false] c41 = .loop (Code.at [true, true, false, true, false, false, true, false, false, true, false, true, false, true, false, false] c41) := by kernel_rfl
theorem s41_2_ok : SubOk P Go.Proofs.Try.f41.ntmps fx41 (Code.at [true, true, false, true, false, false, true, false, false, true, false, true, false, true, false] c41) ⟨g41_2, o41_2, l41_2⟩ := by
  rw [at41_2]
  exact loop_ok (sub_ok (g := g41_2) (outs := ((.normal, g41_2) :: o41_2)) (f := b41_2) (Table.ok T40_ok _) hmix (planAt_ok (P := P) (n := Go.Proofs.Try.f41.ntmps) (fx := fx41) (c := (Code.at [true, true, false, true, false, false, true, false, false, true, false, true, false, true, false, false] c41)) (d := 64) (l := []) trivial) b41_2_eq) rfl _
abbrev g41_1 : Sg := ⟨[0, 3, 4], [.lf (.sl .bool), .lf (.gr (.int .u8) 0), .lf (.int .i64)], [some (.arr true (.int .u8))]⟩
abbrev o41_1 : Outs := [(.exit 0, ⟨[3], [.lf (.gr (.int .u8) 0)], [some (.arr true (.int .u8))]⟩)]
noncomputable def b41_1 (x : g41_1.D) : Option (outD ((.normal, g41_1) :: o41_1)) :=
  (if ((decide (x.2.1 ≥ (0 : Int))) = true) then (if ((0 : Int) ≤ x.2.1) then (if (x.2.1 < (((List.length x.1) : Nat) : Int)) then (if ((List.getD x.1 (Int.toNat x.2.1) false) = true) then (if ((List.length x.2.2.1) = (List.length x.2.2.1)) then (Option.bind (Go.Ev.Deflate.l41_2 (x.1, (x.2.1, ((1 : Int), ((0 : Int), (x.2.2.1, Unit.unit)))))) (Sum.elim (fun y1 => (if ((0 : Int) ≤ (Go.IntKind.wrap Go.IntKind.i64 (Int.tdiv y1.2.1 (8 : Int)))) then (if ((Go.IntKind.wrap Go.IntKind.i64 (Int.tdiv y1.2.1 (8 : Int))) < (((List.length y1.2.2.2.1) : Nat) : Int)) then (if ((0 : Int) ≤ (Go.IntKind.wrap Go.IntKind.i64 (Int.tdiv y1.2.1 (8 : Int)))) then (if ((Go.IntKind.wrap Go.IntKind.i64 (Int.tdiv y1.2.1 (8 : Int))) < (((List.length y1.2.2.2.1) : Nat) : Int)) then (if ((List.length y1.2.2.2.1) = (List.length (List.set y1.2.2.2.1 ((0 : Nat) + (Int.toNat (Go.IntKind.wrap Go.IntKind.i64 (Int.tdiv y1.2.1 (8 : Int))))) (Go.IntKind.wrap Go.IntKind.u8 ((List.getD y1.2.2.2.1 ((0 : Nat) + (Int.toNat (Go.IntKind.wrap Go.IntKind.i64 (Int.tdiv y1.2.1 (8 : Int))))) (0 : Int)) + (Go.IntKind.wrap Go.IntKind.u8 y1.2.2.1)))))) then (some (Sum.inl (y1.1, ((Go.IntKind.wrap Go.IntKind.i64 (y1.2.1 - (1 : Int))), ((List.set y1.2.2.2.1 ((0 : Nat) + (Int.toNat (Go.IntKind.wrap Go.IntKind.i64 (Int.tdiv y1.2.1 (8 : Int))))) (Go.IntKind.wrap Go.IntKind.u8 ((List.getD y1.2.2.2.1 ((0 : Nat) + (Int.toNat (Go.IntKind.wrap Go.IntKind.i64 (Int.tdiv y1.2.1 (8 : Int))))) (0 : Int)) + (Go.IntKind.wrap Go.IntKind.u8 y1.2.2.1)))), Unit.unit)))))
   else none)
   else none)
   else none)
   else none)
   else none)) Empty.elim))
   else none)
   else (if ((List.length x.2.2.1) = (List.length x.2.2.1)) then (some (Sum.inl (x.1, ((Go.IntKind.wrap Go.IntKind.i64 (x.2.1 - (1 : Int))), (x.2.2.1, Unit.unit)))))
   else none))
   else none)
   else none)
   else (if ((List.length x.2.2.1) = (List.length x.2.2.1)) then (some (Sum.inr (Sum.inl (x.2.2.1, Unit.unit))))
   else none))
theorem b41_1_eq (x : g41_1.D) : b41_1 x = evF P (T40.orc _) Go.Proofs.Try.f41.ntmps fx41 (Code.at [true, true, false, true, false, false] c41) (planAt 64 [([true, false, false, true, false, true, false, true, false], ⟨g41_2, o41_2, l41_2⟩)]) g41_1 x (injK fx41 ((.normal, g41_1) :: o41_1) some) := by kernel_rfl
noncomputable def l41_1 : g41_1.D → Option (outD o41_1) := loopN g41_1 o41_1 b41_1 18446744073709551616
theorem p41_1 : AllSub P Go.Proofs.Try.f41.ntmps fx41 (Code.at [true, true, false, true, false, false] c41) [([true, false, false, true, false, true, false, true, false], ⟨g41_2, o41_2, l41_2⟩)] := And.intro s41_2_ok (trivial)
theorem q41_1 : PlanOk P Go.Proofs.Try.f41.ntmps fx41 (planAt 64 [([true, false, false, true, false, true, false, true, false], ⟨g41_2, o41_2, l41_2⟩)]) (Code.at [true, true, false, true, false, false] c41) := planAt_ok p41_1
theorem at41_1 : Code.at [true, true, false, true, false] c41 = .loop (Code.at [true, true, false, true, false, false] c41) := by kernel_rfl
theorem s41_1_ok : SubOk P Go.Proofs.Try.f41.ntmps fx41 (Code.at [true, true, false, true, false] c41) ⟨g41_1, o41_1, l41_1⟩ := by
  rw [at41_1]
  exact loop_ok (sub_ok (g := g41_1) (outs := ((.normal, g41_1) :: o41_1)) (f := b41_1) (Table.ok T40_ok _) hmix (q41_1) b41_1_eq) rfl _
noncomputable def f41 (x : gi41.D) : Option go41.D :=
  (if ((0 : Int) ≤ (Go.IntKind.wrap Go.IntKind.i64 (Int.tdiv (Go.IntKind.wrap Go.IntKind.i64 ((((List.length x.1) : Nat) : Int) + (7 : Int))) (8 : Int)))) then (if ((Go.IntKind.wrap Go.IntKind.i64 (Int.tdiv (Go.IntKind.wrap Go.IntKind.i64 ((((List.length x.1) : Nat) : Int) + (7 : Int))) (8 : Int))) ≤ (Go.IntKind.wrap Go.IntKind.i64 (Int.tdiv (Go.IntKind.wrap Go.IntKind.i64 ((((List.length x.1) : Nat) : Int) + (7 : Int))) (8 : Int)))) then (if ((Go.IntKind.wrap Go.IntKind.i64 (Int.tdiv (Go.IntKind.wrap Go.IntKind.i64 ((((List.length x.1) : Nat) : Int) + (7 : Int))) (8 : Int))) ≤ (281474976710656 : Int)) then (if ((Int.toNat (Go.IntKind.wrap Go.IntKind.i64 (Int.tdiv (Go.IntKind.wrap Go.IntKind.i64 ((((List.length x.1) : Nat) : Int) + (7 : Int))) (8 : Int)))) = (List.length (List.replicate (Int.toNat (Go.IntKind.wrap Go.IntKind.i64 (Int.tdiv (Go.IntKind.wrap Go.IntKind.i64 ((((List.length x.1) : Nat) : Int) + (7 : Int))) (8 : Int)))) (0 : Int)))) then (Option.bind (Go.Ev.Deflate.l41_1 (x.1, ((Go.IntKind.wrap Go.IntKind.i64 ((((List.length x.1) : Nat) : Int) - (1 : Int))), ((List.replicate (Int.toNat (Go.IntKind.wrap Go.IntKind.i64 (Int.tdiv (Go.IntKind.wrap Go.IntKind.i64 ((((List.length x.1) : Nat) : Int) + (7 : Int))) (8 : Int)))) (0 : Int)), Unit.unit)))) (Sum.elim (fun y1 => (if ((List.length y1.1) = (List.length y1.1)) then (some (y1.1, Unit.unit))
   else none)) Empty.elim))
   else none)
   else none)
   else none)
   else none)
theorem f41_eq (x : gi41.D) : f41 x = evF P (T40.orc _) Go.Proofs.Try.f41.ntmps fx41 c41 (planAt 64 [([true, true, false, true, false], ⟨g41_1, o41_1, l41_1⟩)]) gi41 x (fnK fx41 [go41]) := by kernel_rfl
theorem pf41 : AllSub P Go.Proofs.Try.f41.ntmps fx41 c41 [([true, true, false, true, false], ⟨g41_1, o41_1, l41_1⟩)] := And.intro s41_1_ok (trivial)
theorem qf41 : PlanOk P Go.Proofs.Try.f41.ntmps fx41 (planAt 64 [([true, true, false, true, false], ⟨g41_1, o41_1, l41_1⟩)]) c41 := planAt_ok pf41
theorem f41_ok : EntOk P 41 ⟨gi41, [go41], f41⟩ :=
  ent_ok (fn := Go.Proofs.Try.f41) (gi := gi41) (gos := [go41]) (f := f41) (c := c41) (fx := fx41) ⟨Go.Proofs.Try.func41, by kernel_rfl, rfl, by decide +kernel, rfl, rfl⟩ (by kernel_rfl) (Table.ok T40_ok _) hmix (qf41) f41_eq
noncomputable def T41 : Table := T40.add 41 [⟨gi41, [go41], f41⟩] []
theorem T41_ok : TableOk P T41 := Table.plus T40_ok (es := [⟨gi41, [go41], f41⟩]) ⟨f41_ok, trivial⟩ []

/-! ## 12: erasure/erasureref07.Put -/
noncomputable def c12 : Code := Func.code Go.Proofs.Try.f12
abbrev gi12 : Sg := ⟨[0], [.lf (.sl (.pair (.int .i64) (.pair (.int .i64) (.int .i64))))], []⟩
abbrev go12 : Sg := ⟨[2, 3], [.lf (.sl (.int .u8)), .lf (.int .i64)], []⟩
def fx12 : List Bool := []
abbrev g12_4 : Sg := ⟨[0, 4, 6, 7, 8, 9, 10, 11, 12], [.lf (.sl (.pair (.int .i64) (.pair (.int .i64) (.int .i64)))), .lf (.gr (.int .i64) 0), .lf (.sl (.int .i64)), .lf (.gr .bool 1), .lf (.int .i64), .lf (.ptr 2 0), .lf (.int .i64), .lf (.int .i64), .lf (.int .i64)], [some (.arr true (.int .i64)), some (.arr true .bool), some (.box true [.lf (.int .i64), .lf (.int .i64), .lf (.int .i64)])]⟩
abbrev o12_4 : Outs := [(.exit 6, ⟨[0, 4, 6, 7, 8, 9, 10, 11, 12], [.lf (.sl (.pair (.int .i64) (.pair (.int .i64) (.int .i64)))), .lf (.gr (.int .i64) 0), .lf (.sl (.int .i64)), .lf (.gr .bool 1), .lf (.int .i64), .lf (.ptr 2 0), .lf (.int .i64), .lf (.int .i64), .lf (.int .i64)], [some (.arr true (.int .i64)), some (.arr true .bool), some (.box true [.lf (.int .i64), .lf (.int .i64), .lf (.int .i64)])]⟩)]
noncomputable def b12_4 (x : g12_4.D) : Option (outD ((.normal, g12_4) :: o12_4)) :=
  (if ((decide (x.2.2.2.2.1 > x.2.2.2.2.2.2.2.2.2.2.1)) = true) then (Option.bind (Go.Ev.Deflate.f40 ((Go.IntKind.wrap Go.IntKind.i64 (x.2.2.2.1 - (1 : Int))), Unit.unit)) (fun y1 => (if ((List.length x.2.2.2.2.2.2.1) = (List.length x.2.2.2.2.2.2.1)) then (if ((List.length x.2.2.2.2.2.2.2.1) = (List.length x.2.2.2.2.2.2.2.1)) then (some (Sum.inl (x.1, (x.2.1, (x.2.2.1, ((Go.IntKind.wrap Go.IntKind.i64 (x.2.2.2.1 - (1 : Int))), (y1.1, (y1.2.1, (x.2.2.2.2.2.2.1, (x.2.2.2.2.2.2.2.1, (x.2.2.2.2.2.2.2.2.1, (x.2.2.2.2.2.2.2.2.2.1, (x.2.2.2.2.2.2.2.2.2.2.1, Unit.unit)))))))))))))
   else none)
   else none)))
   else (if ((List.length x.2.2.2.2.2.2.1) = (List.length x.2.2.2.2.2.2.1)) then (if ((List.length x.2.2.2.2.2.2.2.1) = (List.length x.2.2.2.2.2.2.2.1)) then (some (Sum.inr (Sum.inl (x.1, (x.2.1, (x.2.2.1, (x.2.2.2.1, (x.2.2.2.2.1, (x.2.2.2.2.2.1, (x.2.2.2.2.2.2.1, (x.2.2.2.2.2.2.2.1, (x.2.2.2.2.2.2.2.2.1, (x.2.2.2.2.2.2.2.2.2.1, (x.2.2.2.2.2.2.2.2.2.2.1, Unit.unit))))))))))))))
   else none)
   else none))
theorem b12_4_eq (x : g12_4.D) : b12_4 x = evF P (T41.orc _) Go.Proofs.Try.f12.ntmps fx12 (Code.at [true, true, true, true, true, true, false, true, false, false, true, false, false, true, true, true, true, true, true, true, true, true, true, false, false, false] c12) (planAt 64 []) g12_4 x (injK fx12 ((.normal, g12_4) :: o12_4) some) := by kernel_rfl
noncomputable def l12_4 : g12_4.D → Option (outD o12_4) := loopN g12_4 o12_4 b12_4 18446744073709551616
theorem at12_4 : Code.at [true, true, true, true, true, true, false, true, false, false, true, false, false, true, true, true, true, true, true, true, true, true, true, false, false] c12 = .loop (Code.at [true, true, true, true, true, true, false, true, false, false, true, false, false, true, true, true, true, true, true, true, true, true, true, false, false, false] c12) := by kernel_rfl
theorem s12_4_ok : SubOk P Go.Proofs.Try.f12.ntmps fx12 (Code.at [true, true, true, true, true, true, false, true, false, false, true, false, false, true, true, true, true, true, true, true, true, true, true, false, false] c12) ⟨g12_4, o12_4, l12_4⟩ := by
  rw [at12_4]
  exact loop_ok (sub_ok (g := g12_4) (outs := ((.normal, g12_4) :: o12_4)) (f := b12_4) (Table.ok T41_ok _) hmix (planAt_ok (P := P) (n := Go.Proofs.Try.f12.ntmps) (fx := fx12) (c := (Code.at [true, true, true, true, true, true, false, true, false, false, true, false, false, true, true, true, true, true, true, true, true, true, true, false, false, false] c12)) (d := 64) (l := []) trivial) b12_4_eq) rfl _
abbrev g12_3 : Sg := ⟨[0, 4, 6, 7, 8, 9, 10, 11, 12], [.lf (.sl (.pair (.int .i64) (.pair (.int .i64) (.int .i64)))), .lf (.gr (.int .i64) 0), .lf (.sl (.int .i64)), .lf (.gr .bool 1), .lf (.int .i64), .lf (.ptr 2 0), .lf (.int .i64), .lf (.int .i64), .lf (.int .i64)], [some (.arr true (.int .i64)), some (.arr true .bool), some (.box true [.lf (.int .i64), .lf (.int .i64), .lf (.int .i64)])]⟩
abbrev o12_3 : Outs := [(.exit 4, ⟨[0, 4, 6, 7, 8, 9, 10, 11, 12], [.lf (.sl (.pair (.int .i64) (.pair (.int .i64) (.int .i64)))), .lf (.gr (.int .i64) 0), .lf (.sl (.int .i64)), .lf (.gr .bool 1), .lf (.int .i64), .lf (.ptr 2 0), .lf (.int .i64), .lf (.int .i64), .lf (.int .i64)], [some (.arr true (.int .i64)), some (.arr true .bool), some (.box true [.lf (.int .i64), .lf (.int .i64), .lf (.int .i64)])]⟩)]
noncomputable def b12_3 (x : g12_3.D) : Option (outD ((.normal, g12_3) :: o12_3)) :=
  (if ((decide (x.2.2.2.2.1 > x.2.2.2.2.2.2.2.2.2.1)) = true) then (Option.bind (Go.Ev.Deflate.f38 ((Go.IntKind.wrap Go.IntKind.i64 (x.2.2.2.1 - (1 : Int))), Unit.unit)) (fun y1 => (if ((List.length x.2.2.2.2.2.2.1) = (List.length x.2.2.2.2.2.2.1)) then (if ((List.length x.2.2.2.2.2.2.2.1) = (List.length x.2.2.2.2.2.2.2.1)) then (some (Sum.inl (x.1, (x.2.1, (x.2.2.1, ((Go.IntKind.wrap Go.IntKind.i64 (x.2.2.2.1 - (1 : Int))), (y1.1, (y1.2.1, (x.2.2.2.2.2.2.1, (x.2.2.2.2.2.2.2.1, (x.2.2.2.2.2.2.2.2.1, (x.2.2.2.2.2.2.2.2.2.1, (x.2.2.2.2.2.2.2.2.2.2.1, Unit.unit)))))))))))))
   else none)
   else none)))
   else (if ((List.length x.2.2.2.2.2.2.1) = (List.length x.2.2.2.2.2.2.1)) then (if ((List.length x.2.2.2.2.2.2.2.1) = (List.length x.2.2.2.2.2.2.2.1)) then (some (Sum.inr (Sum.inl (x.1, (x.2.1, (x.2.2.1, (x.2.2.2.1, (x.2.2.2.2.1, (x.2.2.2.2.2.1, (x.2.2.2.2.2.2.1, (x.2.2.2.2.2.2.2.1, (x.2.2.2.2.2.2.2.2.1, (x.2.2.2.2.2.2.2.2.2.1, (x.2.2.2.2.2.2.2.2.2.2.1, Unit.unit))))))))))))))
   else none)
   else none))
theorem b12_3_eq (x : g12_3.D) : b12_3 x = evF P (T41.orc _) Go.Proofs.Try.f12.ntmps fx12 (Code.at [true, true, true, true, true, true, false, true, false, false, true, false, false, true, true, true, true, true, false, false, false] c12) (planAt 64 []) g12_3 x (injK fx12 ((.normal, g12_3) :: o12_3) some) := by kernel_rfl
noncomputable def l12_3 : g12_3.D → Option (outD o12_3) := loopN g12_3 o12_3 b12_3 18446744073709551616
theorem at12_3 : Code.at [true, true, true, true, true, true, false, true, false, false, true, false, false, true, true, true, true, true, false, false] c12 = .loop (Code.at [true, true, true, true, true, true, false, true, false, false, true, false, false, true, true, true, true, true, false, false, false] c12) := by kernel_rfl
theorem s12_3_ok : SubOk P Go.Proofs.Try.f12.ntmps fx12 (Code.at [true, true, true, true, true, true, false, true, false, false, true, false, false, true, true, true, true, true, false, false] c12) ⟨g12_3, o12_3, l12_3⟩ := by
  rw [at12_3]
  exact loop_ok (sub_ok (g := g12_3) (outs := ((.normal, g12_3) :: o12_3)) (f := b12_3) (Table.ok T41_ok _) hmix (planAt_ok (P := P) (n := Go.Proofs.Try.f12.ntmps) (fx := fx12) (c := (Code.at [true, true, true, true, true, true, false, true, false, false, true, false, false, true, true, true, true, true, false, false, false] c12)) (d := 64) (l := []) trivial) b12_3_eq) rfl _
abbrev g12_2 : Sg := ⟨[0, 4, 6, 7, 8], [.lf (.sl (.pair (.int .i64) (.pair (.int .i64) (.int .i64)))), .lf (.gr (.int .i64) 0), .lf (.sl (.int .i64)), .lf (.gr .bool 1), .lf (.int .i64)], [some (.arr true (.int .i64)), some (.arr true .bool)]⟩
abbrev o12_2 : Outs := [(.exit 2, ⟨[6, 7], [.lf (.sl (.int .i64)), .lf (.gr .bool 0)], [some (.arr true .bool)]⟩), (.ret, ⟨[2, 3], [.lf (.sl (.int .u8)), .lf (.int .i64)], []⟩)]
noncomputable def b12_2 (x : g12_2.D) : Option (outD ((.normal, g12_2) :: o12_2)) :=
  (if ((decide (x.2.2.1 < (((List.length x.1) : Nat) : Int))) = true) then (if ((0 : Int) ≤ x.2.2.1) then (if (x.2.2.1 < (((List.length x.1) : Nat) : Int)) then (Option.bind (Go.Ev.Deflate.f36 ((List.getD x.1 (Int.toNat x.2.2.1) ((0 : Int), ((0 : Int), (0 : Int)))).1, ((List.getD x.1 (Int.toNat x.2.2.1) ((0 : Int), ((0 : Int), (0 : Int)))).2.1, ((List.getD x.1 (Int.toNat x.2.2.1) ((0 : Int), ((0 : Int), (0 : Int)))).2.2, Unit.unit)))) (fun y1 => (if ((Bool.not y1.1) = true) then (some (Sum.inr (Sum.inr (Sum.inl ([], ((1 : Int), Unit.unit))))))
   else (if (((List.getD x.1 (Int.toNat x.2.2.1) ((0 : Int), ((0 : Int), (0 : Int)))).2.1 == (0 : Int)) = true) then (Option.bind (Go.Ev.Deflate.f37 (x.2.1, ((List.getD x.1 (Int.toNat x.2.2.1) ((0 : Int), ((0 : Int), (0 : Int)))).1, Unit.unit))) (fun y2 => (if (((List.length (List.take (List.length x.2.2.2.2.1) (List.drop (0 : Nat) x.2.2.2.2.1))) + (List.length (List.take (List.length y2.1) (List.drop (0 : Nat) y2.1)))) ≤ (140737488355328 : Nat)) then (if ((List.length x.2.2.2.1) = (List.length x.2.2.2.1)) then (if ((List.length ((List.take (List.length x.2.2.2.2.1) (List.drop (0 : Nat) x.2.2.2.2.1)) ++ (List.take (List.length y2.1) (List.drop (0 : Nat) y2.1)))) = (List.length ((List.take (List.length x.2.2.2.2.1) (List.drop (0 : Nat) x.2.2.2.2.1)) ++ (List.take (List.length y2.1) (List.drop (0 : Nat) y2.1))))) then (some (Sum.inl (x.1, (x.2.1, ((Go.IntKind.wrap Go.IntKind.i64 (x.2.2.1 + (1 : Int))), (x.2.2.2.1, (((List.take (List.length x.2.2.2.2.1) (List.drop (0 : Nat) x.2.2.2.2.1)) ++ (List.take (List.length y2.1) (List.drop (0 : Nat) y2.1))), Unit.unit)))))))
   else none)
   else none)
   else none)))
   else (Option.bind (Go.Ev.Deflate.f38 ((285 : Int), Unit.unit)) (fun y2 => (if ((List.length x.2.2.2.1) = (List.length x.2.2.2.1)) then (if ((List.length x.2.2.2.2.1) = (List.length x.2.2.2.2.1)) then (Option.bind (Go.Ev.Deflate.l12_3 (x.1, (x.2.1, (x.2.2.1, ((285 : Int), (y2.1, (y2.2.1, (x.2.2.2.1, (x.2.2.2.2.1, ((List.getD x.1 (Int.toNat x.2.2.1) ((0 : Int), ((0 : Int), (0 : Int)))).1, ((List.getD x.1 (Int.toNat x.2.2.1) ((0 : Int), ((0 : Int), (0 : Int)))).2.1, ((List.getD x.1 (Int.toNat x.2.2.1) ((0 : Int), ((0 : Int), (0 : Int)))).2.2, Unit.unit)))))))))))) (Sum.elim (fun y3 => (Option.bind (Go.Ev.Deflate.f37 (y3.2.1, (y3.2.2.2.1, Unit.unit))) (fun y4 => (if (((List.length (List.take (List.length y3.2.2.2.2.2.2.2.1) (List.drop (0 : Nat) y3.2.2.2.2.2.2.2.1))) + (List.length (List.take (List.length y4.1) (List.drop (0 : Nat) y4.1)))) ≤ (140737488355328 : Nat)) then (if ((List.length ((List.take (List.length y3.2.2.2.2.2.2.2.1) (List.drop (0 : Nat) y3.2.2.2.2.2.2.2.1)) ++ (List.take (List.length y4.1) (List.drop (0 : Nat) y4.1)))) = (List.length ((List.take (List.length y3.2.2.2.2.2.2.2.1) (List.drop (0 : Nat) y3.2.2.2.2.2.2.2.1)) ++ (List.take (List.length y4.1) (List.drop (0 : Nat) y4.1))))) then (Option.bind (Go.Ev.Deflate.f39 ((Go.IntKind.wrap Go.IntKind.i64 (y3.2.2.2.2.2.2.2.2.2.1 - y3.2.2.2.2.1)), (y3.2.2.2.2.2.1, (((List.take (List.length y3.2.2.2.2.2.2.2.1) (List.drop (0 : Nat) y3.2.2.2.2.2.2.2.1)) ++ (List.take (List.length y4.1) (List.drop (0 : Nat) y4.1))), Unit.unit)))) (fun y5 => (Option.bind (Go.Ev.Deflate.f40 ((29 : Int), Unit.unit)) (fun y6 => (if ((List.length y3.2.2.2.2.2.2.1) = (List.length y3.2.2.2.2.2.2.1)) then (if ((List.length y5.1) = (List.length y5.1)) then (Option.bind (Go.Ev.Deflate.l12_4 (y3.1, (y3.2.1, (y3.2.2.1, ((29 : Int), (y6.1, (y6.2.1, (y3.2.2.2.2.2.2.1, (y5.1, (y3.2.2.2.2.2.2.2.2.1, (y3.2.2.2.2.2.2.2.2.2.1, (y3.2.2.2.2.2.2.2.2.2.2.1, Unit.unit)))))))))))) (Sum.elim (fun y7 => (Option.bind (Go.Ev.Deflate.f37 ((List.take (List.length y7.2.2.2.2.2.2.1) (List.drop (0 : Nat) y7.2.2.2.2.2.2.1)), (y7.2.2.2.1, Unit.unit))) (fun y8 => (if (((List.length (List.take (List.length y7.2.2.2.2.2.2.2.1) (List.drop (0 : Nat) y7.2.2.2.2.2.2.2.1))) + (List.length (List.take (List.length y8.1) (List.drop (0 : Nat) y8.1)))) ≤ (140737488355328 : Nat)) then (if ((List.length ((List.take (List.length y7.2.2.2.2.2.2.2.1) (List.drop (0 : Nat) y7.2.2.2.2.2.2.2.1)) ++ (List.take (List.length y8.1) (List.drop (0 : Nat) y8.1)))) = (List.length ((List.take (List.length y7.2.2.2.2.2.2.2.1) (List.drop (0 : Nat) y7.2.2.2.2.2.2.2.1)) ++ (List.take (List.length y8.1) (List.drop (0 : Nat) y8.1))))) then (Option.bind (Go.Ev.Deflate.f39 ((Go.IntKind.wrap Go.IntKind.i64 (y7.2.2.2.2.2.2.2.2.2.2.1 - y7.2.2.2.2.1)), (y7.2.2.2.2.2.1, (((List.take (List.length y7.2.2.2.2.2.2.2.1) (List.drop (0 : Nat) y7.2.2.2.2.2.2.2.1)) ++ (List.take (List.length y8.1) (List.drop (0 : Nat) y8.1))), Unit.unit)))) (fun y9 => (if ((List.length y7.2.2.2.2.2.2.1) = (List.length y7.2.2.2.2.2.2.1)) then (if ((List.length y9.1) = (List.length y9.1)) then (some (Sum.inl (y7.1, (y7.2.1, ((Go.IntKind.wrap Go.IntKind.i64 (y7.2.2.1 + (1 : Int))), (y7.2.2.2.2.2.2.1, (y9.1, Unit.unit)))))))
   else none)
   else none)))
   else none)
   else none)))) Empty.elim))
   else none)
   else none)))))
   else none)
   else none)))) Empty.elim))
   else none)
   else none)))))))
   else none)
   else none)
   else (if ((List.length x.2.2.2.2.1) = (List.length x.2.2.2.2.1)) then (some (Sum.inr (Sum.inl (x.2.1, (x.2.2.2.2.1, Unit.unit)))))
   else none))
theorem b12_2_eq (x : g12_2.D) : b12_2 x = evF P (T41.orc _) Go.Proofs.Try.f12.ntmps fx12 (Code.at [true, true, true, true, true, true, false, true, false, false] c12) (planAt 64 [([true, false, false, true, true, true, true, true, false, false], ⟨g12_3, o12_3, l12_3⟩), ([true, false, false, true, true, true, true, true, true, true, true, true, true, false, false], ⟨g12_4, o12_4, l12_4⟩)]) g12_2 x (injK fx12 ((.normal, g12_2) :: o12_2) some) := by kernel_rfl
noncomputable def l12_2 : g12_2.D → Option (outD o12_2) := loopN g12_2 o12_2 b12_2 18446744073709551616
theorem p12_2 : AllSub P Go.Proofs.Try.f12.ntmps fx12 (Code.at [true, true, true, true, true, true, false, true, false, false] c12) [([true, false, false, true, true, true, true, true, false, false], ⟨g12_3, o12_3, l12_3⟩), ([true, false, false, true, true, true, true, true, true, true, true, true, true, false, false], ⟨g12_4, o12_4, l12_4⟩)] := And.intro s12_3_ok (And.intro s12_4_ok (trivial))
theorem q12_2 : PlanOk P Go.Proofs.Try.f12.ntmps fx12 (planAt 64 [([true, false, false, true, true, true, true, true, false, false], ⟨g12_3, o12_3, l12_3⟩), ([true, false, false, true, true, true, true, true, true, true, true, true, true, false, false], ⟨g12_4, o12_4, l12_4⟩)]) (Code.at [true, true, true, true, true, true, false, true, false, false] c12) := planAt_ok p12_2
theorem at12_2 : Code.at [true, true, true, true, true, true, false, true, false] c12 = .loop (Code.at [true, true, true, true, true, true, false, true, false, false] c12) := by kernel_rfl
theorem s12_2_ok : SubOk P Go.Proofs.Try.f12.ntmps fx12 (Code.at [true, true, true, true, true, true, false, true, false] c12) ⟨g12_2, o12_2, l12_2⟩ := by
  rw [at12_2]
  exact loop_ok (sub_ok (g := g12_2) (outs := ((.normal, g12_2) :: o12_2)) (f := b12_2) (Table.ok T41_ok _) hmix (q12_2) b12_2_eq) rfl _
abbrev g12_1 : Sg := ⟨[0, 4, 5], [.lf (.sl (.pair (.int .i64) (.pair (.int .i64) (.int .i64)))), .lf (.gr (.int .i64) 0), .lf (.int .i64)], [some (.arr true (.int .i64))]⟩
abbrev o12_1 : Outs := [(.exit 0, ⟨[0, 4], [.lf (.sl (.pair (.int .i64) (.pair (.int .i64) (.int .i64)))), .lf (.gr (.int .i64) 0)], [some (.arr true (.int .i64))]⟩)]
noncomputable def b12_1 (x : g12_1.D) : Option (outD ((.normal, g12_1) :: o12_1)) :=
  (if ((decide (x.2.1 < (30 : Int))) = true) then (if (((List.length (List.take (List.length x.2.2.1) (List.drop (0 : Nat) x.2.2.1))) + (1 : Nat)) ≤ (17592186044416 : Nat)) then (if ((List.length ((List.take (List.length x.2.2.1) (List.drop (0 : Nat) x.2.2.1)) ++ (List.take (1 : Nat) (List.drop (0 : Nat) (List.set (List.replicate (1 : Nat) (0 : Int)) (0 : Nat) (5 : Int)))))) = (List.length ((List.take (List.length x.2.2.1) (List.drop (0 : Nat) x.2.2.1)) ++ (List.take (1 : Nat) (List.drop (0 : Nat) (List.set (List.replicate (1 : Nat) (0 : Int)) (0 : Nat) (5 : Int))))))) then (some (Sum.inl (x.1, ((Go.IntKind.wrap Go.IntKind.i64 (x.2.1 + (1 : Int))), (((List.take (List.length x.2.2.1) (List.drop (0 : Nat) x.2.2.1)) ++ (List.take (1 : Nat) (List.drop (0 : Nat) (List.set (List.replicate (1 : Nat) (0 : Int)) (0 : Nat) (5 : Int))))), Unit.unit)))))
   else none)
   else none)
   else (if ((List.length x.2.2.1) = (List.length x.2.2.1)) then (some (Sum.inr (Sum.inl (x.1, (x.2.2.1, Unit.unit)))))
   else none))
theorem b12_1_eq (x : g12_1.D) : b12_1 x = evF P (T41.orc _) Go.Proofs.Try.f12.ntmps fx12 (Code.at [true, true, false, true, false, false] c12) (planAt 64 []) g12_1 x (injK fx12 ((.normal, g12_1) :: o12_1) some) := by kernel_rfl
noncomputable def l12_1 : g12_1.D → Option (outD o12_1) := loopN g12_1 o12_1 b12_1 18446744073709551616
theorem at12_1 : Code.at [true, true, false, true, false] c12 = .loop (Code.at [true, true, false, true, false, false] c12) := by kernel_rfl
theorem s12_1_ok : SubOk P Go.Proofs.Try.f12.ntmps fx12 (Code.at [true, true, false, true, false] c12) ⟨g12_1, o12_1, l12_1⟩ := by
  rw [at12_1]
  exact loop_ok (sub_ok (g := g12_1) (outs := ((.normal, g12_1) :: o12_1)) (f := b12_1) (Table.ok T41_ok _) hmix (planAt_ok (P := P) (n := Go.Proofs.Try.f12.ntmps) (fx := fx12) (c := (Code.at [true, true, false, true, false, false] c12)) (d := 64) (l := []) trivial) b12_1_eq) rfl _
noncomputable def f12 (x : gi12.D) : Option go12.D :=
  (Option.bind (Go.Ev.Deflate.l12_1 (x.1, ((0 : Int), ([], Unit.unit)))) (Sum.elim (fun y1 => (if (((List.length (List.take (List.length y1.2.1) (List.drop (0 : Nat) y1.2.1))) + (2 : Nat)) ≤ (17592186044416 : Nat)) then (Option.bind (Go.Ev.Deflate.f35 Unit.unit) (fun y2 => (if ((List.length ((List.take (List.length y1.2.1) (List.drop (0 : Nat) y1.2.1)) ++ (List.take (2 : Nat) (List.drop (0 : Nat) (List.set (List.set (List.replicate (2 : Nat) (0 : Int)) (0 : Nat) (5 : Int)) (1 : Nat) (5 : Int)))))) = (List.length ((List.take (List.length y1.2.1) (List.drop (0 : Nat) y1.2.1)) ++ (List.take (2 : Nat) (List.drop (0 : Nat) (List.set (List.set (List.replicate (2 : Nat) (0 : Int)) (0 : Nat) (5 : Int)) (1 : Nat) (5 : Int))))))) then (Option.bind (Go.Ev.Deflate.l12_2 (y1.1, ((List.take (List.length y2.1) (List.drop (0 : Nat) y2.1)), ((0 : Int), (((List.take (List.length y1.2.1) (List.drop (0 : Nat) y1.2.1)) ++ (List.take (2 : Nat) (List.drop (0 : Nat) (List.set (List.set (List.replicate (2 : Nat) (0 : Int)) (0 : Nat) (5 : Int)) (1 : Nat) (5 : Int))))), ((List.set (List.set (List.set (List.replicate (3 : Nat) false) (0 : Nat) true) (1 : Nat) true) (2 : Nat) false), Unit.unit)))))) (Sum.elim (fun y3 => (Option.bind (Go.Ev.Deflate.f37 (y3.1, ((256 : Int), Unit.unit))) (fun y4 => (if (((List.length (List.take (List.length y3.2.1) (List.drop (0 : Nat) y3.2.1))) + (List.length (List.take (List.length y4.1) (List.drop (0 : Nat) y4.1)))) ≤ (140737488355328 : Nat)) then (Option.bind (Go.Ev.Deflate.f41 ((List.take (List.length ((List.take (List.length y3.2.1) (List.drop (0 : Nat) y3.2.1)) ++ (List.take (List.length y4.1) (List.drop (0 : Nat) y4.1)))) (List.drop (0 : Nat) ((List.take (List.length y3.2.1) (List.drop (0 : Nat) y3.2.1)) ++ (List.take (List.length y4.1) (List.drop (0 : Nat) y4.1))))), Unit.unit)) (fun y5 => (some ((List.take (List.length y5.1) (List.drop (0 : Nat) y5.1)), ((0 : Int), Unit.unit)))))
   else none)))) (Sum.elim (fun y3 => (some (y3.1, (y3.2.1, Unit.unit)))) Empty.elim)))
   else none)))
   else none)) Empty.elim))
theorem f12_eq (x : gi12.D) : f12 x = evF P (T41.orc _) Go.Proofs.Try.f12.ntmps fx12 c12 (planAt 64 [([true, true, false, true, false], ⟨g12_1, o12_1, l12_1⟩), ([true, true, true, true, true, true, false, true, false], ⟨g12_2, o12_2, l12_2⟩)]) gi12 x (fnK fx12 [go12]) := by kernel_rfl
theorem pf12 : AllSub P Go.Proofs.Try.f12.ntmps fx12 c12 [([true, true, false, true, false], ⟨g12_1, o12_1, l12_1⟩), ([true, true, true, true, true, true, false, true, false], ⟨g12_2, o12_2, l12_2⟩)] := And.intro s12_1_ok (And.intro s12_2_ok (trivial))
theorem qf12 : PlanOk P Go.Proofs.Try.f12.ntmps fx12 (planAt 64 [([true, true, false, true, false], ⟨g12_1, o12_1, l12_1⟩), ([true, true, true, true, true, true, false, true, false], ⟨g12_2, o12_2, l12_2⟩)]) c12 := planAt_ok pf12
theorem f12_ok : EntOk P 12 ⟨gi12, [go12], f12⟩ :=
  ent_ok (fn := Go.Proofs.Try.f12) (gi := gi12) (gos := [go12]) (f := f12) (c := c12) (fx := fx12) ⟨Go.Proofs.Try.func12, by kernel_rfl, rfl, by decide +kernel, rfl, rfl⟩ (by kernel_rfl) (Table.ok T41_ok _) hmix (qf12) f12_eq
noncomputable def T12 : Table := T41.add 12 [⟨gi12, [go12], f12⟩] []
theorem T12_ok : TableOk P T12 := Table.plus T41_ok (es := [⟨gi12, [go12], f12⟩]) ⟨f12_ok, trivial⟩ []

/-! ## 13: erasure/deflate.Deflate -/
noncomputable def c13 : Code := Func.code Go.Proofs.Try.f13
abbrev gi13 : Sg := ⟨[0], [.lf (.sl (.int .u8))], []⟩
abbrev go13 : Sg := ⟨[2, 3], [.lf (.gr (.int .u8) 0), .lf (.int .i64)], [some (.arr true (.int .u8))]⟩
def fx13 : List Bool := []
noncomputable def f13 (x : gi13.D) : Option go13.D :=
  (Option.bind (Go.Ev.Deflate.f9 (x.1, Unit.unit)) (fun y1 => (if ((y1.1 != (0 : Int)) = true) then (some (y1.1, ([], Unit.unit)))
   else (Option.bind (Go.Ev.Deflate.f11 ((List.take (List.length y1.2.1) (List.drop (0 : Nat) y1.2.1)), Unit.unit)) (fun y2 => (if ((List.length y2.2.1) = (List.length y2.2.1)) then (some (y2.1, (y2.2.1, Unit.unit)))
   else none))))))
theorem f13_eq (x : gi13.D) : f13 x = evF P (T12.orc _) Go.Proofs.Try.f13.ntmps fx13 c13 (planAt 64 []) gi13 x (fnK fx13 [go13]) := by kernel_rfl
theorem f13_ok : EntOk P 13 ⟨gi13, [go13], f13⟩ :=
  ent_ok (fn := Go.Proofs.Try.f13) (gi := gi13) (gos := [go13]) (f := f13) (c := c13) (fx := fx13) ⟨Go.Proofs.Try.func13, by kernel_rfl, rfl, by decide +kernel, rfl, rfl⟩ (by kernel_rfl) (Table.ok T12_ok _) hmix (planAt_ok (P := P) (n := Go.Proofs.Try.f13.ntmps) (fx := fx13) (c := c13) (d := 64) (l := []) trivial) f13_eq
noncomputable def T13 : Table := T12.add 13 [⟨gi13, [go13], f13⟩] []
theorem T13_ok : TableOk P T13 := Table.plus T12_ok (es := [⟨gi13, [go13], f13⟩]) ⟨f13_ok, trivial⟩ []

/-! ## 14: erasure/erasureref07.Deflate -/
noncomputable def c14 : Code := Func.code Go.Proofs.Try.f14
abbrev gi14 : Sg := ⟨[0], [.lf (.sl (.int .u8))], []⟩
abbrev go14 : Sg := ⟨[2, 3], [.lf (.sl (.int .u8)), .lf (.int .i64)], []⟩
def fx14 : List Bool := []
noncomputable def f14 (x : gi14.D) : Option go14.D :=
  (Option.bind (Go.Ev.Deflate.f10 (x.1, Unit.unit)) (fun y1 => (if ((y1.1 != (0 : Int)) = true) then (some ([], (y1.1, Unit.unit)))
   else (Option.bind (Go.Ev.Deflate.f12 ((List.take (List.length y1.2.1) (List.drop (0 : Nat) y1.2.1)), Unit.unit)) (fun y2 => (some (y2.1, (y2.2.1, Unit.unit))))))))
theorem f14_eq (x : gi14.D) : f14 x = evF P (T13.orc _) Go.Proofs.Try.f14.ntmps fx14 c14 (planAt 64 []) gi14 x (fnK fx14 [go14]) := by kernel_rfl
theorem f14_ok : EntOk P 14 ⟨gi14, [go14], f14⟩ :=
  ent_ok (fn := Go.Proofs.Try.f14) (gi := gi14) (gos := [go14]) (f := f14) (c := c14) (fx := fx14) ⟨Go.Proofs.Try.func14, by kernel_rfl, rfl, by decide +kernel, rfl, rfl⟩ (by kernel_rfl) (Table.ok T13_ok _) hmix (planAt_ok (P := P) (n := Go.Proofs.Try.f14.ntmps) (fx := fx14) (c := c14) (d := 64) (l := []) trivial) f14_eq
noncomputable def T14 : Table := T13.add 14 [⟨gi14, [go14], f14⟩] []
theorem T14_ok : TableOk P T14 := Table.plus T13_ok (es := [⟨gi14, [go14], f14⟩]) ⟨f14_ok, trivial⟩ []

/-! ## 16: erasure/erasureref06.Same -/
noncomputable def c16 : Code := Func.code Go.Proofs.Try.f16
abbrev gi16 : Sg := ⟨[0, 1], [.lf (.sl (.pair (.int .i64) (.pair (.int .i64) (.int .i64)))), .lf (.sl (.pair (.int .i64) (.pair (.int .i64) (.int .i64))))], []⟩
abbrev go16 : Sg := ⟨[4], [.lf .bool], []⟩
def fx16 : List Bool := []
abbrev g16_1 : Sg := ⟨[0, 1, 5], [.lf (.sl (.pair (.int .i64) (.pair (.int .i64) (.int .i64)))), .lf (.sl (.pair (.int .i64) (.pair (.int .i64) (.int .i64)))), .lf (.int .i64)], []⟩
abbrev o16_1 : Outs := [(.exit 0, ⟨[], [], []⟩), (.ret, ⟨[4], [.lf .bool], []⟩)]
noncomputable def b16_1 (x : g16_1.D) : Option (outD ((.normal, g16_1) :: o16_1)) :=
  (if ((decide (x.2.2.1 < (((List.length x.1) : Nat) : Int))) = true) then (if ((0 : Int) ≤ x.2.2.1) then (if (x.2.2.1 < (((List.length x.1) : Nat) : Int)) then (if ((0 : Int) ≤ x.2.2.1) then (if (x.2.2.1 < (((List.length x.2.1) : Nat) : Int)) then (if ((Bool.not (Go.Ev.allEq ((((List.getD x.1 (Int.toNat x.2.2.1) ((0 : Int), ((0 : Int), (0 : Int)))).1, (List.getD x.2.1 (Int.toNat x.2.2.1) ((0 : Int), ((0 : Int), (0 : Int)))).1) :: []) ++ ((((List.getD x.1 (Int.toNat x.2.2.1) ((0 : Int), ((0 : Int), (0 : Int)))).2.1, (List.getD x.2.1 (Int.toNat x.2.2.1) ((0 : Int), ((0 : Int), (0 : Int)))).2.1) :: []) ++ ((((List.getD x.1 (Int.toNat x.2.2.1) ((0 : Int), ((0 : Int), (0 : Int)))).2.2, (List.getD x.2.1 (Int.toNat x.2.2.1) ((0 : Int), ((0 : Int), (0 : Int)))).2.2) :: []) ++ []))))) = true) then (some (Sum.inr (Sum.inr (Sum.inl (false, Unit.unit)))))
   else (some (Sum.inl (x.1, (x.2.1, ((Go.IntKind.wrap Go.IntKind.i64 (x.2.2.1 + (1 : Int))), Unit.unit))))))
   else none)
   else none)
   else none)
   else none)
   else (some (Sum.inr (Sum.inl Unit.unit))))
theorem b16_1_eq (x : g16_1.D) : b16_1 x = evF P (T14.orc _) Go.Proofs.Try.f16.ntmps fx16 (Code.at [true, true, false, true, false, false] c16) (planAt 64 []) g16_1 x (injK fx16 ((.normal, g16_1) :: o16_1) some) := by kernel_rfl
noncomputable def l16_1 : g16_1.D → Option (outD o16_1) := loopN g16_1 o16_1 b16_1 18446744073709551616
theorem at16_1 : Code.at [true, true, false, true, false] c16 = .loop (Code.at [true, true, false, true, false, false] c16) := by kernel_rfl
theorem s16_1_ok : SubOk P Go.Proofs.Try.f16.ntmps fx16 (Code.at [true, true, false, true, false] c16) ⟨g16_1, o16_1, l16_1⟩ := by
  rw [at16_1]
  exact loop_ok (sub_ok (g := g16_1) (outs := ((.normal, g16_1) :: o16_1)) (f := b16_1) (Table.ok T14_ok _) hmix (planAt_ok (P := P) (n := Go.Proofs.Try.f16.ntmps) (fx := fx16) (c := (Code.at [true, true, false, true, false, false] c16)) (d := 64) (l := []) trivial) b16_1_eq) rfl _
noncomputable def f16 (x : gi16.D) : Option go16.D :=
  (if (((((List.length x.1) : Nat) : Int) != (((List.length x.2.1) : Nat) : Int)) = true) then (some (false, Unit.unit))
   else (Option.bind (Go.Ev.Deflate.l16_1 (x.1, (x.2.1, ((0 : Int), Unit.unit)))) (Sum.elim (fun _ => (some (true, Unit.unit))) (Sum.elim (fun y1 => (some (y1.1, Unit.unit))) Empty.elim))))
theorem f16_eq (x : gi16.D) : f16 x = evF P (T14.orc _) Go.Proofs.Try.f16.ntmps fx16 c16 (planAt 64 [([true, true, false, true, false], ⟨g16_1, o16_1, l16_1⟩)]) gi16 x (fnK fx16 [go16]) := by kernel_rfl
theorem pf16 : AllSub P Go.Proofs.Try.f16.ntmps fx16 c16 [([true, true, false, true, false], ⟨g16_1, o16_1, l16_1⟩)] := And.intro s16_1_ok (trivial)
theorem qf16 : PlanOk P Go.Proofs.Try.f16.ntmps fx16 (planAt 64 [([true, true, false, true, false], ⟨g16_1, o16_1, l16_1⟩)]) c16 := planAt_ok pf16
theorem f16_ok : EntOk P 16 ⟨gi16, [go16], f16⟩ :=
  ent_ok (fn := Go.Proofs.Try.f16) (gi := gi16) (gos := [go16]) (f := f16) (c := c16) (fx := fx16) ⟨Go.Proofs.Try.func16, by kernel_rfl, rfl, by decide +kernel, rfl, rfl⟩ (by kernel_rfl) (Table.ok T14_ok _) hmix (qf16) f16_eq
noncomputable def T16 : Table := T14.add 16 [⟨gi16, [go16], f16⟩] []
theorem T16_ok : TableOk P T16 := Table.plus T14_ok (es := [⟨gi16, [go16], f16⟩]) ⟨f16_ok, trivial⟩ []

/-! ## 15: erasure/erasurelaw07.awake -/
noncomputable def c15 : Code := Func.code Go.Proofs.Try.f15
abbrev gi15 : Sg := ⟨[], [], []⟩
abbrev go15 : Sg := ⟨[0], [.lf .bool], []⟩
def fx15 : List Bool := []
noncomputable def f15 (_ : gi15.D) : Option go15.D :=
  (Option.bind (Go.Ev.Deflate.f9 ((List.take (6 : Nat) (List.drop (0 : Nat) (List.set (List.set (List.set (List.set (List.set (List.set (List.replicate (6 : Nat) (0 : Int)) (0 : Nat) (97 : Int)) (1 : Nat) (98 : Int)) (2 : Nat) (97 : Int)) (3 : Nat) (98 : Int)) (4 : Nat) (97 : Int)) (5 : Nat) (98 : Int)))), Unit.unit)) (fun y1 => (Option.bind (Go.Ev.Deflate.f13 ((List.take (3 : Nat) (List.drop (0 : Nat) (List.set (List.set (List.set (List.replicate (3 : Nat) (0 : Int)) (0 : Nat) (97 : Int)) (1 : Nat) (98 : Int)) (2 : Nat) (99 : Int)))), Unit.unit)) (fun y2 => (Option.bind (Go.Ev.Deflate.f16 ((List.take (List.length y1.2.1) (List.drop (0 : Nat) y1.2.1)), ((List.take (3 : Nat) (List.drop (0 : Nat) (List.set (List.set (List.set (List.replicate (3 : Nat) ((0 : Int), ((0 : Int), (0 : Int)))) (0 : Nat) ((97 : Int), ((0 : Int), (0 : Int)))) (1 : Nat) ((98 : Int), ((0 : Int), (0 : Int)))) (2 : Nat) ((0 : Int), ((4 : Int), (2 : Int)))))), Unit.unit))) (fun y3 => (if (y3.1 = true) then (if ((y1.1 == (0 : Int)) = true) then (if (((ByteArray.toList (ByteArray.mk (List.toArray (List.map (fun y4 => (UInt8.ofNat (Int.toNat y4))) (List.take (List.length y2.2.1) (List.drop (0 : Nat) y2.2.1)))))) == (ByteArray.toList (ByteArray.mk #[75, 76, 74, 6, 0]))) = true) then (some ((y2.1 == y1.1), Unit.unit))
   else (some (false, Unit.unit)))
   else (some (false, Unit.unit)))
   else (some (false, Unit.unit)))))))))
theorem f15_eq (x : gi15.D) : f15 x = evF P (T16.orc _) Go.Proofs.Try.f15.ntmps fx15 c15 (planAt 64 []) gi15 x (fnK fx15 [go15]) := by kernel_rfl
theorem f15_ok : EntOk P 15 ⟨gi15, [go15], f15⟩ :=
  ent_ok (fn := Go.Proofs.Try.f15) (gi := gi15) (gos := [go15]) (f := f15) (c := c15) (fx := fx15) ⟨Go.Proofs.Try.func15, by kernel_rfl, rfl, by decide +kernel, rfl, rfl⟩ (by kernel_rfl) (Table.ok T16_ok _) hmix (planAt_ok (P := P) (n := Go.Proofs.Try.f15.ntmps) (fx := fx15) (c := c15) (d := 64) (l := []) trivial) f15_eq
noncomputable def T15 : Table := T16.add 15 [⟨gi15, [go15], f15⟩] []
theorem T15_ok : TableOk P T15 := Table.plus T16_ok (es := [⟨gi15, [go15], f15⟩]) ⟨f15_ok, trivial⟩ []

/-! ## 3: erasure/erasurelaw07.DeflateDoes -/
noncomputable def c3 : Code := Func.code Go.Proofs.Try.f3
end Go.Ev.Deflate
