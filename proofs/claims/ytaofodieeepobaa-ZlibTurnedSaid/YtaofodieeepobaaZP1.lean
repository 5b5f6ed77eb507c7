/- Part of a proof about the given program: ZP1. -/
import Derived.Test.YtaofodieeepobaaEvZ
import Derived.Test.YtaofodieeepobaaChecked
namespace Go.Ev.Zlib
open Go.Ev

noncomputable abbrev P := Go.Proofs.Try.prog
set_option maxRecDepth 1000000
theorem hmix : P.follows .mixedOrders = true := by kernel_rfl

/-! ## 28: erasure/deflate.run -/
noncomputable def c28 : Code := Func.code Go.Proofs.Try.f28
abbrev gi28 : Sg := ⟨[0, 1, 2], [.lf (.sl (.int .u8)), .lf (.int .i64), .lf (.int .i64)], []⟩
abbrev go28 : Sg := ⟨[6], [.lf (.int .i64)], []⟩
def fx28 : List Bool := []
abbrev g28_1 : Sg := ⟨[0, 1, 2, 7], [.lf (.sl (.int .u8)), .lf (.int .i64), .lf (.int .i64), .lf (.int .i64)], []⟩
abbrev o28_1 : Outs := [(.exit 0, ⟨[7], [.lf (.int .i64)], []⟩)]
noncomputable def b28_1 (x : g28_1.D) : Option (outD ((.normal, g28_1) :: o28_1)) :=
  (if ((decide (x.2.2.2.1 < (258 : Int))) = true) then (if ((decide ((Go.IntKind.wrap Go.IntKind.i64 (x.2.1 + x.2.2.2.1)) < (((List.length x.1) : Nat) : Int))) = true) then (if ((0 : Int) ≤ (Go.IntKind.wrap Go.IntKind.i64 (x.2.1 + x.2.2.2.1))) then (if ((Go.IntKind.wrap Go.IntKind.i64 (x.2.1 + x.2.2.2.1)) < (((List.length x.1) : Nat) : Int)) then (if ((0 : Int) ≤ (Go.IntKind.wrap Go.IntKind.i64 ((Go.IntKind.wrap Go.IntKind.i64 (x.2.1 + x.2.2.2.1)) - x.2.2.1))) then (if ((Go.IntKind.wrap Go.IntKind.i64 ((Go.IntKind.wrap Go.IntKind.i64 (x.2.1 + x.2.2.2.1)) - x.2.2.1)) < (((List.length x.1) : Nat) : Int)) then (if (((List.getD x.1 (Int.toNat (Go.IntKind.wrap Go.IntKind.i64 (x.2.1 + x.2.2.2.1))) (0 : Int)) == (List.getD x.1 (Int.toNat (Go.IntKind.wrap Go.IntKind.i64 ((Go.IntKind.wrap Go.IntKind.i64 (x.2.1 + x.2.2.2.1)) - x.2.2.1))) (0 : Int))) = true) then (some (Sum.inl (x.1, (x.2.1, (x.2.2.1, ((Go.IntKind.wrap Go.IntKind.i64 (x.2.2.2.1 + (1 : Int))), Unit.unit))))))
   else (some (Sum.inr (Sum.inl (x.2.2.2.1, Unit.unit)))))
   else none)
   else none)
   else none)
   else none)
   else (some (Sum.inr (Sum.inl (x.2.2.2.1, Unit.unit)))))
   else (some (Sum.inr (Sum.inl (x.2.2.2.1, Unit.unit)))))
theorem b28_1_eq (x : g28_1.D) : b28_1 x = evF P (Table.empty.orc _) Go.Proofs.Try.f28.ntmps fx28 (Code.at [true, true, false, false, false] c28) (planAt 64 []) g28_1 x (injK fx28 ((.normal, g28_1) :: o28_1) some) := by kernel_rfl
noncomputable def l28_1 : g28_1.D → Option (outD o28_1) := loopN g28_1 o28_1 b28_1 18446744073709551616
theorem at28_1 : Code.at [true, true, false, false] c28 = .loop (Code.at [true, true, false, false, false] c28) := by kernel_rfl
theorem s28_1_ok : SubOk P Go.Proofs.Try.f28.ntmps fx28 (Code.at [true, true, false, false] c28) ⟨g28_1, o28_1, l28_1⟩ := by
  rw [at28_1]
  exact loop_ok (sub_ok (g := g28_1) (outs := ((.normal, g28_1) :: o28_1)) (f := b28_1) (Table.ok (Table.empty_ok P) _) hmix (planAt_ok (P := P) (n := Go.Proofs.Try.f28.ntmps) (fx := fx28) (c := (Code.at [true, true, false, false, false] c28)) (d := 64) (l := []) trivial) b28_1_eq) rfl _
noncomputable def f28 (x : gi28.D) : Option go28.D :=
  (Option.bind (Go.Ev.Zlib.l28_1 (x.1, (x.2.1, (x.2.2.1, ((0 : Int), Unit.unit))))) (Sum.elim (fun y1 => (some (y1.1, Unit.unit))) Empty.elim))
theorem f28_eq (x : gi28.D) : f28 x = evF P (Table.empty.orc _) Go.Proofs.Try.f28.ntmps fx28 c28 (planAt 64 [([true, true, false, false], ⟨g28_1, o28_1, l28_1⟩)]) gi28 x (fnK fx28 [go28]) := by kernel_rfl
theorem pf28 : AllSub P Go.Proofs.Try.f28.ntmps fx28 c28 [([true, true, false, false], ⟨g28_1, o28_1, l28_1⟩)] := And.intro s28_1_ok (trivial)
theorem qf28 : PlanOk P Go.Proofs.Try.f28.ntmps fx28 (planAt 64 [([true, true, false, false], ⟨g28_1, o28_1, l28_1⟩)]) c28 := planAt_ok pf28
theorem f28_ok : EntOk P 28 ⟨gi28, [go28], f28⟩ :=
  ent_ok (fn := Go.Proofs.Try.f28) (gi := gi28) (gos := [go28]) (f := f28) (c := c28) (fx := fx28) ⟨Go.Proofs.Try.func28, by kernel_rfl, rfl, by decide +kernel, rfl, rfl⟩ (by kernel_rfl) (Table.ok (Table.empty_ok P) _) hmix (qf28) f28_eq
noncomputable def T28 : Table := Table.empty.add 28 [⟨gi28, [go28], f28⟩] []
theorem T28_ok : TableOk P T28 := Table.plus (Table.empty_ok P) (es := [⟨gi28, [go28], f28⟩]) ⟨f28_ok, trivial⟩ []

/-! ## 20: erasure/deflate.Tokens -/
noncomputable def c20 : Code := Func.code Go.Proofs.Try.f20
abbrev gi20 : Sg := ⟨[0], [.lf (.sl (.int .u8))], []⟩
abbrev go20 : Sg := ⟨[2, 3], [.lf (.gr (.pair (.int .i64) (.pair (.int .i64) (.int .i64))) 0), .lf (.int .i64)], [some (.arr true (.pair (.int .i64) (.pair (.int .i64) (.int .i64))))]⟩
def fx20 : List Bool := []
abbrev g20_2 : Sg := ⟨[0, 4, 5, 6, 7], [.lf (.sl (.int .u8)), .lf (.gr (.pair (.int .i64) (.pair (.int .i64) (.int .i64))) 0), .lf (.int .i64), .lf (.ptr 1 0), .lf (.int .i64)], [some (.arr true (.pair (.int .i64) (.pair (.int .i64) (.int .i64)))), some (.box true [.lf (.int .i64), .lf (.int .i64), .lf (.int .i64)])]⟩
abbrev o20_2 : Outs := [(.exit 2, ⟨[0, 4, 5, 6], [.lf (.sl (.int .u8)), .lf (.gr (.pair (.int .i64) (.pair (.int .i64) (.int .i64))) 0), .lf (.int .i64), .lf (.ptr 1 0)], [some (.arr true (.pair (.int .i64) (.pair (.int .i64) (.int .i64)))), some (.box true [.lf (.int .i64), .lf (.int .i64), .lf (.int .i64)])]⟩)]
noncomputable def b20_2 (x : g20_2.D) : Option (outD ((.normal, g20_2) :: o20_2)) :=
  (if ((decide (x.2.2.1 ≤ (Min.min x.2.1 (1024 : Int)))) = true) then (if ((decide (x.2.2.2.2.2.1 < (258 : Int))) = true) then (Option.bind (Go.Ev.Zlib.f28 (x.1, (x.2.1, (x.2.2.1, Unit.unit)))) (fun y1 => (if ((decide (y1.1 > x.2.2.2.2.2.1)) = true) then (if ((List.length x.2.2.2.1) = (List.length x.2.2.2.1)) then (some (Sum.inl (x.1, (x.2.1, ((Go.IntKind.wrap Go.IntKind.i64 (x.2.2.1 + (1 : Int))), (x.2.2.2.1, ((0 : Int), (y1.1, (x.2.2.1, Unit.unit)))))))))
   else none)
   else (if ((List.length x.2.2.2.1) = (List.length x.2.2.2.1)) then (some (Sum.inl (x.1, (x.2.1, ((Go.IntKind.wrap Go.IntKind.i64 (x.2.2.1 + (1 : Int))), (x.2.2.2.1, (x.2.2.2.2.1, (x.2.2.2.2.2.1, (x.2.2.2.2.2.2.1, Unit.unit)))))))))
   else none))))
   else (if ((List.length x.2.2.2.1) = (List.length x.2.2.2.1)) then (some (Sum.inr (Sum.inl (x.1, (x.2.1, (x.2.2.2.1, (x.2.2.2.2.1, (x.2.2.2.2.2.1, (x.2.2.2.2.2.2.1, Unit.unit)))))))))
   else none))
   else (if ((List.length x.2.2.2.1) = (List.length x.2.2.2.1)) then (some (Sum.inr (Sum.inl (x.1, (x.2.1, (x.2.2.2.1, (x.2.2.2.2.1, (x.2.2.2.2.2.1, (x.2.2.2.2.2.2.1, Unit.unit)))))))))
   else none))
theorem b20_2_eq (x : g20_2.D) : b20_2 x = evF P (T28.orc _) Go.Proofs.Try.f20.ntmps fx20 (Code.at [true, true, true, false, true, false, false, true, false, true, false, true, false, false] c20) (planAt 64 []) g20_2 x (injK fx20 ((.normal, g20_2) :: o20_2) some) := by kernel_rfl
noncomputable def l20_2 : g20_2.D → Option (outD o20_2) := loopN g20_2 o20_2 b20_2 18446744073709551616
theorem at20_2 : Code.at [true, true, true, false, true, false, false, true, false, true, false, true, false] c20 = .loop (Code.at [true, true, true, false, true, false, false, true, false, true, false, true, false, false] c20) := by kernel_rfl
theorem s20_2_ok : SubOk P Go.Proofs.Try.f20.ntmps fx20 (Code.at [true, true, true, false, true, false, false, true, false, true, false, true, false] c20) ⟨g20_2, o20_2, l20_2⟩ := by
  rw [at20_2]
  exact loop_ok (sub_ok (g := g20_2) (outs := ((.normal, g20_2) :: o20_2)) (f := b20_2) (Table.ok T28_ok _) hmix (planAt_ok (P := P) (n := Go.Proofs.Try.f20.ntmps) (fx := fx20) (c := (Code.at [true, true, true, false, true, false, false, true, false, true, false, true, false, false] c20)) (d := 64) (l := []) trivial) b20_2_eq) rfl _
abbrev g20_1 : Sg := ⟨[0, 4, 5], [.lf (.sl (.int .u8)), .lf (.gr (.pair (.int .i64) (.pair (.int .i64) (.int .i64))) 0), .lf (.int .i64)], [some (.arr true (.pair (.int .i64) (.pair (.int .i64) (.int .i64))))]⟩
abbrev o20_1 : Outs := [(.exit 0, ⟨[4], [.lf (.gr (.pair (.int .i64) (.pair (.int .i64) (.int .i64))) 0)], [some (.arr true (.pair (.int .i64) (.pair (.int .i64) (.int .i64))))]⟩)]
noncomputable def b20_1 (x : g20_1.D) : Option (outD ((.normal, g20_1) :: o20_1)) :=
  (if ((decide (x.2.1 < (((List.length x.1) : Nat) : Int))) = true) then (if ((List.length x.2.2.1) = (List.length x.2.2.1)) then (Option.bind (Go.Ev.Zlib.l20_2 (x.1, (x.2.1, ((1 : Int), (x.2.2.1, ((0 : Int), ((0 : Int), ((0 : Int), Unit.unit)))))))) (Sum.elim (fun y1 => (if ((decide (y1.2.2.2.2.1 < (3 : Int))) = true) then (if ((0 : Int) ≤ y1.2.1) then (if (y1.2.1 < (((List.length y1.1) : Nat) : Int)) then (if (((List.length (List.take (List.length y1.2.2.1) (List.drop (0 : Nat) y1.2.2.1))) + (List.length (List.take (1 : Nat) (List.drop (0 : Nat) (List.set (List.replicate (1 : Nat) ((0 : Int), ((0 : Int), (0 : Int)))) (0 : Nat) ((Go.IntKind.wrap Go.IntKind.i64 (List.getD y1.1 (Int.toNat y1.2.1) (0 : Int))), ((0 : Int), (0 : Int)))))))) ≤ (5864062014805 : Nat)) then (if ((List.length ((List.take (List.length y1.2.2.1) (List.drop (0 : Nat) y1.2.2.1)) ++ (List.take (1 : Nat) (List.drop (0 : Nat) (List.set (List.replicate (1 : Nat) ((0 : Int), ((0 : Int), (0 : Int)))) (0 : Nat) ((Go.IntKind.wrap Go.IntKind.i64 (List.getD y1.1 (Int.toNat y1.2.1) (0 : Int))), ((0 : Int), (0 : Int)))))))) = (List.length ((List.take (List.length y1.2.2.1) (List.drop (0 : Nat) y1.2.2.1)) ++ (List.take (1 : Nat) (List.drop (0 : Nat) (List.set (List.replicate (1 : Nat) ((0 : Int), ((0 : Int), (0 : Int)))) (0 : Nat) ((Go.IntKind.wrap Go.IntKind.i64 (List.getD y1.1 (Int.toNat y1.2.1) (0 : Int))), ((0 : Int), (0 : Int))))))))) then (some (Sum.inl (y1.1, ((Go.IntKind.wrap Go.IntKind.i64 (y1.2.1 + (1 : Int))), (((List.take (List.length y1.2.2.1) (List.drop (0 : Nat) y1.2.2.1)) ++ (List.take (1 : Nat) (List.drop (0 : Nat) (List.set (List.replicate (1 : Nat) ((0 : Int), ((0 : Int), (0 : Int)))) (0 : Nat) ((Go.IntKind.wrap Go.IntKind.i64 (List.getD y1.1 (Int.toNat y1.2.1) (0 : Int))), ((0 : Int), (0 : Int))))))), Unit.unit)))))
   else none)
   else none)
   else none)
   else none)
   else (if (((List.length (List.take (List.length y1.2.2.1) (List.drop (0 : Nat) y1.2.2.1))) + (List.length (List.take (1 : Nat) (List.drop (0 : Nat) (List.set (List.replicate (1 : Nat) ((0 : Int), ((0 : Int), (0 : Int)))) (0 : Nat) (y1.2.2.2.1, (y1.2.2.2.2.1, y1.2.2.2.2.2.1))))))) ≤ (5864062014805 : Nat)) then (if ((List.length ((List.take (List.length y1.2.2.1) (List.drop (0 : Nat) y1.2.2.1)) ++ (List.take (1 : Nat) (List.drop (0 : Nat) (List.set (List.replicate (1 : Nat) ((0 : Int), ((0 : Int), (0 : Int)))) (0 : Nat) (y1.2.2.2.1, (y1.2.2.2.2.1, y1.2.2.2.2.2.1))))))) = (List.length ((List.take (List.length y1.2.2.1) (List.drop (0 : Nat) y1.2.2.1)) ++ (List.take (1 : Nat) (List.drop (0 : Nat) (List.set (List.replicate (1 : Nat) ((0 : Int), ((0 : Int), (0 : Int)))) (0 : Nat) (y1.2.2.2.1, (y1.2.2.2.2.1, y1.2.2.2.2.2.1)))))))) then (some (Sum.inl (y1.1, ((Go.IntKind.wrap Go.IntKind.i64 (y1.2.1 + (Max.max y1.2.2.2.2.1 (1 : Int)))), (((List.take (List.length y1.2.2.1) (List.drop (0 : Nat) y1.2.2.1)) ++ (List.take (1 : Nat) (List.drop (0 : Nat) (List.set (List.replicate (1 : Nat) ((0 : Int), ((0 : Int), (0 : Int)))) (0 : Nat) (y1.2.2.2.1, (y1.2.2.2.2.1, y1.2.2.2.2.2.1)))))), Unit.unit)))))
   else none)
   else none))) Empty.elim))
   else none)
   else (if ((List.length x.2.2.1) = (List.length x.2.2.1)) then (some (Sum.inr (Sum.inl (x.2.2.1, Unit.unit))))
   else none))
theorem b20_1_eq (x : g20_1.D) : b20_1 x = evF P (T28.orc _) Go.Proofs.Try.f20.ntmps fx20 (Code.at [true, true, true, false, true, false, false] c20) (planAt 64 [([true, false, true, false, true, false], ⟨g20_2, o20_2, l20_2⟩)]) g20_1 x (injK fx20 ((.normal, g20_1) :: o20_1) some) := by kernel_rfl
noncomputable def l20_1 : g20_1.D → Option (outD o20_1) := loopN g20_1 o20_1 b20_1 18446744073709551616
theorem p20_1 : AllSub P Go.Proofs.Try.f20.ntmps fx20 (Code.at [true, true, true, false, true, false, false] c20) [([true, false, true, false, true, false], ⟨g20_2, o20_2, l20_2⟩)] := And.intro s20_2_ok (trivial)
theorem q20_1 : PlanOk P Go.Proofs.Try.f20.ntmps fx20 (planAt 64 [([true, false, true, false, true, false], ⟨g20_2, o20_2, l20_2⟩)]) (Code.at [true, true, true, false, true, false, false] c20) := planAt_ok p20_1
theorem at20_1 : Code.at [true, true, true, false, true, false] c20 = .loop (Code.at [true, true, true, false, true, false, false] c20) := by kernel_rfl
theorem s20_1_ok : SubOk P Go.Proofs.Try.f20.ntmps fx20 (Code.at [true, true, true, false, true, false] c20) ⟨g20_1, o20_1, l20_1⟩ := by
  rw [at20_1]
  exact loop_ok (sub_ok (g := g20_1) (outs := ((.normal, g20_1) :: o20_1)) (f := b20_1) (Table.ok T28_ok _) hmix (q20_1) b20_1_eq) rfl _
noncomputable def f20 (x : gi20.D) : Option go20.D :=
  (if ((decide ((((List.length x.1) : Nat) : Int) > (1048576 : Int))) = true) then (some ((2 : Int), ([], Unit.unit)))
   else (Option.bind (Go.Ev.Zlib.l20_1 (x.1, ((0 : Int), ([], Unit.unit)))) (Sum.elim (fun y1 => (if ((List.length y1.1) = (List.length y1.1)) then (some ((0 : Int), (y1.1, Unit.unit)))
   else none)) Empty.elim)))
theorem f20_eq (x : gi20.D) : f20 x = evF P (T28.orc _) Go.Proofs.Try.f20.ntmps fx20 c20 (planAt 64 [([true, true, true, false, true, false], ⟨g20_1, o20_1, l20_1⟩)]) gi20 x (fnK fx20 [go20]) := by kernel_rfl
theorem pf20 : AllSub P Go.Proofs.Try.f20.ntmps fx20 c20 [([true, true, true, false, true, false], ⟨g20_1, o20_1, l20_1⟩)] := And.intro s20_1_ok (trivial)
theorem qf20 : PlanOk P Go.Proofs.Try.f20.ntmps fx20 (planAt 64 [([true, true, true, false, true, false], ⟨g20_1, o20_1, l20_1⟩)]) c20 := planAt_ok pf20
theorem f20_ok : EntOk P 20 ⟨gi20, [go20], f20⟩ :=
  ent_ok (fn := Go.Proofs.Try.f20) (gi := gi20) (gos := [go20]) (f := f20) (c := c20) (fx := fx20) ⟨Go.Proofs.Try.func20, by kernel_rfl, rfl, by decide +kernel, rfl, rfl⟩ (by kernel_rfl) (Table.ok T28_ok _) hmix (qf20) f20_eq
noncomputable def T20 : Table := T28.add 20 [⟨gi20, [go20], f20⟩] []
theorem T20_ok : TableOk P T20 := Table.plus T28_ok (es := [⟨gi20, [go20], f20⟩]) ⟨f20_ok, trivial⟩ []

/-! ## 31: erasure/deflate.is -/
noncomputable def c31 : Code := Func.code Go.Proofs.Try.f31
abbrev gi31 : Sg := ⟨[0], [.agg [.lf (.int .i64), .lf (.int .i64), .lf (.int .i64)]], []⟩
abbrev go31 : Sg := ⟨[2], [.lf .bool], []⟩
def fx31 : List Bool := []
noncomputable def f31 (x : gi31.D) : Option go31.D :=
  (if ((x.2.1 == (0 : Int)) = true) then (if ((x.2.2.1 == (0 : Int)) = true) then (some (((Int.fdiv x.1 (256 : Int)) == (0 : Int)), Unit.unit))
   else (some (false, Unit.unit)))
   else (if ((x.1 == (0 : Int)) = true) then (if ((decide (x.2.1 ≥ (3 : Int))) = true) then (if ((decide (x.2.1 ≤ (258 : Int))) = true) then (if ((decide (x.2.2.1 ≥ (1 : Int))) = true) then (some ((decide (x.2.2.1 ≤ (32768 : Int))), Unit.unit))
   else (some (false, Unit.unit)))
   else (some (false, Unit.unit)))
   else (some (false, Unit.unit)))
   else (some (false, Unit.unit))))
theorem f31_eq (x : gi31.D) : f31 x = evF P (T20.orc _) Go.Proofs.Try.f31.ntmps fx31 c31 (planAt 64 []) gi31 x (fnK fx31 [go31]) := by kernel_rfl
theorem f31_ok : EntOk P 31 ⟨gi31, [go31], f31⟩ :=
  ent_ok (fn := Go.Proofs.Try.f31) (gi := gi31) (gos := [go31]) (f := f31) (c := c31) (fx := fx31) ⟨Go.Proofs.Try.func31, by kernel_rfl, rfl, by decide +kernel, rfl, rfl⟩ (by kernel_rfl) (Table.ok T20_ok _) hmix (planAt_ok (P := P) (n := Go.Proofs.Try.f31.ntmps) (fx := fx31) (c := c31) (d := 64) (l := []) trivial) f31_eq
noncomputable def T31 : Table := T20.add 31 [⟨gi31, [go31], f31⟩] []
theorem T31_ok : TableOk P T31 := Table.plus T20_ok (es := [⟨gi31, [go31], f31⟩]) ⟨f31_ok, trivial⟩ []

/-! ## 30: erasure/deflate.Put$1 -/
noncomputable def c30 : Code := Func.code Go.Proofs.Try.f30
abbrev gi30 : Sg := ⟨[0], [.agg [.lf (.int .i64), .lf (.int .i64), .lf (.int .i64)]], []⟩
abbrev go30 : Sg := ⟨[2], [.lf .bool], []⟩
def fx30 : List Bool := []
noncomputable def f30 (x : gi30.D) : Option go30.D :=
  (Option.bind (Go.Ev.Zlib.f31 (x.1, (x.2.1, (x.2.2.1, Unit.unit)))) (fun y1 => (some ((Bool.not y1.1), Unit.unit))))
theorem f30_eq (x : gi30.D) : f30 x = evF P (T31.orc _) Go.Proofs.Try.f30.ntmps fx30 c30 (planAt 64 []) gi30 x (fnK fx30 [go30]) := by kernel_rfl
theorem f30_ok : EntOk P 30 ⟨gi30, [go30], f30⟩ :=
  ent_ok (fn := Go.Proofs.Try.f30) (gi := gi30) (gos := [go30]) (f := f30) (c := c30) (fx := fx30) ⟨Go.Proofs.Try.func30, by kernel_rfl, rfl, by decide +kernel, rfl, rfl⟩ (by kernel_rfl) (Table.ok T31_ok _) hmix (planAt_ok (P := P) (n := Go.Proofs.Try.f30.ntmps) (fx := fx30) (c := c30) (d := 64) (l := []) trivial) f30_eq
noncomputable def T30 : Table := T31.add 30 [⟨gi30, [go30], f30⟩] []
theorem T30_ok : TableOk P T30 := Table.plus T31_ok (es := [⟨gi30, [go30], f30⟩]) ⟨f30_ok, trivial⟩ []

/-! ## 57: erasure/inflate.is -/
noncomputable def c57 : Code := Func.code Go.Proofs.Try.f57
abbrev gi57 : Sg := ⟨[0], [.agg [.lf (.int .i64), .lf (.int .i64), .lf (.int .i64)]], []⟩
abbrev go57 : Sg := ⟨[2], [.lf .bool], []⟩
def fx57 : List Bool := []
noncomputable def f57 (x : gi57.D) : Option go57.D :=
  (if ((x.2.1 == (0 : Int)) = true) then (if ((x.2.2.1 == (0 : Int)) = true) then (some (((Int.fdiv x.1 (256 : Int)) == (0 : Int)), Unit.unit))
   else (some (false, Unit.unit)))
   else (if ((x.1 == (0 : Int)) = true) then (if ((decide (x.2.1 ≥ (3 : Int))) = true) then (if ((decide (x.2.1 ≤ (258 : Int))) = true) then (if ((decide (x.2.2.1 ≥ (1 : Int))) = true) then (some ((decide (x.2.2.1 ≤ (32768 : Int))), Unit.unit))
   else (some (false, Unit.unit)))
   else (some (false, Unit.unit)))
   else (some (false, Unit.unit)))
   else (some (false, Unit.unit))))
theorem f57_eq (x : gi57.D) : f57 x = evF P (T30.orc _) Go.Proofs.Try.f57.ntmps fx57 c57 (planAt 64 []) gi57 x (fnK fx57 [go57]) := by kernel_rfl
theorem f57_ok : EntOk P 57 ⟨gi57, [go57], f57⟩ :=
  ent_ok (fn := Go.Proofs.Try.f57) (gi := gi57) (gos := [go57]) (f := f57) (c := c57) (fx := fx57) ⟨Go.Proofs.Try.func57, by kernel_rfl, rfl, by decide +kernel, rfl, rfl⟩ (by kernel_rfl) (Table.ok T30_ok _) hmix (planAt_ok (P := P) (n := Go.Proofs.Try.f57.ntmps) (fx := fx57) (c := c57) (d := 64) (l := []) trivial) f57_eq
noncomputable def T57 : Table := T30.add 57 [⟨gi57, [go57], f57⟩] []
theorem T57_ok : TableOk P T57 := Table.plus T30_ok (es := [⟨gi57, [go57], f57⟩]) ⟨f57_ok, trivial⟩ []

/-! ## 56: erasure/inflate.Expand$1 -/
noncomputable def c56 : Code := Func.code Go.Proofs.Try.f56
abbrev gi56 : Sg := ⟨[0], [.agg [.lf (.int .i64), .lf (.int .i64), .lf (.int .i64)]], []⟩
abbrev go56 : Sg := ⟨[2], [.lf .bool], []⟩
def fx56 : List Bool := []
noncomputable def f56 (x : gi56.D) : Option go56.D :=
  (Option.bind (Go.Ev.Zlib.f57 (x.1, (x.2.1, (x.2.2.1, Unit.unit)))) (fun y1 => (some ((Bool.not y1.1), Unit.unit))))
theorem f56_eq (x : gi56.D) : f56 x = evF P (T57.orc _) Go.Proofs.Try.f56.ntmps fx56 c56 (planAt 64 []) gi56 x (fnK fx56 [go56]) := by kernel_rfl
theorem f56_ok : EntOk P 56 ⟨gi56, [go56], f56⟩ :=
  ent_ok (fn := Go.Proofs.Try.f56) (gi := gi56) (gos := [go56]) (f := f56) (c := c56) (fx := fx56) ⟨Go.Proofs.Try.func56, by kernel_rfl, rfl, by decide +kernel, rfl, rfl⟩ (by kernel_rfl) (Table.ok T57_ok _) hmix (planAt_ok (P := P) (n := Go.Proofs.Try.f56.ntmps) (fx := fx56) (c := c56) (d := 64) (l := []) trivial) f56_eq
noncomputable def T56 : Table := T57.add 56 [⟨gi56, [go56], f56⟩] []
theorem T56_ok : TableOk P T56 := Table.plus T57_ok (es := [⟨gi56, [go56], f56⟩]) ⟨f56_ok, trivial⟩ []

/-! ## 61: slices.IndexFunc[[]erasure/api.Token,erasure/api.Token] -/
noncomputable def c61 : Code := Func.code Go.Proofs.Try.f61
abbrev gi61 : Sg := ⟨[0, 1], [.lf (.sl (.pair (.int .i64) (.pair (.int .i64) (.int .i64)))), .lf (.fnc 30 [])], []⟩
abbrev go61 : Sg := ⟨[4], [.lf (.int .i64)], []⟩
def fx61 : List Bool := []
abbrev g61_1 : Sg := ⟨[0, 1, 7, 8], [.lf (.sl (.pair (.int .i64) (.pair (.int .i64) (.int .i64)))), .lf (.fnc 30 []), .lf (.int .i64), .lf (.int .i64)], []⟩
abbrev o61_1 : Outs := [(.exit 0, ⟨[], [], []⟩), (.ret, ⟨[4], [.lf (.int .i64)], []⟩)]
noncomputable def b61_1 (x : g61_1.D) : Option (outD ((.normal, g61_1) :: o61_1)) :=
  (if ((decide (x.2.2.1 < x.2.1)) = true) then (if ((0 : Int) ≤ x.2.2.1) then (if (x.2.2.1 < (((List.length x.1) : Nat) : Int)) then (Option.bind (Go.Ev.Zlib.f30 ((List.getD x.1 (Int.toNat x.2.2.1) ((0 : Int), ((0 : Int), (0 : Int)))).1, ((List.getD x.1 (Int.toNat x.2.2.1) ((0 : Int), ((0 : Int), (0 : Int)))).2.1, ((List.getD x.1 (Int.toNat x.2.2.1) ((0 : Int), ((0 : Int), (0 : Int)))).2.2, Unit.unit)))) (fun y1 => (if (y1.1 = true) then (some (Sum.inr (Sum.inr (Sum.inl (x.2.2.1, Unit.unit)))))
   else (some (Sum.inl (x.1, (x.2.1, ((Go.IntKind.wrap Go.IntKind.i64 (x.2.2.1 + (1 : Int))), Unit.unit))))))))
   else none)
   else none)
   else (some (Sum.inr (Sum.inl Unit.unit))))
theorem b61_1_eq (x : g61_1.D) : b61_1 x = evF P (T56.orc _) Go.Proofs.Try.f61.ntmps fx61 (Code.at [true, false, true, false, false] c61) (planAt 64 []) g61_1 x (injK fx61 ((.normal, g61_1) :: o61_1) some) := by kernel_rfl
noncomputable def l61_1 : g61_1.D → Option (outD o61_1) := loopN g61_1 o61_1 b61_1 18446744073709551616
theorem at61_1 : Code.at [true, false, true, false] c61 = .loop (Code.at [true, false, true, false, false] c61) := by kernel_rfl
theorem s61_1_ok : SubOk P Go.Proofs.Try.f61.ntmps fx61 (Code.at [true, false, true, false] c61) ⟨g61_1, o61_1, l61_1⟩ := by
  rw [at61_1]
  exact loop_ok (sub_ok (g := g61_1) (outs := ((.normal, g61_1) :: o61_1)) (f := b61_1) (Table.ok T56_ok _) hmix (planAt_ok (P := P) (n := Go.Proofs.Try.f61.ntmps) (fx := fx61) (c := (Code.at [true, false, true, false, false] c61)) (d := 64) (l := []) trivial) b61_1_eq) rfl _
noncomputable def f61 (x : gi61.D) : Option go61.D :=
  (Option.bind (Go.Ev.Zlib.l61_1 (x.1, ((((List.length x.1) : Nat) : Int), ((0 : Int), Unit.unit)))) (Sum.elim (fun _ => (some ((-1 : Int), Unit.unit))) (Sum.elim (fun y1 => (some (y1.1, Unit.unit))) Empty.elim)))
theorem f61_eq (x : gi61.D) : f61 x = evF P (T56.orc _) Go.Proofs.Try.f61.ntmps fx61 c61 (planAt 64 [([true, false, true, false], ⟨g61_1, o61_1, l61_1⟩)]) gi61 x (fnK fx61 [go61]) := by kernel_rfl
theorem pf61 : AllSub P Go.Proofs.Try.f61.ntmps fx61 c61 [([true, false, true, false], ⟨g61_1, o61_1, l61_1⟩)] := And.intro s61_1_ok (trivial)
theorem qf61 : PlanOk P Go.Proofs.Try.f61.ntmps fx61 (planAt 64 [([true, false, true, false], ⟨g61_1, o61_1, l61_1⟩)]) c61 := planAt_ok pf61
theorem f61_ok : EntOk P 61 ⟨gi61, [go61], f61⟩ :=
  ent_ok (fn := Go.Proofs.Try.f61) (gi := gi61) (gos := [go61]) (f := f61) (c := c61) (fx := fx61) ⟨Go.Proofs.Try.func61, by kernel_rfl, rfl, by decide +kernel, rfl, rfl⟩ (by kernel_rfl) (Table.ok T56_ok _) hmix (qf61) f61_eq
abbrev gi61_b : Sg := ⟨[0, 1], [.lf (.sl (.pair (.int .i64) (.pair (.int .i64) (.int .i64)))), .lf (.fnc 56 [])], []⟩
abbrev go61_b : Sg := ⟨[4], [.lf (.int .i64)], []⟩
def fx61_b : List Bool := []
abbrev g61_b_1 : Sg := ⟨[0, 1, 7, 8], [.lf (.sl (.pair (.int .i64) (.pair (.int .i64) (.int .i64)))), .lf (.fnc 56 []), .lf (.int .i64), .lf (.int .i64)], []⟩
abbrev o61_b_1 : Outs := [(.exit 0, ⟨[], [], []⟩), (.ret, ⟨[4], [.lf (.int .i64)], []⟩)]
noncomputable def b61_b_1 (x : g61_b_1.D) : Option (outD ((.normal, g61_b_1) :: o61_b_1)) :=
  (if ((decide (x.2.2.1 < x.2.1)) = true) then (if ((0 : Int) ≤ x.2.2.1) then (if (x.2.2.1 < (((List.length x.1) : Nat) : Int)) then (Option.bind (Go.Ev.Zlib.f56 ((List.getD x.1 (Int.toNat x.2.2.1) ((0 : Int), ((0 : Int), (0 : Int)))).1, ((List.getD x.1 (Int.toNat x.2.2.1) ((0 : Int), ((0 : Int), (0 : Int)))).2.1, ((List.getD x.1 (Int.toNat x.2.2.1) ((0 : Int), ((0 : Int), (0 : Int)))).2.2, Unit.unit)))) (fun y1 => (if (y1.1 = true) then (some (Sum.inr (Sum.inr (Sum.inl (x.2.2.1, Unit.unit)))))
   else (some (Sum.inl (x.1, (x.2.1, ((Go.IntKind.wrap Go.IntKind.i64 (x.2.2.1 + (1 : Int))), Unit.unit))))))))
   else none)
   else none)
   else (some (Sum.inr (Sum.inl Unit.unit))))
theorem b61_b_1_eq (x : g61_b_1.D) : b61_b_1 x = evF P (T56.orc _) Go.Proofs.Try.f61.ntmps fx61_b (Code.at [true, false, true, false, false] c61) (planAt 64 []) g61_b_1 x (injK fx61_b ((.normal, g61_b_1) :: o61_b_1) some) := by kernel_rfl
noncomputable def l61_b_1 : g61_b_1.D → Option (outD o61_b_1) := loopN g61_b_1 o61_b_1 b61_b_1 18446744073709551616
theorem at61_b_1 : Code.at [true, false, true, false] c61 = .loop (Code.at [true, false, true, false, false] c61) := by kernel_rfl
theorem s61_b_1_ok : SubOk P Go.Proofs.Try.f61.ntmps fx61_b (Code.at [true, false, true, false] c61) ⟨g61_b_1, o61_b_1, l61_b_1⟩ := by
  rw [at61_b_1]
  exact loop_ok (sub_ok (g := g61_b_1) (outs := ((.normal, g61_b_1) :: o61_b_1)) (f := b61_b_1) (Table.ok T56_ok _) hmix (planAt_ok (P := P) (n := Go.Proofs.Try.f61.ntmps) (fx := fx61_b) (c := (Code.at [true, false, true, false, false] c61)) (d := 64) (l := []) trivial) b61_b_1_eq) rfl _
noncomputable def f61_b (x : gi61_b.D) : Option go61_b.D :=
  (Option.bind (Go.Ev.Zlib.l61_b_1 (x.1, ((((List.length x.1) : Nat) : Int), ((0 : Int), Unit.unit)))) (Sum.elim (fun _ => (some ((-1 : Int), Unit.unit))) (Sum.elim (fun y1 => (some (y1.1, Unit.unit))) Empty.elim)))
theorem f61_b_eq (x : gi61_b.D) : f61_b x = evF P (T56.orc _) Go.Proofs.Try.f61.ntmps fx61_b c61 (planAt 64 [([true, false, true, false], ⟨g61_b_1, o61_b_1, l61_b_1⟩)]) gi61_b x (fnK fx61_b [go61_b]) := by kernel_rfl
theorem pf61_b : AllSub P Go.Proofs.Try.f61.ntmps fx61_b c61 [([true, false, true, false], ⟨g61_b_1, o61_b_1, l61_b_1⟩)] := And.intro s61_b_1_ok (trivial)
theorem qf61_b : PlanOk P Go.Proofs.Try.f61.ntmps fx61_b (planAt 64 [([true, false, true, false], ⟨g61_b_1, o61_b_1, l61_b_1⟩)]) c61 := planAt_ok pf61_b
theorem f61_b_ok : EntOk P 61 ⟨gi61_b, [go61_b], f61_b⟩ :=
  ent_ok (fn := Go.Proofs.Try.f61) (gi := gi61_b) (gos := [go61_b]) (f := f61_b) (c := c61) (fx := fx61_b) ⟨Go.Proofs.Try.func61, by kernel_rfl, rfl, by decide +kernel, rfl, rfl⟩ (by kernel_rfl) (Table.ok T56_ok _) hmix (qf61_b) f61_b_eq
noncomputable def T61 : Table := T56.add 61 [⟨gi61, [go61], f61⟩, ⟨gi61_b, [go61_b], f61_b⟩] []
theorem T61_ok : TableOk P T61 := Table.plus T56_ok (es := [⟨gi61, [go61], f61⟩, ⟨gi61_b, [go61_b], f61_b⟩]) ⟨f61_ok, f61_b_ok, trivial⟩ []

/-! ## 29: slices.ContainsFunc[[]erasure/api.Token,erasure/api.Token] -/
noncomputable def c29 : Code := Func.code Go.Proofs.Try.f29
abbrev gi29 : Sg := ⟨[0, 1], [.lf (.sl (.pair (.int .i64) (.pair (.int .i64) (.int .i64)))), .lf (.fnc 30 [])], []⟩
abbrev go29 : Sg := ⟨[4], [.lf .bool], []⟩
def fx29 : List Bool := []
noncomputable def f29 (x : gi29.D) : Option go29.D :=
  (Option.bind (Go.Ev.Zlib.f61 (x.1, Unit.unit)) (fun y1 => (some ((decide (y1.1 ≥ (0 : Int))), Unit.unit))))
theorem f29_eq (x : gi29.D) : f29 x = evF P (T61.orc _) Go.Proofs.Try.f29.ntmps fx29 c29 (planAt 64 []) gi29 x (fnK fx29 [go29]) := by kernel_rfl
theorem f29_ok : EntOk P 29 ⟨gi29, [go29], f29⟩ :=
  ent_ok (fn := Go.Proofs.Try.f29) (gi := gi29) (gos := [go29]) (f := f29) (c := c29) (fx := fx29) ⟨Go.Proofs.Try.func29, by kernel_rfl, rfl, by decide +kernel, rfl, rfl⟩ (by kernel_rfl) (Table.ok T61_ok _) hmix (planAt_ok (P := P) (n := Go.Proofs.Try.f29.ntmps) (fx := fx29) (c := c29) (d := 64) (l := []) trivial) f29_eq
abbrev gi29_b : Sg := ⟨[0, 1], [.lf (.sl (.pair (.int .i64) (.pair (.int .i64) (.int .i64)))), .lf (.fnc 56 [])], []⟩
abbrev go29_b : Sg := ⟨[4], [.lf .bool], []⟩
def fx29_b : List Bool := []
noncomputable def f29_b (x : gi29_b.D) : Option go29_b.D :=
  (Option.bind (Go.Ev.Zlib.f61_b (x.1, Unit.unit)) (fun y1 => (some ((decide (y1.1 ≥ (0 : Int))), Unit.unit))))
theorem f29_b_eq (x : gi29_b.D) : f29_b x = evF P (T61.orc _) Go.Proofs.Try.f29.ntmps fx29_b c29 (planAt 64 []) gi29_b x (fnK fx29_b [go29_b]) := by kernel_rfl
theorem f29_b_ok : EntOk P 29 ⟨gi29_b, [go29_b], f29_b⟩ :=
  ent_ok (fn := Go.Proofs.Try.f29) (gi := gi29_b) (gos := [go29_b]) (f := f29_b) (c := c29) (fx := fx29_b) ⟨Go.Proofs.Try.func29, by kernel_rfl, rfl, by decide +kernel, rfl, rfl⟩ (by kernel_rfl) (Table.ok T61_ok _) hmix (planAt_ok (P := P) (n := Go.Proofs.Try.f29.ntmps) (fx := fx29_b) (c := c29) (d := 64) (l := []) trivial) f29_b_eq
noncomputable def T29 : Table := T61.add 29 [⟨gi29, [go29], f29⟩, ⟨gi29_b, [go29_b], f29_b⟩] []
theorem T29_ok : TableOk P T29 := Table.plus T61_ok (es := [⟨gi29, [go29], f29⟩, ⟨gi29_b, [go29_b], f29_b⟩]) ⟨f29_ok, f29_b_ok, trivial⟩ []

/-! ## 84: math/bits.Mul64 -/
noncomputable def c84 : Code := Func.code Go.Proofs.Try.f84
abbrev gi84 : Sg := ⟨[0, 1], [.lf (.int .u64), .lf (.int .u64)], []⟩
abbrev go84 : Sg := ⟨[4, 5], [.lf (.int .u64), .lf (.int .u64)], []⟩
def fx84 : List Bool := []
noncomputable def f84 (x : gi84.D) : Option go84.D :=
  (some ((Go.IntKind.wrap Go.IntKind.u64 ((Go.IntKind.wrap Go.IntKind.u64 ((Go.IntKind.wrap Go.IntKind.u64 ((Int.fdiv x.1 (4294967296 : Int)) * (Int.fdiv x.2.1 (4294967296 : Int)))) + (Int.fdiv (Go.IntKind.wrap Go.IntKind.u64 ((Go.IntKind.wrap Go.IntKind.u64 ((Int.fdiv x.1 (4294967296 : Int)) * (Go.IntKind.wrap Go.IntKind.u64 (((BitVec.toNat ((BitVec.ofInt (64 : Nat) x.2.1) &&& (BitVec.ofInt (64 : Nat) (4294967295 : Int)))) : Nat) : Int)))) + (Int.fdiv (Go.IntKind.wrap Go.IntKind.u64 ((Go.IntKind.wrap Go.IntKind.u64 (((BitVec.toNat ((BitVec.ofInt (64 : Nat) x.1) &&& (BitVec.ofInt (64 : Nat) (4294967295 : Int)))) : Nat) : Int)) * (Go.IntKind.wrap Go.IntKind.u64 (((BitVec.toNat ((BitVec.ofInt (64 : Nat) x.2.1) &&& (BitVec.ofInt (64 : Nat) (4294967295 : Int)))) : Nat) : Int)))) (4294967296 : Int)))) (4294967296 : Int)))) + (Int.fdiv (Go.IntKind.wrap Go.IntKind.u64 ((Go.IntKind.wrap Go.IntKind.u64 (((BitVec.toNat ((BitVec.ofInt (64 : Nat) (Go.IntKind.wrap Go.IntKind.u64 ((Go.IntKind.wrap Go.IntKind.u64 ((Int.fdiv x.1 (4294967296 : Int)) * (Go.IntKind.wrap Go.IntKind.u64 (((BitVec.toNat ((BitVec.ofInt (64 : Nat) x.2.1) &&& (BitVec.ofInt (64 : Nat) (4294967295 : Int)))) : Nat) : Int)))) + (Int.fdiv (Go.IntKind.wrap Go.IntKind.u64 ((Go.IntKind.wrap Go.IntKind.u64 (((BitVec.toNat ((BitVec.ofInt (64 : Nat) x.1) &&& (BitVec.ofInt (64 : Nat) (4294967295 : Int)))) : Nat) : Int)) * (Go.IntKind.wrap Go.IntKind.u64 (((BitVec.toNat ((BitVec.ofInt (64 : Nat) x.2.1) &&& (BitVec.ofInt (64 : Nat) (4294967295 : Int)))) : Nat) : Int)))) (4294967296 : Int))))) &&& (BitVec.ofInt (64 : Nat) (4294967295 : Int)))) : Nat) : Int)) + (Go.IntKind.wrap Go.IntKind.u64 ((Go.IntKind.wrap Go.IntKind.u64 (((BitVec.toNat ((BitVec.ofInt (64 : Nat) x.1) &&& (BitVec.ofInt (64 : Nat) (4294967295 : Int)))) : Nat) : Int)) * (Int.fdiv x.2.1 (4294967296 : Int)))))) (4294967296 : Int)))), ((Go.IntKind.wrap Go.IntKind.u64 (x.1 * x.2.1)), Unit.unit)))
theorem f84_eq (x : gi84.D) : f84 x = evF P (T29.orc _) Go.Proofs.Try.f84.ntmps fx84 c84 (planAt 64 []) gi84 x (fnK fx84 [go84]) := by kernel_rfl
theorem f84_ok : EntOk P 84 ⟨gi84, [go84], f84⟩ :=
  ent_ok (fn := Go.Proofs.Try.f84) (gi := gi84) (gos := [go84]) (f := f84) (c := c84) (fx := fx84) ⟨Go.Proofs.Try.func84, by kernel_rfl, rfl, by decide +kernel, rfl, rfl⟩ (by kernel_rfl) (Table.ok T29_ok _) hmix (planAt_ok (P := P) (n := Go.Proofs.Try.f84.ntmps) (fx := fx84) (c := c84) (d := 64) (l := []) trivial) f84_eq
noncomputable def T84 : Table := T29.add 84 [⟨gi84, [go84], f84⟩] []
theorem T84_ok : TableOk P T84 := Table.plus T29_ok (es := [⟨gi84, [go84], f84⟩]) ⟨f84_ok, trivial⟩ []

/-! ## 64: math/bits.Mul -/
noncomputable def c64 : Code := Func.code Go.Proofs.Try.f64
abbrev gi64 : Sg := ⟨[0, 1], [.lf (.int .u64), .lf (.int .u64)], []⟩
abbrev go64 : Sg := ⟨[4, 5], [.lf (.int .u64), .lf (.int .u64)], []⟩
def fx64 : List Bool := []
noncomputable def f64 (x : gi64.D) : Option go64.D :=
  (Option.bind (Go.Ev.Zlib.f84 (x.1, (x.2.1, Unit.unit))) (fun y1 => (some (y1.1, (y1.2.1, Unit.unit)))))
theorem f64_eq (x : gi64.D) : f64 x = evF P (T84.orc _) Go.Proofs.Try.f64.ntmps fx64 c64 (planAt 64 []) gi64 x (fnK fx64 [go64]) := by kernel_rfl
theorem f64_ok : EntOk P 64 ⟨gi64, [go64], f64⟩ :=
  ent_ok (fn := Go.Proofs.Try.f64) (gi := gi64) (gos := [go64]) (f := f64) (c := c64) (fx := fx64) ⟨Go.Proofs.Try.func64, by kernel_rfl, rfl, by decide +kernel, rfl, rfl⟩ (by kernel_rfl) (Table.ok T84_ok _) hmix (planAt_ok (P := P) (n := Go.Proofs.Try.f64.ntmps) (fx := fx64) (c := c64) (d := 64) (l := []) trivial) f64_eq
noncomputable def T64 : Table := T84.add 64 [⟨gi64, [go64], f64⟩] []
theorem T64_ok : TableOk P T64 := Table.plus T84_ok (es := [⟨gi64, [go64], f64⟩]) ⟨f64_ok, trivial⟩ []

/-! ## 34: slices.Repeat[[]int,int] -/
noncomputable def c34 : Code := Func.code Go.Proofs.Try.f34
abbrev gi34 : Sg := ⟨[0, 1], [.lf (.sl (.int .i64)), .lf (.int .i64)], []⟩
abbrev go34 : Sg := ⟨[4], [.lf (.gr (.int .i64) 0)], [some (.arr true (.int .i64))]⟩
def fx34 : List Bool := []
abbrev g34_1 : Sg := ⟨[7, 8], [.lf (.gr (.int .i64) 0), .lf (.int .i64)], [some (.arr true (.int .i64))]⟩
abbrev o34_1 : Outs := [(.exit 0, ⟨[7], [.lf (.gr (.int .i64) 0)], [some (.arr true (.int .i64))]⟩)]
noncomputable def b34_1 (x : g34_1.D) : Option (outD ((.normal, g34_1) :: o34_1)) :=
  (if ((decide (x.1 < (((List.length x.2.1) : Nat) : Int))) = true) then (if ((0 : Int) ≤ x.1) then (if (x.1 ≤ (((List.length x.2.1) : Nat) : Int)) then (if ((0 : Int) ≤ x.1) then (if (x.1 ≤ (((List.length x.2.1) : Nat) : Int)) then (if ((Min.min (List.length (List.take ((Int.toNat x.1) - (0 : Nat)) (List.drop (0 : Nat) x.2.1))) ((List.length x.2.1) - (Int.toNat x.1))) = (0 : Nat)) then (if ((List.length x.2.1) = (List.length x.2.1)) then (some (Sum.inl ((Go.IntKind.wrap Go.IntKind.i64 (x.1 + (0 : Int))), (x.2.1, Unit.unit))))
   else none)
   else (if ((List.length x.2.1) = (List.length ((List.take ((0 : Nat) + (Int.toNat x.1)) x.2.1) ++ ((List.take (Min.min (List.length (List.take ((Int.toNat x.1) - (0 : Nat)) (List.drop (0 : Nat) x.2.1))) ((List.length x.2.1) - (Int.toNat x.1))) (List.take ((Int.toNat x.1) - (0 : Nat)) (List.drop (0 : Nat) x.2.1))) ++ (List.drop (((0 : Nat) + (Int.toNat x.1)) + (Min.min (List.length (List.take ((Int.toNat x.1) - (0 : Nat)) (List.drop (0 : Nat) x.2.1))) ((List.length x.2.1) - (Int.toNat x.1)))) x.2.1))))) then (some (Sum.inl ((Go.IntKind.wrap Go.IntKind.i64 (x.1 + (((Min.min (List.length (List.take ((Int.toNat x.1) - (0 : Nat)) (List.drop (0 : Nat) x.2.1))) ((List.length x.2.1) - (Int.toNat x.1))) : Nat) : Int))), (((List.take ((0 : Nat) + (Int.toNat x.1)) x.2.1) ++ ((List.take (Min.min (List.length (List.take ((Int.toNat x.1) - (0 : Nat)) (List.drop (0 : Nat) x.2.1))) ((List.length x.2.1) - (Int.toNat x.1))) (List.take ((Int.toNat x.1) - (0 : Nat)) (List.drop (0 : Nat) x.2.1))) ++ (List.drop (((0 : Nat) + (Int.toNat x.1)) + (Min.min (List.length (List.take ((Int.toNat x.1) - (0 : Nat)) (List.drop (0 : Nat) x.2.1))) ((List.length x.2.1) - (Int.toNat x.1)))) x.2.1))), Unit.unit))))
   else none))
   else none)
   else none)
   else none)
   else none)
   else (if ((List.length x.2.1) = (List.length x.2.1)) then (some (Sum.inr (Sum.inl (x.2.1, Unit.unit))))
   else none))
theorem b34_1_eq (x : g34_1.D) : b34_1 x = evF P (T64.orc _) Go.Proofs.Try.f34.ntmps fx34 (Code.at [true, true, true, true, true, true, false, false, false] c34) (planAt 64 []) g34_1 x (injK fx34 ((.normal, g34_1) :: o34_1) some) := by kernel_rfl
noncomputable def l34_1 : g34_1.D → Option (outD o34_1) := loopN g34_1 o34_1 b34_1 18446744073709551616
theorem at34_1 : Code.at [true, true, true, true, true, true, false, false] c34 = .loop (Code.at [true, true, true, true, true, true, false, false, false] c34) := by kernel_rfl
theorem s34_1_ok : SubOk P Go.Proofs.Try.f34.ntmps fx34 (Code.at [true, true, true, true, true, true, false, false] c34) ⟨g34_1, o34_1, l34_1⟩ := by
  rw [at34_1]
  exact loop_ok (sub_ok (g := g34_1) (outs := ((.normal, g34_1) :: o34_1)) (f := b34_1) (Table.ok T64_ok _) hmix (planAt_ok (P := P) (n := Go.Proofs.Try.f34.ntmps) (fx := fx34) (c := (Code.at [true, true, true, true, true, true, false, false, false] c34)) (d := 64) (l := []) trivial) b34_1_eq) rfl _
noncomputable def f34 (x : gi34.D) : Option go34.D :=
  (if ((decide (x.2.1 < (0 : Int))) = true) then none
   else (Option.bind (Go.Ev.Zlib.f64 ((Go.IntKind.wrap Go.IntKind.u64 (((List.length x.1) : Nat) : Int)), ((Go.IntKind.wrap Go.IntKind.u64 x.2.1), Unit.unit))) (fun y1 => (if ((decide (y1.1 > (0 : Int))) = true) then none
   else (if ((decide (y1.2.1 > (9223372036854775807 : Int))) = true) then none
   else (if ((0 : Int) ≤ (Go.IntKind.wrap Go.IntKind.i64 y1.2.1)) then (if ((Go.IntKind.wrap Go.IntKind.i64 y1.2.1) ≤ (Go.IntKind.wrap Go.IntKind.i64 y1.2.1)) then (if ((Go.IntKind.wrap Go.IntKind.i64 y1.2.1) ≤ (35184372088832 : Int)) then (if ((Min.min (List.length x.1) (Int.toNat (Go.IntKind.wrap Go.IntKind.i64 y1.2.1))) = (0 : Nat)) then (if ((Int.toNat (Go.IntKind.wrap Go.IntKind.i64 y1.2.1)) = (List.length (List.replicate (Int.toNat (Go.IntKind.wrap Go.IntKind.i64 y1.2.1)) (0 : Int)))) then (Option.bind (Go.Ev.Zlib.l34_1 ((0 : Int), ((List.replicate (Int.toNat (Go.IntKind.wrap Go.IntKind.i64 y1.2.1)) (0 : Int)), Unit.unit))) (Sum.elim (fun y2 => (if ((List.length y2.1) = (List.length y2.1)) then (some (y2.1, Unit.unit))
   else none)) Empty.elim))
   else none)
   else (if ((Int.toNat (Go.IntKind.wrap Go.IntKind.i64 y1.2.1)) = (List.length ((List.take (0 : Nat) (List.replicate (Int.toNat (Go.IntKind.wrap Go.IntKind.i64 y1.2.1)) (0 : Int))) ++ ((List.take (Min.min (List.length x.1) (Int.toNat (Go.IntKind.wrap Go.IntKind.i64 y1.2.1))) x.1) ++ (List.drop ((0 : Nat) + (Min.min (List.length x.1) (Int.toNat (Go.IntKind.wrap Go.IntKind.i64 y1.2.1)))) (List.replicate (Int.toNat (Go.IntKind.wrap Go.IntKind.i64 y1.2.1)) (0 : Int))))))) then (Option.bind (Go.Ev.Zlib.l34_1 ((((Min.min (List.length x.1) (Int.toNat (Go.IntKind.wrap Go.IntKind.i64 y1.2.1))) : Nat) : Int), (((List.take (0 : Nat) (List.replicate (Int.toNat (Go.IntKind.wrap Go.IntKind.i64 y1.2.1)) (0 : Int))) ++ ((List.take (Min.min (List.length x.1) (Int.toNat (Go.IntKind.wrap Go.IntKind.i64 y1.2.1))) x.1) ++ (List.drop ((0 : Nat) + (Min.min (List.length x.1) (Int.toNat (Go.IntKind.wrap Go.IntKind.i64 y1.2.1)))) (List.replicate (Int.toNat (Go.IntKind.wrap Go.IntKind.i64 y1.2.1)) (0 : Int))))), Unit.unit))) (Sum.elim (fun y2 => (if ((List.length y2.1) = (List.length y2.1)) then (some (y2.1, Unit.unit))
   else none)) Empty.elim))
   else none))
   else none)
   else none)
   else none))))))
theorem f34_eq (x : gi34.D) : f34 x = evF P (T64.orc _) Go.Proofs.Try.f34.ntmps fx34 c34 (planAt 64 [([true, true, true, true, true, true, false, false], ⟨g34_1, o34_1, l34_1⟩)]) gi34 x (fnK fx34 [go34]) := by kernel_rfl
theorem pf34 : AllSub P Go.Proofs.Try.f34.ntmps fx34 c34 [([true, true, true, true, true, true, false, false], ⟨g34_1, o34_1, l34_1⟩)] := And.intro s34_1_ok (trivial)
theorem qf34 : PlanOk P Go.Proofs.Try.f34.ntmps fx34 (planAt 64 [([true, true, true, true, true, true, false, false], ⟨g34_1, o34_1, l34_1⟩)]) c34 := planAt_ok pf34
theorem f34_ok : EntOk P 34 ⟨gi34, [go34], f34⟩ :=
  ent_ok (fn := Go.Proofs.Try.f34) (gi := gi34) (gos := [go34]) (f := f34) (c := c34) (fx := fx34) ⟨Go.Proofs.Try.func34, by kernel_rfl, rfl, by decide +kernel, rfl, rfl⟩ (by kernel_rfl) (Table.ok T64_ok _) hmix (qf34) f34_eq
noncomputable def T34 : Table := T64.add 34 [⟨gi34, [go34], f34⟩] []
theorem T34_ok : TableOk P T34 := Table.plus T64_ok (es := [⟨gi34, [go34], f34⟩]) ⟨f34_ok, trivial⟩ []

/-! ## 33: erasure/huff.Fixed -/
noncomputable def c33 : Code := Func.code Go.Proofs.Try.f33
abbrev gi33 : Sg := ⟨[], [], []⟩
abbrev go33 : Sg := ⟨[0], [.lf (.gr (.int .i64) 0)], [some (.arr true (.int .i64))]⟩
def fx33 : List Bool := []
abbrev g33_1 : Sg := ⟨[1, 2], [.lf (.gr (.int .i64) 0), .lf (.int .i64)], [some (.arr true (.int .i64))]⟩
abbrev o33_1 : Outs := [(.exit 0, ⟨[1], [.lf (.gr (.int .i64) 0)], [some (.arr true (.int .i64))]⟩)]
noncomputable def b33_1 (x : g33_1.D) : Option (outD ((.normal, g33_1) :: o33_1)) :=
  (if ((decide (x.1 < (280 : Int))) = true) then (if ((0 : Int) ≤ x.1) then (if (x.1 < (((List.length x.2.1) : Nat) : Int)) then (if ((decide (x.1 > (255 : Int))) = true) then (if ((0 : Int) ≤ x.1) then (if (x.1 < (((List.length x.2.1) : Nat) : Int)) then (if ((List.length x.2.1) = (List.length (List.set (List.set x.2.1 ((0 : Nat) + (Int.toNat x.1)) (9 : Int)) ((0 : Nat) + (Int.toNat x.1)) (7 : Int)))) then (some (Sum.inl ((Go.IntKind.wrap Go.IntKind.i64 (x.1 + (1 : Int))), ((List.set (List.set x.2.1 ((0 : Nat) + (Int.toNat x.1)) (9 : Int)) ((0 : Nat) + (Int.toNat x.1)) (7 : Int)), Unit.unit))))
   else none)
   else none)
   else none)
   else (if ((List.length x.2.1) = (List.length (List.set x.2.1 ((0 : Nat) + (Int.toNat x.1)) (9 : Int)))) then (some (Sum.inl ((Go.IntKind.wrap Go.IntKind.i64 (x.1 + (1 : Int))), ((List.set x.2.1 ((0 : Nat) + (Int.toNat x.1)) (9 : Int)), Unit.unit))))
   else none))
   else none)
   else none)
   else (if ((List.length x.2.1) = (List.length x.2.1)) then (some (Sum.inr (Sum.inl (x.2.1, Unit.unit))))
   else none))
theorem b33_1_eq (x : g33_1.D) : b33_1 x = evF P (T34.orc _) Go.Proofs.Try.f33.ntmps fx33 (Code.at [true, true, false, true, false, false] c33) (planAt 64 []) g33_1 x (injK fx33 ((.normal, g33_1) :: o33_1) some) := by kernel_rfl
noncomputable def l33_1 : g33_1.D → Option (outD o33_1) := loopN g33_1 o33_1 b33_1 18446744073709551616
theorem at33_1 : Code.at [true, true, false, true, false] c33 = .loop (Code.at [true, true, false, true, false, false] c33) := by kernel_rfl
theorem s33_1_ok : SubOk P Go.Proofs.Try.f33.ntmps fx33 (Code.at [true, true, false, true, false] c33) ⟨g33_1, o33_1, l33_1⟩ := by
  rw [at33_1]
  exact loop_ok (sub_ok (g := g33_1) (outs := ((.normal, g33_1) :: o33_1)) (f := b33_1) (Table.ok T34_ok _) hmix (planAt_ok (P := P) (n := Go.Proofs.Try.f33.ntmps) (fx := fx33) (c := (Code.at [true, true, false, true, false, false] c33)) (d := 64) (l := []) trivial) b33_1_eq) rfl _
noncomputable def f33 (_ : gi33.D) : Option go33.D :=
  (Option.bind (Go.Ev.Zlib.f34 ((List.take (1 : Nat) (List.drop (0 : Nat) (List.set (List.replicate (1 : Nat) (0 : Int)) (0 : Nat) (8 : Int)))), ((288 : Int), Unit.unit))) (fun y1 => (if ((List.length y1.1) = (List.length y1.1)) then (Option.bind (Go.Ev.Zlib.l33_1 ((144 : Int), (y1.1, Unit.unit))) (Sum.elim (fun y2 => (if ((List.length y2.1) = (List.length y2.1)) then (some (y2.1, Unit.unit))
   else none)) Empty.elim))
   else none)))
theorem f33_eq (x : gi33.D) : f33 x = evF P (T34.orc _) Go.Proofs.Try.f33.ntmps fx33 c33 (planAt 64 [([true, true, false, true, false], ⟨g33_1, o33_1, l33_1⟩)]) gi33 x (fnK fx33 [go33]) := by kernel_rfl
theorem pf33 : AllSub P Go.Proofs.Try.f33.ntmps fx33 c33 [([true, true, false, true, false], ⟨g33_1, o33_1, l33_1⟩)] := And.intro s33_1_ok (trivial)
theorem qf33 : PlanOk P Go.Proofs.Try.f33.ntmps fx33 (planAt 64 [([true, true, false, true, false], ⟨g33_1, o33_1, l33_1⟩)]) c33 := planAt_ok pf33
theorem f33_ok : EntOk P 33 ⟨gi33, [go33], f33⟩ :=
  ent_ok (fn := Go.Proofs.Try.f33) (gi := gi33) (gos := [go33]) (f := f33) (c := c33) (fx := fx33) ⟨Go.Proofs.Try.func33, by kernel_rfl, rfl, by decide +kernel, rfl, rfl⟩ (by kernel_rfl) (Table.ok T34_ok _) hmix (qf33) f33_eq
noncomputable def T33 : Table := T34.add 33 [⟨gi33, [go33], f33⟩] []
theorem T33_ok : TableOk P T33 := Table.plus T34_ok (es := [⟨gi33, [go33], f33⟩]) ⟨f33_ok, trivial⟩ []

/-! ## 82: erasure/huff.count -/
noncomputable def c82 : Code := Func.code Go.Proofs.Try.f82
abbrev gi82 : Sg := ⟨[0], [.lf (.sl (.int .i64))], []⟩
abbrev go82 : Sg := ⟨[0, 3], [.agg [.many (.int .i64) 16], .lf (.int .i64)], []⟩
def fx82 : List Bool := []
abbrev g82_1 : Sg := ⟨[2, 4, 5, 12, 13, 14], [.lf (.ptr 0 0), .lf (.ptr 1 0), .lf (.int .i64), .lf (.sl (.int .i64)), .lf (.int .i64), .lf (.int .i64)], [some (.box true [.many (.int .i64) 16]), some (.box true [.many (.int .i64) 16])]⟩
abbrev o82_1 : Outs := [(.exit 0, ⟨[2, 4, 5], [.lf (.ptr 0 0), .lf (.ptr 1 0), .lf (.int .i64)], [some (.box true [.many (.int .i64) 16]), some (.box true [.many (.int .i64) 16])]⟩), (.ret, ⟨[2, 3], [.lf (.ptr 0 0), .lf (.int .i64)], [some (.box true [.many (.int .i64) 16])]⟩)]
noncomputable def b82_1 (x : g82_1.D) : Option (outD ((.normal, g82_1) :: o82_1)) :=
  (if ((decide (x.2.2.2.1 < x.2.2.1)) = true) then (if ((0 : Int) ≤ x.2.2.2.1) then (if (x.2.2.2.1 < (((List.length x.2.1) : Nat) : Int)) then (if ((decide ((List.getD x.2.1 (Int.toNat x.2.2.2.1) (0 : Int)) < (0 : Int))) = true) then (some (Sum.inr (Sum.inr (Sum.inl ((1 : Int), (x.2.2.2.2.2.1, Unit.unit))))))
   else (if ((decide ((List.getD x.2.1 (Int.toNat x.2.2.2.1) (0 : Int)) > (15 : Int))) = true) then (some (Sum.inr (Sum.inr (Sum.inl ((1 : Int), (x.2.2.2.2.2.1, Unit.unit))))))
   else (if ((decide ((List.getD x.2.1 (Int.toNat x.2.2.2.1) (0 : Int)) > (0 : Int))) = true) then (if ((0 : Int) ≤ (List.getD x.2.1 (Int.toNat x.2.2.2.1) (0 : Int))) then (if ((List.getD x.2.1 (Int.toNat x.2.2.2.1) (0 : Int)) < (16 : Int)) then (if ((0 : Int) ≤ (List.getD x.2.1 (Int.toNat x.2.2.2.1) (0 : Int))) then (if ((List.getD x.2.1 (Int.toNat x.2.2.2.1) (0 : Int)) < (16 : Int)) then (if ((List.getD x.2.1 (Int.toNat x.2.2.2.1) (0 : Int)) < (0 : Int)) then none
   else (some (Sum.inl ((Go.IntKind.wrap Go.IntKind.i64 (x.1 + (Int.fdiv (32768 : Int) ((2 : Int) ^ (Min.min (Int.toNat (List.getD x.2.1 (Int.toNat x.2.2.2.1) (0 : Int))) (64 : Nat)))))), (x.2.1, (x.2.2.1, ((Go.IntKind.wrap Go.IntKind.i64 (x.2.2.2.1 + (1 : Int))), (x.2.2.2.2.1, ((List.set x.2.2.2.2.2.1 (Int.toNat (List.getD x.2.1 (Int.toNat x.2.2.2.1) (0 : Int))) (Go.IntKind.wrap Go.IntKind.i64 ((List.getD x.2.2.2.2.2.1 (Int.toNat (List.getD x.2.1 (Int.toNat x.2.2.2.1) (0 : Int))) (0 : Int)) + (1 : Int)))), Unit.unit)))))))))
   else none)
   else none)
   else none)
   else none)
   else (some (Sum.inl (x.1, (x.2.1, (x.2.2.1, ((Go.IntKind.wrap Go.IntKind.i64 (x.2.2.2.1 + (1 : Int))), (x.2.2.2.2.1, (x.2.2.2.2.2.1, Unit.unit)))))))))))
   else none)
   else none)
   else (some (Sum.inr (Sum.inl (x.1, (x.2.2.2.2.1, (x.2.2.2.2.2.1, Unit.unit)))))))
theorem b82_1_eq (x : g82_1.D) : b82_1 x = evF P (T33.orc _) Go.Proofs.Try.f82.ntmps fx82 (Code.at [true, true, true, true, false, true, false, false] c82) (planAt 64 []) g82_1 x (injK fx82 ((.normal, g82_1) :: o82_1) some) := by kernel_rfl
noncomputable def l82_1 : g82_1.D → Option (outD o82_1) := loopN g82_1 o82_1 b82_1 18446744073709551616
theorem at82_1 : Code.at [true, true, true, true, false, true, false] c82 = .loop (Code.at [true, true, true, true, false, true, false, false] c82) := by kernel_rfl
theorem s82_1_ok : SubOk P Go.Proofs.Try.f82.ntmps fx82 (Code.at [true, true, true, true, false, true, false] c82) ⟨g82_1, o82_1, l82_1⟩ := by
  rw [at82_1]
  exact loop_ok (sub_ok (g := g82_1) (outs := ((.normal, g82_1) :: o82_1)) (f := b82_1) (Table.ok T33_ok _) hmix (planAt_ok (P := P) (n := Go.Proofs.Try.f82.ntmps) (fx := fx82) (c := (Code.at [true, true, true, true, false, true, false, false] c82)) (d := 64) (l := []) trivial) b82_1_eq) rfl _
noncomputable def f82 (x : gi82.D) : Option go82.D :=
  (if ((decide ((((List.length x.1) : Nat) : Int) > (320 : Int))) = true) then (some ((List.replicate (16 : Nat) (0 : Int)), ((1 : Int), Unit.unit)))
   else (Option.bind (Go.Ev.Zlib.l82_1 ((0 : Int), (x.1, ((((List.length x.1) : Nat) : Int), ((0 : Int), ((List.replicate (16 : Nat) (0 : Int)), ((List.replicate (16 : Nat) (0 : Int)), Unit.unit))))))) (Sum.elim (fun y1 => (if ((decide (y1.1 > (32768 : Int))) = true) then (some (y1.2.2.1, ((4 : Int), Unit.unit)))
   else (some (y1.2.2.1, ((0 : Int), Unit.unit))))) (Sum.elim (fun y1 => (some (y1.2.1, (y1.1, Unit.unit)))) Empty.elim))))
theorem f82_eq (x : gi82.D) : f82 x = evF P (T33.orc _) Go.Proofs.Try.f82.ntmps fx82 c82 (planAt 64 [([true, true, true, true, false, true, false], ⟨g82_1, o82_1, l82_1⟩)]) gi82 x (fnKR P Go.Proofs.Try.f82 fx82 [go82]) := by kernel_rfl
theorem pf82 : AllSub P Go.Proofs.Try.f82.ntmps fx82 c82 [([true, true, true, true, false, true, false], ⟨g82_1, o82_1, l82_1⟩)] := And.intro s82_1_ok (trivial)
theorem qf82 : PlanOk P Go.Proofs.Try.f82.ntmps fx82 (planAt 64 [([true, true, true, true, false, true, false], ⟨g82_1, o82_1, l82_1⟩)]) c82 := planAt_ok pf82
theorem f82_ok : EntOk P 82 ⟨gi82, [go82], f82⟩ :=
  ent_okR (fn := Go.Proofs.Try.f82) (gi := gi82) (gos := [go82]) (f := f82) (c := c82) (fx := fx82) ⟨Go.Proofs.Try.func82, by kernel_rfl, rfl, by decide +kernel, rfl, rfl⟩ (Table.ok T33_ok _) hmix (qf82) f82_eq
noncomputable def T82 : Table := T33.add 82 [⟨gi82, [go82], f82⟩] []
theorem T82_ok : TableOk P T82 := Table.plus T33_ok (es := [⟨gi82, [go82], f82⟩]) ⟨f82_ok, trivial⟩ []

/-! ## 62: erasure/huff.Codes -/
noncomputable def c62 : Code := Func.code Go.Proofs.Try.f62
abbrev gi62 : Sg := ⟨[0], [.lf (.sl (.int .i64))], []⟩
abbrev go62 : Sg := ⟨[2, 3], [.lf (.gr (.int .i64) 0), .lf (.int .i64)], [some (.arr true (.int .i64))]⟩
def fx62 : List Bool := []
abbrev g62_2 : Sg := ⟨[6, 8, 37, 38, 39], [.lf (.ptr 0 0), .lf (.gr (.int .i64) 1), .lf (.sl (.int .i64)), .lf (.int .i64), .lf (.int .i64)], [some (.box true [.many (.int .i64) 16]), some (.arr true (.int .i64))]⟩
abbrev o62_2 : Outs := [(.exit 2, ⟨[8], [.lf (.gr (.int .i64) 0)], [some (.arr true (.int .i64))]⟩)]
noncomputable def b62_2 (x : g62_2.D) : Option (outD ((.normal, g62_2) :: o62_2)) :=
  (if ((decide (x.2.2.1 < x.2.1)) = true) then (if ((0 : Int) ≤ x.2.2.1) then (if (x.2.2.1 < (((List.length x.1) : Nat) : Int)) then (if ((decide ((List.getD x.1 (Int.toNat x.2.2.1) (0 : Int)) > (0 : Int))) = true) then (if ((0 : Int) ≤ (List.getD x.1 (Int.toNat x.2.2.1) (0 : Int))) then (if ((List.getD x.1 (Int.toNat x.2.2.1) (0 : Int)) < (16 : Int)) then (if ((0 : Int) ≤ x.2.2.1) then (if (x.2.2.1 < (((List.length x.2.2.2.2.1) : Nat) : Int)) then (if ((0 : Int) ≤ (List.getD x.1 (Int.toNat x.2.2.1) (0 : Int))) then (if ((List.getD x.1 (Int.toNat x.2.2.1) (0 : Int)) < (16 : Int)) then (if ((0 : Int) ≤ (List.getD x.1 (Int.toNat x.2.2.1) (0 : Int))) then (if ((List.getD x.1 (Int.toNat x.2.2.1) (0 : Int)) < (16 : Int)) then (if ((List.length x.2.2.2.2.1) = (List.length (List.set x.2.2.2.2.1 ((0 : Nat) + (Int.toNat x.2.2.1)) (List.getD x.2.2.2.1 (Int.toNat (List.getD x.1 (Int.toNat x.2.2.1) (0 : Int))) (0 : Int))))) then (some (Sum.inl (x.1, (x.2.1, ((Go.IntKind.wrap Go.IntKind.i64 (x.2.2.1 + (1 : Int))), ((List.set x.2.2.2.1 (Int.toNat (List.getD x.1 (Int.toNat x.2.2.1) (0 : Int))) (Go.IntKind.wrap Go.IntKind.i64 ((List.getD x.2.2.2.1 (Int.toNat (List.getD x.1 (Int.toNat x.2.2.1) (0 : Int))) (0 : Int)) + (1 : Int)))), ((List.set x.2.2.2.2.1 ((0 : Nat) + (Int.toNat x.2.2.1)) (List.getD x.2.2.2.1 (Int.toNat (List.getD x.1 (Int.toNat x.2.2.1) (0 : Int))) (0 : Int))), Unit.unit)))))))
   else none)
   else none)
   else none)
   else none)
   else none)
   else none)
   else none)
   else none)
   else none)
   else (if ((List.length x.2.2.2.2.1) = (List.length x.2.2.2.2.1)) then (some (Sum.inl (x.1, (x.2.1, ((Go.IntKind.wrap Go.IntKind.i64 (x.2.2.1 + (1 : Int))), (x.2.2.2.1, (x.2.2.2.2.1, Unit.unit)))))))
   else none))
   else none)
   else none)
   else (if ((List.length x.2.2.2.2.1) = (List.length x.2.2.2.2.1)) then (some (Sum.inr (Sum.inl (x.2.2.2.2.1, Unit.unit))))
   else none))
theorem b62_2_eq (x : g62_2.D) : b62_2 x = evF P (T82.orc _) Go.Proofs.Try.f62.ntmps fx62 (Code.at [true, true, true, true, true, true, false, true, false, false] c62) (planAt 64 []) g62_2 x (injK fx62 ((.normal, g62_2) :: o62_2) some) := by kernel_rfl
noncomputable def l62_2 : g62_2.D → Option (outD o62_2) := loopN g62_2 o62_2 b62_2 18446744073709551616
theorem at62_2 : Code.at [true, true, true, true, true, true, false, true, false] c62 = .loop (Code.at [true, true, true, true, true, true, false, true, false, false] c62) := by kernel_rfl
theorem s62_2_ok : SubOk P Go.Proofs.Try.f62.ntmps fx62 (Code.at [true, true, true, true, true, true, false, true, false] c62) ⟨g62_2, o62_2, l62_2⟩ := by
  rw [at62_2]
  exact loop_ok (sub_ok (g := g62_2) (outs := ((.normal, g62_2) :: o62_2)) (f := b62_2) (Table.ok T82_ok _) hmix (planAt_ok (P := P) (n := Go.Proofs.Try.f62.ntmps) (fx := fx62) (c := (Code.at [true, true, true, true, true, true, false, true, false, false] c62)) (d := 64) (l := []) trivial) b62_2_eq) rfl _
abbrev g62_1 : Sg := ⟨[0, 4, 6, 7], [.lf (.sl (.int .i64)), .lf (.ptr 0 0), .lf (.ptr 1 0), .lf (.int .i64)], [some (.box true [.many (.int .i64) 16]), some (.box true [.many (.int .i64) 16])]⟩
abbrev o62_1 : Outs := [(.exit 0, ⟨[0, 6], [.lf (.sl (.int .i64)), .lf (.ptr 0 0)], [some (.box true [.many (.int .i64) 16])]⟩)]
noncomputable def b62_1 (x : g62_1.D) : Option (outD ((.normal, g62_1) :: o62_1)) :=
  (if ((decide (x.2.1 < (15 : Int))) = true) then (if ((0 : Int) ≤ x.2.1) then (if (x.2.1 < (16 : Int)) then (if ((0 : Int) ≤ x.2.1) then (if (x.2.1 < (16 : Int)) then (if ((0 : Int) ≤ (Go.IntKind.wrap Go.IntKind.i64 (x.2.1 + (1 : Int)))) then (if ((Go.IntKind.wrap Go.IntKind.i64 (x.2.1 + (1 : Int))) < (16 : Int)) then (some (Sum.inl (x.1, ((Go.IntKind.wrap Go.IntKind.i64 (x.2.1 + (1 : Int))), (x.2.2.1, ((List.set x.2.2.2.1 (Int.toNat (Go.IntKind.wrap Go.IntKind.i64 (x.2.1 + (1 : Int)))) (Go.IntKind.wrap Go.IntKind.i64 ((Go.IntKind.wrap Go.IntKind.i64 ((List.getD x.2.2.2.1 (Int.toNat x.2.1) (0 : Int)) + (List.getD x.2.2.1 (Int.toNat x.2.1) (0 : Int)))) * (2 : Int)))), Unit.unit))))))
   else none)
   else none)
   else none)
   else none)
   else none)
   else none)
   else (some (Sum.inr (Sum.inl (x.1, (x.2.2.2.1, Unit.unit))))))
theorem b62_1_eq (x : g62_1.D) : b62_1 x = evF P (T82.orc _) Go.Proofs.Try.f62.ntmps fx62 (Code.at [true, true, true, true, false, true, false, false] c62) (planAt 64 []) g62_1 x (injK fx62 ((.normal, g62_1) :: o62_1) some) := by kernel_rfl
noncomputable def l62_1 : g62_1.D → Option (outD o62_1) := loopN g62_1 o62_1 b62_1 18446744073709551616
theorem at62_1 : Code.at [true, true, true, true, false, true, false] c62 = .loop (Code.at [true, true, true, true, false, true, false, false] c62) := by kernel_rfl
theorem s62_1_ok : SubOk P Go.Proofs.Try.f62.ntmps fx62 (Code.at [true, true, true, true, false, true, false] c62) ⟨g62_1, o62_1, l62_1⟩ := by
  rw [at62_1]
  exact loop_ok (sub_ok (g := g62_1) (outs := ((.normal, g62_1) :: o62_1)) (f := b62_1) (Table.ok T82_ok _) hmix (planAt_ok (P := P) (n := Go.Proofs.Try.f62.ntmps) (fx := fx62) (c := (Code.at [true, true, true, true, false, true, false, false] c62)) (d := 64) (l := []) trivial) b62_1_eq) rfl _
noncomputable def f62 (x : gi62.D) : Option go62.D :=
  (Option.bind (Go.Ev.Zlib.f82 (x.1, Unit.unit)) (fun y1 => (if ((y1.2.1 != (0 : Int)) = true) then (some (y1.2.1, ([], Unit.unit)))
   else (Option.bind (Go.Ev.Zlib.l62_1 (x.1, ((1 : Int), (y1.1, ((List.replicate (16 : Nat) (0 : Int)), Unit.unit))))) (Sum.elim (fun y2 => (if ((((List.length y2.1) : Nat) : Int) ≤ (((List.length y2.1) : Nat) : Int)) then (if ((((List.length y2.1) : Nat) : Int) ≤ (35184372088832 : Int)) then (if ((Int.toNat (((List.length y2.1) : Nat) : Int)) = (List.length (List.replicate (Int.toNat (((List.length y2.1) : Nat) : Int)) (0 : Int)))) then (Option.bind (Go.Ev.Zlib.l62_2 (y2.1, ((((List.length y2.1) : Nat) : Int), ((0 : Int), (y2.2.1, ((List.replicate (Int.toNat (((List.length y2.1) : Nat) : Int)) (0 : Int)), Unit.unit)))))) (Sum.elim (fun y3 => (if ((List.length y3.1) = (List.length y3.1)) then (some ((0 : Int), (y3.1, Unit.unit)))
   else none)) Empty.elim))
   else none)
   else none)
   else none)) Empty.elim)))))
theorem f62_eq (x : gi62.D) : f62 x = evF P (T82.orc _) Go.Proofs.Try.f62.ntmps fx62 c62 (planAt 64 [([true, true, true, true, false, true, false], ⟨g62_1, o62_1, l62_1⟩), ([true, true, true, true, true, true, false, true, false], ⟨g62_2, o62_2, l62_2⟩)]) gi62 x (fnK fx62 [go62]) := by kernel_rfl
theorem pf62 : AllSub P Go.Proofs.Try.f62.ntmps fx62 c62 [([true, true, true, true, false, true, false], ⟨g62_1, o62_1, l62_1⟩), ([true, true, true, true, true, true, false, true, false], ⟨g62_2, o62_2, l62_2⟩)] := And.intro s62_1_ok (And.intro s62_2_ok (trivial))
theorem qf62 : PlanOk P Go.Proofs.Try.f62.ntmps fx62 (planAt 64 [([true, true, true, true, false, true, false], ⟨g62_1, o62_1, l62_1⟩), ([true, true, true, true, true, true, false, true, false], ⟨g62_2, o62_2, l62_2⟩)]) c62 := planAt_ok pf62
theorem f62_ok : EntOk P 62 ⟨gi62, [go62], f62⟩ :=
  ent_ok (fn := Go.Proofs.Try.f62) (gi := gi62) (gos := [go62]) (f := f62) (c := c62) (fx := fx62) ⟨Go.Proofs.Try.func62, by kernel_rfl, rfl, by decide +kernel, rfl, rfl⟩ (by kernel_rfl) (Table.ok T82_ok _) hmix (qf62) f62_eq
noncomputable def T62 : Table := T82.add 62 [⟨gi62, [go62], f62⟩] []
theorem T62_ok : TableOk P T62 := Table.plus T82_ok (es := [⟨gi62, [go62], f62⟩]) ⟨f62_ok, trivial⟩ []

/-! ## 63: slices.Clone[[]int,int] -/
noncomputable def c63 : Code := Func.code Go.Proofs.Try.f63
abbrev gi63 : Sg := ⟨[0], [.lf (.sl (.int .i64))], []⟩
abbrev go63 : Sg := ⟨[2], [.lf (.gr (.int .i64) 0)], [some (.arr true (.int .i64))]⟩
def fx63 : List Bool := []
noncomputable def f63 (x : gi63.D) : Option go63.D :=
  (if ((List.length x.1) = (0 : Nat)) then (Go.Ev.amb (Go.Ev.Orc.eq (Go.Ev.Table.orcE Go.Ev.Zlib.T62 (Go.Ev.Sg.D Go.Ev.Zlib.go63) (Go.Ev.Sg.eq Go.Ev.Zlib.go63) (Go.Ev.Sg.eq_eq Go.Ev.Zlib.go63))) (some ([], Unit.unit)) (if (((0 : Nat) + (List.length x.1)) ≤ (17592186044416 : Nat)) then (if ((List.length ((List.take (0 : Nat) (List.drop (0 : Nat) (List.replicate (0 : Nat) (0 : Int)))) ++ x.1)) = (List.length ((List.take (0 : Nat) (List.drop (0 : Nat) (List.replicate (0 : Nat) (0 : Int)))) ++ x.1))) then (some (((List.take (0 : Nat) (List.drop (0 : Nat) (List.replicate (0 : Nat) (0 : Int)))) ++ x.1), Unit.unit))
   else none)
   else none))
   else (if (((0 : Nat) + (List.length x.1)) ≤ (17592186044416 : Nat)) then (if ((List.length ((List.take (0 : Nat) (List.drop (0 : Nat) (List.replicate (0 : Nat) (0 : Int)))) ++ x.1)) = (List.length ((List.take (0 : Nat) (List.drop (0 : Nat) (List.replicate (0 : Nat) (0 : Int)))) ++ x.1))) then (some (((List.take (0 : Nat) (List.drop (0 : Nat) (List.replicate (0 : Nat) (0 : Int)))) ++ x.1), Unit.unit))
   else none)
   else none))
theorem f63_eq (x : gi63.D) : f63 x = evF P (T62.orcE go63.D go63.eq go63.eq_eq) Go.Proofs.Try.f63.ntmps fx63 c63 (planAt 64 []) gi63 x (fnK fx63 [go63]) := by kernel_rfl
theorem f63_ok : EntOk P 63 ⟨gi63, [go63], f63⟩ :=
  ent_ok (fn := Go.Proofs.Try.f63) (gi := gi63) (gos := [go63]) (f := f63) (c := c63) (fx := fx63) ⟨Go.Proofs.Try.func63, by kernel_rfl, rfl, by decide +kernel, rfl, rfl⟩ (by kernel_rfl) (Table.okE T62_ok _ _ _) hmix (planAt_ok (P := P) (n := Go.Proofs.Try.f63.ntmps) (fx := fx63) (c := c63) (d := 64) (l := []) trivial) f63_eq
noncomputable def T63 : Table := T62.add 63 [⟨gi63, [go63], f63⟩] []
theorem T63_ok : TableOk P T63 := Table.plus T62_ok (es := [⟨gi63, [go63], f63⟩]) ⟨f63_ok, trivial⟩ []

/-! ## 32: erasure/huff.Make -/
noncomputable def c32 : Code := Func.code Go.Proofs.Try.f32
abbrev gi32 : Sg := ⟨[0], [.lf (.sl (.int .i64))], []⟩
abbrev go32 : List Sg := [⟨[2, 3], [.lf .nilp, .lf (.int .i64)], []⟩, ⟨[2, 3], [.lf (.ptr 0 0), .lf (.int .i64)], [some (.box true [.many (.int .i64) 16, .lf (.sl (.int .i64)), .lf (.sl (.int .i64)), .lf (.gr (.int .i64) 1)]), some (.arr true (.int .i64))]⟩]
def fx32 : List Bool := []
abbrev g32_2 : Sg := ⟨[0, 6, 7, 8, 24, 27, 28, 29], [.lf (.sl (.int .i64)), .lf (.ptr 0 0), .lf (.int .i64), .lf (.int .i64), .lf (.int .i64), .lf (.sl (.int .i64)), .lf (.int .i64), .lf (.int .i64)], [some (.box true [.many (.int .i64) 16, .lf (.sl (.int .i64)), .lf (.sl (.int .i64)), .lf (.gr (.int .i64) 1)]), some (.arr true (.int .i64))]⟩
abbrev o32_2 : Outs := [(.exit 2, ⟨[0, 6, 7, 24], [.lf (.sl (.int .i64)), .lf (.ptr 0 0), .lf (.int .i64), .lf (.int .i64)], [some (.box true [.many (.int .i64) 16, .lf (.sl (.int .i64)), .lf (.sl (.int .i64)), .lf (.gr (.int .i64) 1)]), some (.arr true (.int .i64))]⟩)]
noncomputable def b32_2 (x : g32_2.D) : Option (outD ((.normal, g32_2) :: o32_2)) :=
  (if ((decide (x.2.2.2.2.2.2.1 < x.2.2.2.2.2.1)) = true) then (if ((0 : Int) ≤ x.2.2.2.2.2.2.1) then (if (x.2.2.2.2.2.2.1 < (((List.length x.2.2.2.2.1) : Nat) : Int)) then (if (((List.getD x.2.2.2.2.1 (Int.toNat x.2.2.2.2.2.2.1) (0 : Int)) == (Go.IntKind.wrap Go.IntKind.i64 (x.2.2.1 + (1 : Int)))) = true) then (if (((List.length (List.take (List.length x.2.2.2.2.2.2.2.2.2.2.1) (List.drop (0 : Nat) x.2.2.2.2.2.2.2.2.2.2.1))) + (List.length (List.take (1 : Nat) (List.drop (0 : Nat) (List.set (List.replicate (1 : Nat) (0 : Int)) (0 : Nat) x.2.2.2.2.2.2.1))))) ≤ (17592186044416 : Nat)) then (if ((0 : Int) ≤ (List.getD x.2.2.2.2.1 (Int.toNat x.2.2.2.2.2.2.1) (0 : Int))) then (if ((List.getD x.2.2.2.2.1 (Int.toNat x.2.2.2.2.2.2.1) (0 : Int)) < (16 : Int)) then (if ((0 : Int) ≤ (List.getD x.2.2.2.2.1 (Int.toNat x.2.2.2.2.2.2.1) (0 : Int))) then (if ((List.getD x.2.2.2.2.1 (Int.toNat x.2.2.2.2.2.2.1) (0 : Int)) < (16 : Int)) then (if ((List.getD x.2.2.2.2.1 (Int.toNat x.2.2.2.2.2.2.1) (0 : Int)) < (0 : Int)) then none
   else (if ((List.length ((List.take (List.length x.2.2.2.2.2.2.2.2.2.2.1) (List.drop (0 : Nat) x.2.2.2.2.2.2.2.2.2.2.1)) ++ (List.take (1 : Nat) (List.drop (0 : Nat) (List.set (List.replicate (1 : Nat) (0 : Int)) (0 : Nat) x.2.2.2.2.2.2.1))))) = (List.length ((List.take (List.length x.2.2.2.2.2.2.2.2.2.2.1) (List.drop (0 : Nat) x.2.2.2.2.2.2.2.2.2.2.1)) ++ (List.take (1 : Nat) (List.drop (0 : Nat) (List.set (List.replicate (1 : Nat) (0 : Int)) (0 : Nat) x.2.2.2.2.2.2.1)))))) then (some (Sum.inl (x.1, ((Go.IntKind.wrap Go.IntKind.i64 (x.2.1 + (Int.fdiv (32768 : Int) ((2 : Int) ^ (Min.min (Int.toNat (List.getD x.2.2.2.2.1 (Int.toNat x.2.2.2.2.2.2.1) (0 : Int))) (64 : Nat)))))), (x.2.2.1, (x.2.2.2.1, (x.2.2.2.2.1, (x.2.2.2.2.2.1, ((Go.IntKind.wrap Go.IntKind.i64 (x.2.2.2.2.2.2.1 + (1 : Int))), ((List.set x.2.2.2.2.2.2.2.1 (Int.toNat (List.getD x.2.2.2.2.1 (Int.toNat x.2.2.2.2.2.2.1) (0 : Int))) (Go.IntKind.wrap Go.IntKind.i64 ((List.getD x.2.2.2.2.2.2.2.1 (Int.toNat (List.getD x.2.2.2.2.1 (Int.toNat x.2.2.2.2.2.2.1) (0 : Int))) (0 : Int)) + (1 : Int)))), (x.2.2.2.2.2.2.2.2.1, (x.2.2.2.2.2.2.2.2.2.1, (((List.take (List.length x.2.2.2.2.2.2.2.2.2.2.1) (List.drop (0 : Nat) x.2.2.2.2.2.2.2.2.2.2.1)) ++ (List.take (1 : Nat) (List.drop (0 : Nat) (List.set (List.replicate (1 : Nat) (0 : Int)) (0 : Nat) x.2.2.2.2.2.2.1)))), Unit.unit)))))))))))))
   else none))
   else none)
   else none)
   else none)
   else none)
   else none)
   else (if ((List.length x.2.2.2.2.2.2.2.2.2.2.1) = (List.length x.2.2.2.2.2.2.2.2.2.2.1)) then (some (Sum.inl (x.1, (x.2.1, (x.2.2.1, (x.2.2.2.1, (x.2.2.2.2.1, (x.2.2.2.2.2.1, ((Go.IntKind.wrap Go.IntKind.i64 (x.2.2.2.2.2.2.1 + (1 : Int))), (x.2.2.2.2.2.2.2.1, (x.2.2.2.2.2.2.2.2.1, (x.2.2.2.2.2.2.2.2.2.1, (x.2.2.2.2.2.2.2.2.2.2.1, Unit.unit)))))))))))))
   else none))
   else none)
   else none)
   else (if ((List.length x.2.2.2.2.2.2.2.2.2.2.1) = (List.length x.2.2.2.2.2.2.2.2.2.2.1)) then (some (Sum.inr (Sum.inl (x.1, (x.2.1, (x.2.2.2.1, (x.2.2.2.2.2.2.2.1, (x.2.2.2.2.2.2.2.2.1, (x.2.2.2.2.2.2.2.2.2.1, (x.2.2.2.2.2.2.2.2.2.2.1, Unit.unit))))))))))
   else none))
theorem b32_2_eq (x : g32_2.D) : b32_2 x = evF P (T63.orc _) Go.Proofs.Try.f32.ntmps fx32 (Code.at [true, true, true, true, true, false, true, false, false, true, true, false, false, true, true, false, false] c32) (planAt 64 []) g32_2 x (injK fx32 ((.normal, g32_2) :: o32_2) some) := by kernel_rfl
noncomputable def l32_2 : g32_2.D → Option (outD o32_2) := loopN g32_2 o32_2 b32_2 18446744073709551616
theorem at32_2 : Code.at [true, true, true, true, true, false, true, false, false, true, true, false, false, true, true, false] c32 = .loop (Code.at [true, true, true, true, true, false, true, false, false, true, true, false, false, true, true, false, false] c32) := by kernel_rfl
theorem s32_2_ok : SubOk P Go.Proofs.Try.f32.ntmps fx32 (Code.at [true, true, true, true, true, false, true, false, false, true, true, false, false, true, true, false] c32) ⟨g32_2, o32_2, l32_2⟩ := by
  rw [at32_2]
  exact loop_ok (sub_ok (g := g32_2) (outs := ((.normal, g32_2) :: o32_2)) (f := b32_2) (Table.ok T63_ok _) hmix (planAt_ok (P := P) (n := Go.Proofs.Try.f32.ntmps) (fx := fx32) (c := (Code.at [true, true, true, true, true, false, true, false, false, true, true, false, false, true, true, false, false] c32)) (d := 64) (l := []) trivial) b32_2_eq) rfl _
abbrev g32_1 : Sg := ⟨[0, 6, 7, 24], [.lf (.sl (.int .i64)), .lf (.ptr 0 0), .lf (.int .i64), .lf (.int .i64)], [some (.box true [.many (.int .i64) 16, .lf (.sl (.int .i64)), .lf (.sl (.int .i64)), .lf (.gr (.int .i64) 1)]), some (.arr true (.int .i64))]⟩
abbrev o32_1 : Outs := [(.exit 0, ⟨[6, 7], [.lf (.ptr 0 0), .lf (.int .i64)], [some (.box true [.many (.int .i64) 16, .lf (.sl (.int .i64)), .lf (.sl (.int .i64)), .lf (.gr (.int .i64) 1)]), some (.arr true (.int .i64))]⟩)]
noncomputable def b32_1 (x : g32_1.D) : Option (outD ((.normal, g32_1) :: o32_1)) :=
  (if ((decide (x.2.2.1 < (15 : Int))) = true) then (if ((List.length x.2.2.2.2.2.2.1) = (List.length x.2.2.2.2.2.2.1)) then (Option.bind (Go.Ev.Zlib.l32_2 (x.1, (x.2.1, (x.2.2.1, (x.2.2.1, (x.1, ((((List.length x.1) : Nat) : Int), ((0 : Int), (x.2.2.2.1, (x.2.2.2.2.1, (x.2.2.2.2.2.1, (x.2.2.2.2.2.2.1, Unit.unit)))))))))))) (Sum.elim (fun y1 => (if ((List.length y1.2.2.2.2.2.2.1) = (List.length y1.2.2.2.2.2.2.1)) then (some (Sum.inl (y1.1, (y1.2.1, ((Go.IntKind.wrap Go.IntKind.i64 (y1.2.2.1 + (1 : Int))), (y1.2.2.2.1, (y1.2.2.2.2.1, (y1.2.2.2.2.2.1, (y1.2.2.2.2.2.2.1, Unit.unit)))))))))
   else none)) Empty.elim))
   else none)
   else (if ((List.length x.2.2.2.2.2.2.1) = (List.length x.2.2.2.2.2.2.1)) then (some (Sum.inr (Sum.inl (x.2.1, (x.2.2.2.1, (x.2.2.2.2.1, (x.2.2.2.2.2.1, (x.2.2.2.2.2.2.1, Unit.unit))))))))
   else none))
theorem b32_1_eq (x : g32_1.D) : b32_1 x = evF P (T63.orc _) Go.Proofs.Try.f32.ntmps fx32 (Code.at [true, true, true, true, true, false, true, false, false] c32) (planAt 64 [([true, true, false, false, true, true, false], ⟨g32_2, o32_2, l32_2⟩)]) g32_1 x (injK fx32 ((.normal, g32_1) :: o32_1) some) := by kernel_rfl
noncomputable def l32_1 : g32_1.D → Option (outD o32_1) := loopN g32_1 o32_1 b32_1 18446744073709551616
theorem p32_1 : AllSub P Go.Proofs.Try.f32.ntmps fx32 (Code.at [true, true, true, true, true, false, true, false, false] c32) [([true, true, false, false, true, true, false], ⟨g32_2, o32_2, l32_2⟩)] := And.intro s32_2_ok (trivial)
theorem q32_1 : PlanOk P Go.Proofs.Try.f32.ntmps fx32 (planAt 64 [([true, true, false, false, true, true, false], ⟨g32_2, o32_2, l32_2⟩)]) (Code.at [true, true, true, true, true, false, true, false, false] c32) := planAt_ok p32_1
theorem at32_1 : Code.at [true, true, true, true, true, false, true, false] c32 = .loop (Code.at [true, true, true, true, true, false, true, false, false] c32) := by kernel_rfl
theorem s32_1_ok : SubOk P Go.Proofs.Try.f32.ntmps fx32 (Code.at [true, true, true, true, true, false, true, false] c32) ⟨g32_1, o32_1, l32_1⟩ := by
  rw [at32_1]
  exact loop_ok (sub_ok (g := g32_1) (outs := ((.normal, g32_1) :: o32_1)) (f := b32_1) (Table.ok T63_ok _) hmix (q32_1) b32_1_eq) rfl _
noncomputable def f32 (x : gi32.D) : Option (alt go32) :=
  (Option.bind (Go.Ev.Zlib.f62 (x.1, Unit.unit)) (fun y1 => (if ((y1.1 != (0 : Int)) = true) then (some (Sum.inl (y1.1, Unit.unit)))
   else (Option.bind (Go.Ev.Zlib.f63 (x.1, Unit.unit)) (fun y2 => (Option.bind (Go.Ev.Zlib.l32_1 (x.1, ((0 : Int), ((0 : Int), ((List.replicate (16 : Nat) (0 : Int)), ((List.take (List.length y2.1) (List.drop (0 : Nat) y2.1)), ((List.take (List.length y1.2.1) (List.drop (0 : Nat) y1.2.1)), ([], Unit.unit)))))))) (Sum.elim (fun y3 => (if ((decide (y3.1 < (32768 : Int))) = true) then (if ((decide ((((List.length y3.2.2.2.2.1) : Nat) : Int) > (0 : Int))) = true) then (if ((decide ((((List.length y3.2.2.2.2.1) : Nat) : Int) > (1 : Int))) = true) then (some (Sum.inl ((4 : Int), Unit.unit)))
   else (if (((List.getD y3.2.1 (1 : Nat) (0 : Int)) == (0 : Int)) = true) then (some (Sum.inl ((4 : Int), Unit.unit)))
   else (if ((List.length y3.2.2.2.2.1) = (List.length y3.2.2.2.2.1)) then (some (Sum.inr ((0 : Int), (y3.2.1, (y3.2.2.1, (y3.2.2.2.1, (y3.2.2.2.2.1, Unit.unit)))))))
   else none)))
   else (if ((List.length y3.2.2.2.2.1) = (List.length y3.2.2.2.2.1)) then (some (Sum.inr ((0 : Int), (y3.2.1, (y3.2.2.1, (y3.2.2.2.1, (y3.2.2.2.2.1, Unit.unit)))))))
   else none))
   else (if ((List.length y3.2.2.2.2.1) = (List.length y3.2.2.2.2.1)) then (some (Sum.inr ((0 : Int), (y3.2.1, (y3.2.2.1, (y3.2.2.2.1, (y3.2.2.2.2.1, Unit.unit)))))))
   else none))) Empty.elim)))))))
theorem f32_eq (x : gi32.D) : f32 x = evF P (T63.orc _) Go.Proofs.Try.f32.ntmps fx32 c32 (planAt 64 [([true, true, true, true, true, false, true, false], ⟨g32_1, o32_1, l32_1⟩)]) gi32 x (fnK fx32 go32) := by kernel_rfl
theorem pf32 : AllSub P Go.Proofs.Try.f32.ntmps fx32 c32 [([true, true, true, true, true, false, true, false], ⟨g32_1, o32_1, l32_1⟩)] := And.intro s32_1_ok (trivial)
theorem qf32 : PlanOk P Go.Proofs.Try.f32.ntmps fx32 (planAt 64 [([true, true, true, true, true, false, true, false], ⟨g32_1, o32_1, l32_1⟩)]) c32 := planAt_ok pf32
theorem f32_ok : EntOk P 32 ⟨gi32, go32, f32⟩ :=
  ent_ok (fn := Go.Proofs.Try.f32) (gi := gi32) (gos := go32) (f := f32) (c := c32) (fx := fx32) ⟨Go.Proofs.Try.func32, by kernel_rfl, rfl, by decide +kernel, rfl, rfl⟩ (by kernel_rfl) (Table.ok T63_ok _) hmix (qf32) f32_eq
noncomputable def T32 : Table := T63.add 32 [⟨gi32, go32, f32⟩] []
theorem T32_ok : TableOk P T32 := Table.plus T63_ok (es := [⟨gi32, go32, f32⟩]) ⟨f32_ok, trivial⟩ []

/-! ## 35: erasure/bits.NewWriter -/
noncomputable def c35 : Code := Func.code Go.Proofs.Try.f35
abbrev gi35 : Sg := ⟨[], [], []⟩
abbrev go35 : Sg := ⟨[0], [.lf (.ptr 0 0)], [some (.box true [.lf (.gr (.int .u8) 1), .lf (.int .i64), .lf (.int .i64)]), some (.arr true (.int .u8))]⟩
def fx35 : List Bool := []
noncomputable def f35 (_ : gi35.D) : Option go35.D :=
  (some ((0 : Int), ((0 : Int), ([], Unit.unit))))
theorem f35_eq (x : gi35.D) : f35 x = evF P (T32.orc _) Go.Proofs.Try.f35.ntmps fx35 c35 (planAt 64 []) gi35 x (fnK fx35 [go35]) := by kernel_rfl
theorem f35_ok : EntOk P 35 ⟨gi35, [go35], f35⟩ :=
  ent_ok (fn := Go.Proofs.Try.f35) (gi := gi35) (gos := [go35]) (f := f35) (c := c35) (fx := fx35) ⟨Go.Proofs.Try.func35, by kernel_rfl, rfl, by decide +kernel, rfl, rfl⟩ (by kernel_rfl) (Table.ok T32_ok _) hmix (planAt_ok (P := P) (n := Go.Proofs.Try.f35.ntmps) (fx := fx35) (c := c35) (d := 64) (l := []) trivial) f35_eq
noncomputable def T35 : Table := T32.add 35 [⟨gi35, [go35], f35⟩] []
theorem T35_ok : TableOk P T35 := Table.plus T32_ok (es := [⟨gi35, [go35], f35⟩]) ⟨f35_ok, trivial⟩ []

/-! ## 36: (*erasure/bits.Writer).Put -/
noncomputable def c36 : Code := Func.code Go.Proofs.Try.f36
abbrev gi36 : Sg := ⟨[0, 1, 2], [.lf (.ptr 0 0), .lf (.int .i64), .lf (.int .i64)], [some (.box true [.lf (.gr (.int .u8) 1), .lf (.int .i64), .lf (.int .i64)]), some (.arr true (.int .u8))]⟩
abbrev go36 : Sg := ⟨[6], [.lf (.int .i64)], [some (.box true [.lf (.gr (.int .u8) 2), .lf (.int .i64), .lf (.int .i64)]), none, some (.arr true (.int .u8))]⟩
def fx36 : List Bool := [true, false]
abbrev g36_1 : Sg := ⟨[0], [.lf (.ptr 0 0)], [some (.box true [.lf (.gr (.int .u8) 2), .lf (.int .i64), .lf (.int .i64)]), none, some (.arr true (.int .u8))]⟩
abbrev o36_1 : Outs := [(.exit 1, ⟨[], [], [some (.box true [.lf (.gr (.int .u8) 2), .lf (.int .i64), .lf (.int .i64)]), none, some (.arr true (.int .u8))]⟩)]
noncomputable def b36_1 (x : g36_1.D) : Option (outD ((.normal, g36_1) :: o36_1)) :=
  (if ((decide (x.2.1 ≥ (8 : Int))) = true) then (if (((List.length (List.take (List.length x.2.2.1) (List.drop (0 : Nat) x.2.2.1))) + (List.length (List.take (1 : Nat) (List.drop (0 : Nat) (List.set (List.replicate (1 : Nat) (0 : Int)) (0 : Nat) (Go.IntKind.wrap Go.IntKind.u8 x.1)))))) ≤ (140737488355328 : Nat)) then (if ((List.length ((List.take (List.length x.2.2.1) (List.drop (0 : Nat) x.2.2.1)) ++ (List.take (1 : Nat) (List.drop (0 : Nat) (List.set (List.replicate (1 : Nat) (0 : Int)) (0 : Nat) (Go.IntKind.wrap Go.IntKind.u8 x.1)))))) = (List.length ((List.take (List.length x.2.2.1) (List.drop (0 : Nat) x.2.2.1)) ++ (List.take (1 : Nat) (List.drop (0 : Nat) (List.set (List.replicate (1 : Nat) (0 : Int)) (0 : Nat) (Go.IntKind.wrap Go.IntKind.u8 x.1))))))) then (some (Sum.inl ((Int.fdiv x.1 (256 : Int)), ((Go.IntKind.wrap Go.IntKind.i64 (x.2.1 - (8 : Int))), (((List.take (List.length x.2.2.1) (List.drop (0 : Nat) x.2.2.1)) ++ (List.take (1 : Nat) (List.drop (0 : Nat) (List.set (List.replicate (1 : Nat) (0 : Int)) (0 : Nat) (Go.IntKind.wrap Go.IntKind.u8 x.1))))), Unit.unit)))))
   else none)
   else none)
   else (if ((List.length x.2.2.1) = (List.length x.2.2.1)) then (some (Sum.inr (Sum.inl (x.1, (x.2.1, (x.2.2.1, Unit.unit))))))
   else none))
theorem b36_1_eq (x : g36_1.D) : b36_1 x = evF P (T35.orc _) Go.Proofs.Try.f36.ntmps fx36 (Code.at [true, true, true, false, true, false, false] c36) (planAt 64 []) g36_1 x (injK fx36 ((.normal, g36_1) :: o36_1) some) := by kernel_rfl
noncomputable def l36_1 : g36_1.D → Option (outD o36_1) := loopN g36_1 o36_1 b36_1 18446744073709551616
theorem at36_1 : Code.at [true, true, true, false, true, false] c36 = .loop (Code.at [true, true, true, false, true, false, false] c36) := by kernel_rfl
theorem s36_1_ok : SubOk P Go.Proofs.Try.f36.ntmps fx36 (Code.at [true, true, true, false, true, false] c36) ⟨g36_1, o36_1, l36_1⟩ := by
  rw [at36_1]
  exact loop_ok (sub_ok (g := g36_1) (outs := ((.normal, g36_1) :: o36_1)) (f := b36_1) (Table.ok T35_ok _) hmix (planAt_ok (P := P) (n := Go.Proofs.Try.f36.ntmps) (fx := fx36) (c := (Code.at [true, true, true, false, true, false, false] c36)) (d := 64) (l := []) trivial) b36_1_eq) rfl _
noncomputable def f36 (x : gi36.D) : Option go36.D :=
  (if ((decide (x.2.1 < (0 : Int))) = true) then (if ((List.length x.2.2.2.2.1) = (List.length x.2.2.2.2.1)) then (some ((1 : Int), (x.2.2.1, (x.2.2.2.1, (x.2.2.2.2.1, Unit.unit)))))
   else none)
   else (if ((decide (x.2.1 > (24 : Int))) = true) then (if ((List.length x.2.2.2.2.1) = (List.length x.2.2.2.2.1)) then (some ((1 : Int), (x.2.2.1, (x.2.2.2.1, (x.2.2.2.2.1, Unit.unit)))))
   else none)
   else (if ((decide (x.1 < (0 : Int))) = true) then (if ((List.length x.2.2.2.2.1) = (List.length x.2.2.2.2.1)) then (some ((1 : Int), (x.2.2.1, (x.2.2.2.1, (x.2.2.2.2.1, Unit.unit)))))
   else none)
   else (if (x.2.1 < (0 : Int)) then none
   else (if (((Int.fdiv x.1 ((2 : Int) ^ (Min.min (Int.toNat x.2.1) (64 : Nat)))) != (0 : Int)) = true) then (if ((List.length x.2.2.2.2.1) = (List.length x.2.2.2.2.1)) then (some ((1 : Int), (x.2.2.1, (x.2.2.2.1, (x.2.2.2.2.1, Unit.unit)))))
   else none)
   else (if (x.2.2.2.1 < (0 : Int)) then none
   else (if ((List.length x.2.2.2.2.1) = (List.length x.2.2.2.2.1)) then (Option.bind (Go.Ev.Zlib.l36_1 ((Go.IntKind.wrap Go.IntKind.i64 (((BitVec.toNat ((BitVec.ofInt (64 : Nat) x.2.2.1) ||| (BitVec.ofInt (64 : Nat) (Go.IntKind.wrap Go.IntKind.i64 (x.1 * ((2 : Int) ^ (Min.min (Int.toNat x.2.2.2.1) (64 : Nat)))))))) : Nat) : Int)), ((Go.IntKind.wrap Go.IntKind.i64 (x.2.2.2.1 + x.2.1)), (x.2.2.2.2.1, Unit.unit)))) (Sum.elim (fun y1 => (if ((List.length y1.2.2.1) = (List.length y1.2.2.1)) then (some ((0 : Int), (y1.1, (y1.2.1, (y1.2.2.1, Unit.unit)))))
   else none)) Empty.elim))
   else none)))))))
theorem f36_eq (x : gi36.D) : f36 x = evF P (T35.orc _) Go.Proofs.Try.f36.ntmps fx36 c36 (planAt 64 [([true, true, true, false, true, false], ⟨g36_1, o36_1, l36_1⟩)]) gi36 x (fnK fx36 [go36]) := by kernel_rfl
theorem pf36 : AllSub P Go.Proofs.Try.f36.ntmps fx36 c36 [([true, true, true, false, true, false], ⟨g36_1, o36_1, l36_1⟩)] := And.intro s36_1_ok (trivial)
theorem qf36 : PlanOk P Go.Proofs.Try.f36.ntmps fx36 (planAt 64 [([true, true, true, false, true, false], ⟨g36_1, o36_1, l36_1⟩)]) c36 := planAt_ok pf36
theorem f36_ok : EntOk P 36 ⟨gi36, [go36], f36⟩ :=
  ent_ok (fn := Go.Proofs.Try.f36) (gi := gi36) (gos := [go36]) (f := f36) (c := c36) (fx := fx36) ⟨Go.Proofs.Try.func36, by kernel_rfl, rfl, by decide +kernel, rfl, rfl⟩ (by kernel_rfl) (Table.ok T35_ok _) hmix (qf36) f36_eq
noncomputable def T36 : Table := T35.add 36 [⟨gi36, [go36], f36⟩] []
theorem T36_ok : TableOk P T36 := Table.plus T35_ok (es := [⟨gi36, [go36], f36⟩]) ⟨f36_ok, trivial⟩ []

/-! ## 39: erasure/deflate.lengths -/
noncomputable def c39 : Code := Func.code Go.Proofs.Try.f39
abbrev gi39 : Sg := ⟨[], [], []⟩
abbrev go39 : Sg := ⟨[0], [.lf (.gr (.pair (.int .i64) (.pair (.int .i64) (.int .i64))) 0)], [some (.arr true (.pair (.int .i64) (.pair (.int .i64) (.int .i64))))]⟩
def fx39 : List Bool := []
abbrev g39_1 : Sg := ⟨[1, 2, 3], [.lf (.gr (.pair (.int .i64) (.pair (.int .i64) (.int .i64))) 0), .lf (.int .i64), .lf (.int .i64)], [some (.arr true (.pair (.int .i64) (.pair (.int .i64) (.int .i64))))]⟩
abbrev o39_1 : Outs := [(.exit 0, ⟨[1], [.lf (.gr (.pair (.int .i64) (.pair (.int .i64) (.int .i64))) 0)], [some (.arr true (.pair (.int .i64) (.pair (.int .i64) (.int .i64))))]⟩)]
noncomputable def b39_1 (x : g39_1.D) : Option (outD ((.normal, g39_1) :: o39_1)) :=
  (if ((decide (x.2.1 < (285 : Int))) = true) then (if (((List.length (List.take (List.length x.2.2.1) (List.drop (0 : Nat) x.2.2.1))) + (List.length (List.take (1 : Nat) (List.drop (0 : Nat) (List.set (List.replicate (1 : Nat) ((0 : Int), ((0 : Int), (0 : Int)))) (0 : Nat) (x.2.1, (x.1, (Max.max (Go.IntKind.wrap Go.IntKind.i64 (Int.tdiv (Go.IntKind.wrap Go.IntKind.i64 (x.2.1 - (261 : Int))) (4 : Int))) (0 : Int))))))))) ≤ (5864062014805 : Nat)) then (if ((Max.max (Go.IntKind.wrap Go.IntKind.i64 (Int.tdiv (Go.IntKind.wrap Go.IntKind.i64 (x.2.1 - (261 : Int))) (4 : Int))) (0 : Int)) < (0 : Int)) then none
   else (if ((List.length ((List.take (List.length x.2.2.1) (List.drop (0 : Nat) x.2.2.1)) ++ (List.take (1 : Nat) (List.drop (0 : Nat) (List.set (List.replicate (1 : Nat) ((0 : Int), ((0 : Int), (0 : Int)))) (0 : Nat) (x.2.1, (x.1, (Max.max (Go.IntKind.wrap Go.IntKind.i64 (Int.tdiv (Go.IntKind.wrap Go.IntKind.i64 (x.2.1 - (261 : Int))) (4 : Int))) (0 : Int))))))))) = (List.length ((List.take (List.length x.2.2.1) (List.drop (0 : Nat) x.2.2.1)) ++ (List.take (1 : Nat) (List.drop (0 : Nat) (List.set (List.replicate (1 : Nat) ((0 : Int), ((0 : Int), (0 : Int)))) (0 : Nat) (x.2.1, (x.1, (Max.max (Go.IntKind.wrap Go.IntKind.i64 (Int.tdiv (Go.IntKind.wrap Go.IntKind.i64 (x.2.1 - (261 : Int))) (4 : Int))) (0 : Int)))))))))) then (some (Sum.inl ((Go.IntKind.wrap Go.IntKind.i64 (x.1 + (Go.IntKind.wrap Go.IntKind.i64 ((1 : Int) * ((2 : Int) ^ (Min.min (Int.toNat (Max.max (Go.IntKind.wrap Go.IntKind.i64 (Int.tdiv (Go.IntKind.wrap Go.IntKind.i64 (x.2.1 - (261 : Int))) (4 : Int))) (0 : Int))) (64 : Nat))))))), ((Go.IntKind.wrap Go.IntKind.i64 (x.2.1 + (1 : Int))), (((List.take (List.length x.2.2.1) (List.drop (0 : Nat) x.2.2.1)) ++ (List.take (1 : Nat) (List.drop (0 : Nat) (List.set (List.replicate (1 : Nat) ((0 : Int), ((0 : Int), (0 : Int)))) (0 : Nat) (x.2.1, (x.1, (Max.max (Go.IntKind.wrap Go.IntKind.i64 (Int.tdiv (Go.IntKind.wrap Go.IntKind.i64 (x.2.1 - (261 : Int))) (4 : Int))) (0 : Int)))))))), Unit.unit)))))
   else none))
   else none)
   else (if ((List.length x.2.2.1) = (List.length x.2.2.1)) then (some (Sum.inr (Sum.inl (x.2.2.1, Unit.unit))))
   else none))
theorem b39_1_eq (x : g39_1.D) : b39_1 x = evF P (T36.orc _) Go.Proofs.Try.f39.ntmps fx39 (Code.at [true, true, true, false, true, false, false] c39) (planAt 64 []) g39_1 x (injK fx39 ((.normal, g39_1) :: o39_1) some) := by kernel_rfl
noncomputable def l39_1 : g39_1.D → Option (outD o39_1) := loopN g39_1 o39_1 b39_1 18446744073709551616
theorem at39_1 : Code.at [true, true, true, false, true, false] c39 = .loop (Code.at [true, true, true, false, true, false, false] c39) := by kernel_rfl
theorem s39_1_ok : SubOk P Go.Proofs.Try.f39.ntmps fx39 (Code.at [true, true, true, false, true, false] c39) ⟨g39_1, o39_1, l39_1⟩ := by
  rw [at39_1]
  exact loop_ok (sub_ok (g := g39_1) (outs := ((.normal, g39_1) :: o39_1)) (f := b39_1) (Table.ok T36_ok _) hmix (planAt_ok (P := P) (n := Go.Proofs.Try.f39.ntmps) (fx := fx39) (c := (Code.at [true, true, true, false, true, false, false] c39)) (d := 64) (l := []) trivial) b39_1_eq) rfl _
noncomputable def f39 (_ : gi39.D) : Option go39.D :=
  (Option.bind (Go.Ev.Zlib.l39_1 ((3 : Int), ((257 : Int), ((List.replicate (0 : Nat) ((0 : Int), ((0 : Int), (0 : Int)))), Unit.unit)))) (Sum.elim (fun y1 => (if (((List.length (List.take (List.length y1.1) (List.drop (0 : Nat) y1.1))) + (1 : Nat)) ≤ (5864062014805 : Nat)) then (if ((List.length ((List.take (List.length y1.1) (List.drop (0 : Nat) y1.1)) ++ (List.take (1 : Nat) (List.drop (0 : Nat) (List.set (List.replicate (1 : Nat) ((0 : Int), ((0 : Int), (0 : Int)))) (0 : Nat) ((285 : Int), ((258 : Int), (0 : Int)))))))) = (List.length ((List.take (List.length y1.1) (List.drop (0 : Nat) y1.1)) ++ (List.take (1 : Nat) (List.drop (0 : Nat) (List.set (List.replicate (1 : Nat) ((0 : Int), ((0 : Int), (0 : Int)))) (0 : Nat) ((285 : Int), ((258 : Int), (0 : Int))))))))) then (some (((List.take (List.length y1.1) (List.drop (0 : Nat) y1.1)) ++ (List.take (1 : Nat) (List.drop (0 : Nat) (List.set (List.replicate (1 : Nat) ((0 : Int), ((0 : Int), (0 : Int)))) (0 : Nat) ((285 : Int), ((258 : Int), (0 : Int))))))), Unit.unit))
   else none)
   else none)) Empty.elim))
theorem f39_eq (x : gi39.D) : f39 x = evF P (T36.orc _) Go.Proofs.Try.f39.ntmps fx39 c39 (planAt 64 [([true, true, true, false, true, false], ⟨g39_1, o39_1, l39_1⟩)]) gi39 x (fnK fx39 [go39]) := by kernel_rfl
theorem pf39 : AllSub P Go.Proofs.Try.f39.ntmps fx39 c39 [([true, true, true, false, true, false], ⟨g39_1, o39_1, l39_1⟩)] := And.intro s39_1_ok (trivial)
theorem qf39 : PlanOk P Go.Proofs.Try.f39.ntmps fx39 (planAt 64 [([true, true, true, false, true, false], ⟨g39_1, o39_1, l39_1⟩)]) c39 := planAt_ok pf39
theorem f39_ok : EntOk P 39 ⟨gi39, [go39], f39⟩ :=
  ent_ok (fn := Go.Proofs.Try.f39) (gi := gi39) (gos := [go39]) (f := f39) (c := c39) (fx := fx39) ⟨Go.Proofs.Try.func39, by kernel_rfl, rfl, by decide +kernel, rfl, rfl⟩ (by kernel_rfl) (Table.ok T36_ok _) hmix (qf39) f39_eq
noncomputable def T39 : Table := T36.add 39 [⟨gi39, [go39], f39⟩] []
theorem T39_ok : TableOk P T39 := Table.plus T36_ok (es := [⟨gi39, [go39], f39⟩]) ⟨f39_ok, trivial⟩ []

/-! ## 40: erasure/deflate.backwards -/
noncomputable def c40 : Code := Func.code Go.Proofs.Try.f40
abbrev gi40 : Sg := ⟨[], [], []⟩
abbrev go40 : Sg := ⟨[0], [.lf (.gr (.pair (.int .i64) (.pair (.int .i64) (.int .i64))) 0)], [some (.arr true (.pair (.int .i64) (.pair (.int .i64) (.int .i64))))]⟩
def fx40 : List Bool := []
abbrev g40_1 : Sg := ⟨[1, 2, 6], [.lf (.gr (.pair (.int .i64) (.pair (.int .i64) (.int .i64))) 0), .lf (.int .i64), .lf (.int .i64)], [some (.arr true (.pair (.int .i64) (.pair (.int .i64) (.int .i64))))]⟩
abbrev o40_1 : Outs := [(.exit 0, ⟨[1], [.lf (.gr (.pair (.int .i64) (.pair (.int .i64) (.int .i64))) 0)], [some (.arr true (.pair (.int .i64) (.pair (.int .i64) (.int .i64))))]⟩)]
noncomputable def b40_1 (x : g40_1.D) : Option (outD ((.normal, g40_1) :: o40_1)) :=
  (if ((decide (x.2.1 < (30 : Int))) = true) then (if (((List.length (List.take (List.length x.2.2.1) (List.drop (0 : Nat) x.2.2.1))) + (List.length (List.take (1 : Nat) (List.drop (0 : Nat) (List.set (List.replicate (1 : Nat) ((0 : Int), ((0 : Int), (0 : Int)))) (0 : Nat) (x.2.1, (x.1, (Max.max (Go.IntKind.wrap Go.IntKind.i64 (Int.tdiv (Go.IntKind.wrap Go.IntKind.i64 (x.2.1 - (2 : Int))) (2 : Int))) (0 : Int))))))))) ≤ (5864062014805 : Nat)) then (if ((Max.max (Go.IntKind.wrap Go.IntKind.i64 (Int.tdiv (Go.IntKind.wrap Go.IntKind.i64 (x.2.1 - (2 : Int))) (2 : Int))) (0 : Int)) < (0 : Int)) then none
   else (if ((List.length ((List.take (List.length x.2.2.1) (List.drop (0 : Nat) x.2.2.1)) ++ (List.take (1 : Nat) (List.drop (0 : Nat) (List.set (List.replicate (1 : Nat) ((0 : Int), ((0 : Int), (0 : Int)))) (0 : Nat) (x.2.1, (x.1, (Max.max (Go.IntKind.wrap Go.IntKind.i64 (Int.tdiv (Go.IntKind.wrap Go.IntKind.i64 (x.2.1 - (2 : Int))) (2 : Int))) (0 : Int))))))))) = (List.length ((List.take (List.length x.2.2.1) (List.drop (0 : Nat) x.2.2.1)) ++ (List.take (1 : Nat) (List.drop (0 : Nat) (List.set (List.replicate (1 : Nat) ((0 : Int), ((0 : Int), (0 : Int)))) (0 : Nat) (x.2.1, (x.1, (Max.max (Go.IntKind.wrap Go.IntKind.i64 (Int.tdiv (Go.IntKind.wrap Go.IntKind.i64 (x.2.1 - (2 : Int))) (2 : Int))) (0 : Int)))))))))) then (some (Sum.inl ((Go.IntKind.wrap Go.IntKind.i64 (x.1 + (Go.IntKind.wrap Go.IntKind.i64 ((1 : Int) * ((2 : Int) ^ (Min.min (Int.toNat (Max.max (Go.IntKind.wrap Go.IntKind.i64 (Int.tdiv (Go.IntKind.wrap Go.IntKind.i64 (x.2.1 - (2 : Int))) (2 : Int))) (0 : Int))) (64 : Nat))))))), ((Go.IntKind.wrap Go.IntKind.i64 (x.2.1 + (1 : Int))), (((List.take (List.length x.2.2.1) (List.drop (0 : Nat) x.2.2.1)) ++ (List.take (1 : Nat) (List.drop (0 : Nat) (List.set (List.replicate (1 : Nat) ((0 : Int), ((0 : Int), (0 : Int)))) (0 : Nat) (x.2.1, (x.1, (Max.max (Go.IntKind.wrap Go.IntKind.i64 (Int.tdiv (Go.IntKind.wrap Go.IntKind.i64 (x.2.1 - (2 : Int))) (2 : Int))) (0 : Int)))))))), Unit.unit)))))
   else none))
   else none)
   else (if ((List.length x.2.2.1) = (List.length x.2.2.1)) then (some (Sum.inr (Sum.inl (x.2.2.1, Unit.unit))))
   else none))
theorem b40_1_eq (x : g40_1.D) : b40_1 x = evF P (T39.orc _) Go.Proofs.Try.f40.ntmps fx40 (Code.at [true, true, true, false, true, false, false] c40) (planAt 64 []) g40_1 x (injK fx40 ((.normal, g40_1) :: o40_1) some) := by kernel_rfl
noncomputable def l40_1 : g40_1.D → Option (outD o40_1) := loopN g40_1 o40_1 b40_1 18446744073709551616
theorem at40_1 : Code.at [true, true, true, false, true, false] c40 = .loop (Code.at [true, true, true, false, true, false, false] c40) := by kernel_rfl
theorem s40_1_ok : SubOk P Go.Proofs.Try.f40.ntmps fx40 (Code.at [true, true, true, false, true, false] c40) ⟨g40_1, o40_1, l40_1⟩ := by
  rw [at40_1]
  exact loop_ok (sub_ok (g := g40_1) (outs := ((.normal, g40_1) :: o40_1)) (f := b40_1) (Table.ok T39_ok _) hmix (planAt_ok (P := P) (n := Go.Proofs.Try.f40.ntmps) (fx := fx40) (c := (Code.at [true, true, true, false, true, false, false] c40)) (d := 64) (l := []) trivial) b40_1_eq) rfl _
noncomputable def f40 (_ : gi40.D) : Option go40.D :=
  (Option.bind (Go.Ev.Zlib.l40_1 ((1 : Int), ((0 : Int), ((List.replicate (0 : Nat) ((0 : Int), ((0 : Int), (0 : Int)))), Unit.unit)))) (Sum.elim (fun y1 => (if ((List.length y1.1) = (List.length y1.1)) then (some (y1.1, Unit.unit))
   else none)) Empty.elim))
theorem f40_eq (x : gi40.D) : f40 x = evF P (T39.orc _) Go.Proofs.Try.f40.ntmps fx40 c40 (planAt 64 [([true, true, true, false, true, false], ⟨g40_1, o40_1, l40_1⟩)]) gi40 x (fnK fx40 [go40]) := by kernel_rfl
theorem pf40 : AllSub P Go.Proofs.Try.f40.ntmps fx40 c40 [([true, true, true, false, true, false], ⟨g40_1, o40_1, l40_1⟩)] := And.intro s40_1_ok (trivial)
theorem qf40 : PlanOk P Go.Proofs.Try.f40.ntmps fx40 (planAt 64 [([true, true, true, false, true, false], ⟨g40_1, o40_1, l40_1⟩)]) c40 := planAt_ok pf40
theorem f40_ok : EntOk P 40 ⟨gi40, [go40], f40⟩ :=
  ent_ok (fn := Go.Proofs.Try.f40) (gi := gi40) (gos := [go40]) (f := f40) (c := c40) (fx := fx40) ⟨Go.Proofs.Try.func40, by kernel_rfl, rfl, by decide +kernel, rfl, rfl⟩ (by kernel_rfl) (Table.ok T39_ok _) hmix (qf40) f40_eq
noncomputable def T40 : Table := T39.add 40 [⟨gi40, [go40], f40⟩] []
theorem T40_ok : TableOk P T40 := Table.plus T39_ok (es := [⟨gi40, [go40], f40⟩]) ⟨f40_ok, trivial⟩ []

/-! ## 65: (*erasure/huff.Table).Put$1 -/
noncomputable def c65 : Code := Func.code Go.Proofs.Try.f65
abbrev gi65 : Sg := ⟨[0, 1, 2], [.lf (.int .i64), .lf (.ptr 0 0), .lf (.ptr 3 0)], [some (.box true [.lf (.ptr 1 0)]), some (.box true [.many (.int .i64) 16, .lf (.sl (.int .i64)), .lf (.sl (.int .i64)), .lf (.gr (.int .i64) 2)]), some (.arr true (.int .i64)), some (.box true [.lf (.int .i64)])]⟩
abbrev go65 : Sg := ⟨[4], [.lf (.int .i64)], [some (.box true [.lf (.ptr 1 0)]), some (.box true [.many (.int .i64) 16, .lf (.sl (.int .i64)), .lf (.sl (.int .i64)), .lf (.gr (.int .i64) 2)]), some (.arr true (.int .i64)), some (.box true [.lf (.int .i64)])]⟩
def fx65 : List Bool := [true, true, true, true]
noncomputable def f65 (x : gi65.D) : Option go65.D :=
  (if ((0 : Int) ≤ x.2.2.2.2.2.1) then (if (x.2.2.2.2.2.1 < (((List.length x.2.2.2.1) : Nat) : Int)) then (if ((0 : Int) ≤ x.2.2.2.2.2.1) then (if (x.2.2.2.2.2.1 < (((List.length x.2.2.1) : Nat) : Int)) then (if ((Go.IntKind.wrap Go.IntKind.i64 ((Go.IntKind.wrap Go.IntKind.i64 ((List.getD x.2.2.1 (Int.toNat x.2.2.2.2.2.1) (0 : Int)) - (1 : Int))) - x.1)) < (0 : Int)) then none
   else (if ((List.length x.2.2.2.2.1) = (List.length x.2.2.2.2.1)) then (some ((Go.IntKind.wrap Go.IntKind.i64 (((BitVec.toNat ((BitVec.ofInt (64 : Nat) (Int.fdiv (List.getD x.2.2.2.1 (Int.toNat x.2.2.2.2.2.1) (0 : Int)) ((2 : Int) ^ (Min.min (Int.toNat (Go.IntKind.wrap Go.IntKind.i64 ((Go.IntKind.wrap Go.IntKind.i64 ((List.getD x.2.2.1 (Int.toNat x.2.2.2.2.2.1) (0 : Int)) - (1 : Int))) - x.1))) (64 : Nat))))) &&& (BitVec.ofInt (64 : Nat) (1 : Int)))) : Nat) : Int)), (x.2.1, (x.2.2.1, (x.2.2.2.1, (x.2.2.2.2.1, (x.2.2.2.2.2.1, Unit.unit)))))))
   else none))
   else none)
   else none)
   else none)
   else none)
theorem f65_eq (x : gi65.D) : f65 x = evF P (T40.orc _) Go.Proofs.Try.f65.ntmps fx65 c65 (planAt 64 []) gi65 x (fnK fx65 [go65]) := by kernel_rfl
theorem f65_ok : EntOk P 65 ⟨gi65, [go65], f65⟩ :=
  ent_ok (fn := Go.Proofs.Try.f65) (gi := gi65) (gos := [go65]) (f := f65) (c := c65) (fx := fx65) ⟨Go.Proofs.Try.func65, by kernel_rfl, rfl, by decide +kernel, rfl, rfl⟩ (by kernel_rfl) (Table.ok T40_ok _) hmix (planAt_ok (P := P) (n := Go.Proofs.Try.f65.ntmps) (fx := fx65) (c := c65) (d := 64) (l := []) trivial) f65_eq
noncomputable def T65 : Table := T40.add 65 [⟨gi65, [go65], f65⟩] []
theorem T65_ok : TableOk P T65 := Table.plus T40_ok (es := [⟨gi65, [go65], f65⟩]) ⟨f65_ok, trivial⟩ []

/-! ## 38: (*erasure/huff.Table).Put -/
noncomputable def c38 : Code := Func.code Go.Proofs.Try.f38
abbrev gi38 : Sg := ⟨[0, 1, 2], [.lf .nilp, .lf (.ptr 0 0), .lf (.int .i64)], [some (.box true [.lf (.gr (.int .u8) 1), .lf (.int .i64), .lf (.int .i64)]), some (.arr true (.int .u8))]⟩
abbrev go38 : Sg := ⟨[6], [.lf (.int .i64)], [some (.box true [.lf (.gr (.int .u8) 1), .lf (.int .i64), .lf (.int .i64)]), some (.arr true (.int .u8))]⟩
def fx38 : List Bool := [true, true]
noncomputable def f38 (x : gi38.D) : Option go38.D :=
  (if ((List.length x.2.2.2.1) = (List.length x.2.2.2.1)) then (some ((3 : Int), (x.2.1, (x.2.2.1, (x.2.2.2.1, Unit.unit)))))
   else none)
theorem f38_eq (x : gi38.D) : f38 x = evF P (T65.orc _) Go.Proofs.Try.f38.ntmps fx38 c38 (planAt 64 []) gi38 x (fnK fx38 [go38]) := by kernel_rfl
theorem f38_ok : EntOk P 38 ⟨gi38, [go38], f38⟩ :=
  ent_ok (fn := Go.Proofs.Try.f38) (gi := gi38) (gos := [go38]) (f := f38) (c := c38) (fx := fx38) ⟨Go.Proofs.Try.func38, by kernel_rfl, rfl, by decide +kernel, rfl, rfl⟩ (by kernel_rfl) (Table.ok T65_ok _) hmix (planAt_ok (P := P) (n := Go.Proofs.Try.f38.ntmps) (fx := fx38) (c := c38) (d := 64) (l := []) trivial) f38_eq
abbrev gi38_b : Sg := ⟨[0, 1, 2], [.lf (.ptr 0 0), .lf (.ptr 2 0), .lf (.int .i64)], [some (.box true [.many (.int .i64) 16, .lf (.sl (.int .i64)), .lf (.sl (.int .i64)), .lf (.gr (.int .i64) 1)]), some (.arr true (.int .i64)), some (.box true [.lf (.gr (.int .u8) 3), .lf (.int .i64), .lf (.int .i64)]), some (.arr true (.int .u8))]⟩
abbrev go38_b : Sg := ⟨[6], [.lf (.int .i64)], [some (.box true [.many (.int .i64) 16, .lf (.sl (.int .i64)), .lf (.sl (.int .i64)), .lf (.gr (.int .i64) 1)]), some (.arr true (.int .i64)), some (.box true [.lf (.gr (.int .u8) 4), .lf (.int .i64), .lf (.int .i64)]), none, some (.arr true (.int .u8))]⟩
def fx38_b : List Bool := [true, true, true, false]
abbrev g38_b_1 : Sg := ⟨[1, 7, 46, 47], [.lf (.ptr 2 0), .lf (.fnc 65 [(.ptr 4 0), (.ptr 5 0)]), .lf (.int .i64), .lf (.int .i64)], [some (.box true [.many (.int .i64) 16, .lf (.sl (.int .i64)), .lf (.sl (.int .i64)), .lf (.gr (.int .i64) 1)]), some (.arr true (.int .i64)), some (.box true [.lf (.gr (.int .u8) 6), .lf (.int .i64), .lf (.int .i64)]), none, some (.box true [.lf (.ptr 0 0)]), some (.box true [.lf (.int .i64)]), some (.arr true (.int .u8))]⟩
abbrev o38_b_1 : Outs := [(.exit 1, ⟨[], [], [some (.box true [.many (.int .i64) 16, .lf (.sl (.int .i64)), .lf (.sl (.int .i64)), .lf (.gr (.int .i64) 1)]), some (.arr true (.int .i64)), some (.box true [.lf (.gr (.int .u8) 4), .lf (.int .i64), .lf (.int .i64)]), none, some (.arr true (.int .u8))]⟩), (.ret, ⟨[6], [.lf (.int .i64)], [some (.box true [.many (.int .i64) 16, .lf (.sl (.int .i64)), .lf (.sl (.int .i64)), .lf (.gr (.int .i64) 1)]), some (.arr true (.int .i64)), some (.box true [.lf (.gr (.int .u8) 4), .lf (.int .i64), .lf (.int .i64)]), none, some (.arr true (.int .u8))]⟩)]
noncomputable def b38_b_1 (x : g38_b_1.D) : Option (outD ((.normal, g38_b_1) :: o38_b_1)) :=
  (if ((decide (x.2.1 < x.1)) = true) then (if ((List.length x.2.2.2.2.2.1) = (List.length x.2.2.2.2.2.1)) then (Option.bind (Go.Ev.Zlib.f65 (x.2.1, (x.2.2.1, (x.2.2.2.1, (x.2.2.2.2.1, (x.2.2.2.2.2.1, (x.2.2.2.2.2.2.2.2.1, Unit.unit))))))) (fun y1 => (if ((List.length x.2.2.2.2.2.2.2.2.2.1) = (List.length x.2.2.2.2.2.2.2.2.2.1)) then (Option.bind (Go.Ev.Zlib.f36 (y1.1, ((1 : Int), (x.2.2.2.2.2.2.1, (x.2.2.2.2.2.2.2.1, (x.2.2.2.2.2.2.2.2.2.1, Unit.unit)))))) (fun y2 => (if ((y2.1 != (0 : Int)) = true) then (if ((List.length y1.2.2.2.2.1) = (List.length y1.2.2.2.2.1)) then (if ((List.length y2.2.2.2.1) = (List.length y2.2.2.2.1)) then (some (Sum.inr (Sum.inr (Sum.inl (y2.1, (y1.2.1, (y1.2.2.1, (y1.2.2.2.1, (y1.2.2.2.2.1, (y2.2.1, (y2.2.2.1, (y2.2.2.2.1, Unit.unit))))))))))))
   else none)
   else none)
   else (if ((List.length y1.2.2.2.2.1) = (List.length y1.2.2.2.2.1)) then (if ((List.length y2.2.2.2.1) = (List.length y2.2.2.2.1)) then (some (Sum.inl (x.1, ((Go.IntKind.wrap Go.IntKind.i64 (x.2.1 + (1 : Int))), (y1.2.1, (y1.2.2.1, (y1.2.2.2.1, (y1.2.2.2.2.1, (y2.2.1, (y2.2.2.1, (y1.2.2.2.2.2.1, (y2.2.2.2.1, Unit.unit))))))))))))
   else none)
   else none))))
   else none)))
   else none)
   else (if ((List.length x.2.2.2.2.2.1) = (List.length x.2.2.2.2.2.1)) then (if ((List.length x.2.2.2.2.2.2.2.2.2.1) = (List.length x.2.2.2.2.2.2.2.2.2.1)) then (some (Sum.inr (Sum.inl (x.2.2.1, (x.2.2.2.1, (x.2.2.2.2.1, (x.2.2.2.2.2.1, (x.2.2.2.2.2.2.1, (x.2.2.2.2.2.2.2.1, (x.2.2.2.2.2.2.2.2.2.1, Unit.unit))))))))))
   else none)
   else none))
theorem b38_b_1_eq (x : g38_b_1.D) : b38_b_1 x = evF P (T65.orc _) Go.Proofs.Try.f38.ntmps fx38_b (Code.at [true, true, true, false, true, false, false] c38) (planAt 64 []) g38_b_1 x (injK fx38_b ((.normal, g38_b_1) :: o38_b_1) some) := by kernel_rfl
noncomputable def l38_b_1 : g38_b_1.D → Option (outD o38_b_1) := loopN g38_b_1 o38_b_1 b38_b_1 18446744073709551616
theorem at38_b_1 : Code.at [true, true, true, false, true, false] c38 = .loop (Code.at [true, true, true, false, true, false, false] c38) := by kernel_rfl
theorem s38_b_1_ok : SubOk P Go.Proofs.Try.f38.ntmps fx38_b (Code.at [true, true, true, false, true, false] c38) ⟨g38_b_1, o38_b_1, l38_b_1⟩ := by
  rw [at38_b_1]
  exact loop_ok (sub_ok (g := g38_b_1) (outs := ((.normal, g38_b_1) :: o38_b_1)) (f := b38_b_1) (Table.ok T65_ok _) hmix (planAt_ok (P := P) (n := Go.Proofs.Try.f38.ntmps) (fx := fx38_b) (c := (Code.at [true, true, true, false, true, false, false] c38)) (d := 64) (l := []) trivial) b38_b_1_eq) rfl _
noncomputable def f38_b (x : gi38_b.D) : Option go38_b.D :=
  (if ((decide (x.1 < (0 : Int))) = true) then (if ((List.length x.2.2.2.2.1) = (List.length x.2.2.2.2.1)) then (if ((List.length x.2.2.2.2.2.2.2.1) = (List.length x.2.2.2.2.2.2.2.1)) then (some ((8 : Int), (x.2.1, (x.2.2.1, (x.2.2.2.1, (x.2.2.2.2.1, (x.2.2.2.2.2.1, (x.2.2.2.2.2.2.1, (x.2.2.2.2.2.2.2.1, Unit.unit)))))))))
   else none)
   else none)
   else (if ((decide (x.1 ≥ (((List.length x.2.2.1) : Nat) : Int))) = true) then (if ((List.length x.2.2.2.2.1) = (List.length x.2.2.2.2.1)) then (if ((List.length x.2.2.2.2.2.2.2.1) = (List.length x.2.2.2.2.2.2.2.1)) then (some ((8 : Int), (x.2.1, (x.2.2.1, (x.2.2.2.1, (x.2.2.2.2.1, (x.2.2.2.2.2.1, (x.2.2.2.2.2.2.1, (x.2.2.2.2.2.2.2.1, Unit.unit)))))))))
   else none)
   else none)
   else (if ((0 : Int) ≤ x.1) then (if (x.1 < (((List.length x.2.2.1) : Nat) : Int)) then (if (((List.getD x.2.2.1 (Int.toNat x.1) (0 : Int)) == (0 : Int)) = true) then (if ((List.length x.2.2.2.2.1) = (List.length x.2.2.2.2.1)) then (if ((List.length x.2.2.2.2.2.2.2.1) = (List.length x.2.2.2.2.2.2.2.1)) then (some ((8 : Int), (x.2.1, (x.2.2.1, (x.2.2.2.1, (x.2.2.2.2.1, (x.2.2.2.2.2.1, (x.2.2.2.2.2.2.1, (x.2.2.2.2.2.2.2.1, Unit.unit)))))))))
   else none)
   else none)
   else (if ((0 : Int) ≤ x.1) then (if (x.1 < (((List.length x.2.2.1) : Nat) : Int)) then (if ((List.length x.2.2.2.2.1) = (List.length x.2.2.2.2.1)) then (if ((List.length x.2.2.2.2.2.2.2.1) = (List.length x.2.2.2.2.2.2.2.1)) then (Option.bind (Go.Ev.Zlib.l38_b_1 ((List.getD x.2.2.1 (Int.toNat x.1) (0 : Int)), ((0 : Int), (x.2.1, (x.2.2.1, (x.2.2.2.1, (x.2.2.2.2.1, (x.2.2.2.2.2.1, (x.2.2.2.2.2.2.1, (x.1, (x.2.2.2.2.2.2.2.1, Unit.unit))))))))))) (Sum.elim (fun y1 => (if ((List.length y1.2.2.2.1) = (List.length y1.2.2.2.1)) then (if ((List.length y1.2.2.2.2.2.2.1) = (List.length y1.2.2.2.2.2.2.1)) then (some ((0 : Int), (y1.1, (y1.2.1, (y1.2.2.1, (y1.2.2.2.1, (y1.2.2.2.2.1, (y1.2.2.2.2.2.1, (y1.2.2.2.2.2.2.1, Unit.unit)))))))))
   else none)
   else none)) (Sum.elim (fun y1 => (if ((List.length y1.2.2.2.2.1) = (List.length y1.2.2.2.2.1)) then (if ((List.length y1.2.2.2.2.2.2.2.1) = (List.length y1.2.2.2.2.2.2.2.1)) then (some (y1.1, (y1.2.1, (y1.2.2.1, (y1.2.2.2.1, (y1.2.2.2.2.1, (y1.2.2.2.2.2.1, (y1.2.2.2.2.2.2.1, (y1.2.2.2.2.2.2.2.1, Unit.unit)))))))))
   else none)
   else none)) Empty.elim)))
   else none)
   else none)
   else none)
   else none))
   else none)
   else none)))
theorem f38_b_eq (x : gi38_b.D) : f38_b x = evF P (T65.orc _) Go.Proofs.Try.f38.ntmps fx38_b c38 (planAt 64 [([true, true, true, false, true, false], ⟨g38_b_1, o38_b_1, l38_b_1⟩)]) gi38_b x (fnK fx38_b [go38_b]) := by kernel_rfl
theorem pf38_b : AllSub P Go.Proofs.Try.f38.ntmps fx38_b c38 [([true, true, true, false, true, false], ⟨g38_b_1, o38_b_1, l38_b_1⟩)] := And.intro s38_b_1_ok (trivial)
theorem qf38_b : PlanOk P Go.Proofs.Try.f38.ntmps fx38_b (planAt 64 [([true, true, true, false, true, false], ⟨g38_b_1, o38_b_1, l38_b_1⟩)]) c38 := planAt_ok pf38_b
theorem f38_b_ok : EntOk P 38 ⟨gi38_b, [go38_b], f38_b⟩ :=
  ent_ok (fn := Go.Proofs.Try.f38) (gi := gi38_b) (gos := [go38_b]) (f := f38_b) (c := c38) (fx := fx38_b) ⟨Go.Proofs.Try.func38, by kernel_rfl, rfl, by decide +kernel, rfl, rfl⟩ (by kernel_rfl) (Table.ok T65_ok _) hmix (qf38_b) f38_b_eq
noncomputable def T38 : Table := T65.add 38 [⟨gi38, [go38], f38⟩, ⟨gi38_b, [go38_b], f38_b⟩] []
theorem T38_ok : TableOk P T38 := Table.plus T65_ok (es := [⟨gi38, [go38], f38⟩, ⟨gi38_b, [go38_b], f38_b⟩]) ⟨f38_ok, f38_b_ok, trivial⟩ []

/-! ## 37: erasure/deflate.Put$2 -/
noncomputable def c37 : Code := Func.code Go.Proofs.Try.f37
abbrev gi37 : Sg := ⟨[0, 1, 2, 3], [.lf .nilp, .lf (.sl (.pair (.int .i64) (.pair (.int .i64) (.int .i64)))), .lf (.int .i64), .lf (.ptr 0 0)], [some (.box true [.lf (.ptr 1 0)]), some (.box true [.lf (.gr (.int .u8) 2), .lf (.int .i64), .lf (.int .i64)]), some (.arr true (.int .u8))]⟩
abbrev go37 : Sg := ⟨[], [], [some (.box true [.lf (.ptr 1 0)]), some (.box true [.lf (.gr (.int .u8) 3), .lf (.int .i64), .lf (.int .i64)]), none, some (.arr true (.int .u8))]⟩
def fx37 : List Bool := [true, true, false]
abbrev g37_1 : Sg := ⟨[0, 1, 2, 3, 7], [.lf .nilp, .lf (.sl (.pair (.int .i64) (.pair (.int .i64) (.int .i64)))), .lf (.int .i64), .lf (.ptr 0 0), .lf (.int .i64)], [some (.box true [.lf (.ptr 1 0)]), some (.box true [.lf (.gr (.int .u8) 3), .lf (.int .i64), .lf (.int .i64)]), none, some (.arr true (.int .u8))]⟩
abbrev o37_1 : Outs := [(.exit 0, ⟨[0, 1, 2, 3, 7], [.lf .nilp, .lf (.sl (.pair (.int .i64) (.pair (.int .i64) (.int .i64)))), .lf (.int .i64), .lf (.ptr 0 0), .lf (.int .i64)], [some (.box true [.lf (.ptr 1 0)]), some (.box true [.lf (.gr (.int .u8) 3), .lf (.int .i64), .lf (.int .i64)]), none, some (.arr true (.int .u8))]⟩)]
noncomputable def b37_1 (x : g37_1.D) : Option (outD ((.normal, g37_1) :: o37_1)) :=
  (if ((0 : Int) ≤ x.2.2.1) then (if (x.2.2.1 < (((List.length x.1) : Nat) : Int)) then (if ((decide ((List.getD x.1 (Int.toNat x.2.2.1) ((0 : Int), ((0 : Int), (0 : Int)))).2.1 > x.2.1)) = true) then (if ((List.length x.2.2.2.2.2.1) = (List.length x.2.2.2.2.2.1)) then (some (Sum.inl (x.1, (x.2.1, ((Go.IntKind.wrap Go.IntKind.i64 (x.2.2.1 - (1 : Int))), (x.2.2.2.1, (x.2.2.2.2.1, (x.2.2.2.2.2.1, Unit.unit))))))))
   else none)
   else (if ((List.length x.2.2.2.2.2.1) = (List.length x.2.2.2.2.2.1)) then (some (Sum.inr (Sum.inl (x.1, (x.2.1, (x.2.2.1, (x.2.2.2.1, (x.2.2.2.2.1, (x.2.2.2.2.2.1, Unit.unit)))))))))
   else none))
   else none)
   else none)
theorem b37_1_eq (x : g37_1.D) : b37_1 x = evF P (T38.orc _) Go.Proofs.Try.f37.ntmps fx37 (Code.at [true, false, false, false] c37) (planAt 64 []) g37_1 x (injK fx37 ((.normal, g37_1) :: o37_1) some) := by kernel_rfl
noncomputable def l37_1 : g37_1.D → Option (outD o37_1) := loopN g37_1 o37_1 b37_1 18446744073709551616
theorem at37_1 : Code.at [true, false, false] c37 = .loop (Code.at [true, false, false, false] c37) := by kernel_rfl
theorem s37_1_ok : SubOk P Go.Proofs.Try.f37.ntmps fx37 (Code.at [true, false, false] c37) ⟨g37_1, o37_1, l37_1⟩ := by
  rw [at37_1]
  exact loop_ok (sub_ok (g := g37_1) (outs := ((.normal, g37_1) :: o37_1)) (f := b37_1) (Table.ok T38_ok _) hmix (planAt_ok (P := P) (n := Go.Proofs.Try.f37.ntmps) (fx := fx37) (c := (Code.at [true, false, false, false] c37)) (d := 64) (l := []) trivial) b37_1_eq) rfl _
noncomputable def f37 (x : gi37.D) : Option go37.D :=
  (if ((List.length x.2.2.2.2.1) = (List.length x.2.2.2.2.1)) then (Option.bind (Go.Ev.Zlib.l37_1 (x.1, (x.2.1, ((Go.IntKind.wrap Go.IntKind.i64 ((((List.length x.1) : Nat) : Int) - (1 : Int))), (x.2.2.1, (x.2.2.2.1, (x.2.2.2.2.1, Unit.unit))))))) (Sum.elim (fun y1 => (if ((0 : Int) ≤ y1.2.2.1) then (if (y1.2.2.1 < (((List.length y1.1) : Nat) : Int)) then (if ((List.length y1.2.2.2.2.2.1) = (List.length y1.2.2.2.2.2.1)) then (Option.bind (Go.Ev.Zlib.f38 ((List.getD y1.1 (Int.toNat y1.2.2.1) ((0 : Int), ((0 : Int), (0 : Int)))).1, (y1.2.2.2.1, (y1.2.2.2.2.1, (y1.2.2.2.2.2.1, Unit.unit))))) (fun y2 => (if ((0 : Int) ≤ y1.2.2.1) then (if (y1.2.2.1 < (((List.length y1.1) : Nat) : Int)) then (if ((0 : Int) ≤ y1.2.2.1) then (if (y1.2.2.1 < (((List.length y1.1) : Nat) : Int)) then (if ((List.length y2.2.2.2.1) = (List.length y2.2.2.2.1)) then (Option.bind (Go.Ev.Zlib.f36 ((Go.IntKind.wrap Go.IntKind.i64 (y1.2.1 - (List.getD y1.1 (Int.toNat y1.2.2.1) ((0 : Int), ((0 : Int), (0 : Int)))).2.1)), ((List.getD y1.1 (Int.toNat y1.2.2.1) ((0 : Int), ((0 : Int), (0 : Int)))).2.2, (y2.2.1, (y2.2.2.1, (y2.2.2.2.1, Unit.unit)))))) (fun y3 => (if ((List.length y3.2.2.2.1) = (List.length y3.2.2.2.1)) then (some (y3.2.1, (y3.2.2.1, (y3.2.2.2.1, Unit.unit))))
   else none)))
   else none)
   else none)
   else none)
   else none)
   else none)))
   else none)
   else none)
   else none)) Empty.elim))
   else none)
theorem f37_eq (x : gi37.D) : f37 x = evF P (T38.orc _) Go.Proofs.Try.f37.ntmps fx37 c37 (planAt 64 [([true, false, false], ⟨g37_1, o37_1, l37_1⟩)]) gi37 x (fnK fx37 [go37]) := by kernel_rfl
theorem pf37 : AllSub P Go.Proofs.Try.f37.ntmps fx37 c37 [([true, false, false], ⟨g37_1, o37_1, l37_1⟩)] := And.intro s37_1_ok (trivial)
theorem qf37 : PlanOk P Go.Proofs.Try.f37.ntmps fx37 (planAt 64 [([true, false, false], ⟨g37_1, o37_1, l37_1⟩)]) c37 := planAt_ok pf37
theorem f37_ok : EntOk P 37 ⟨gi37, [go37], f37⟩ :=
  ent_ok (fn := Go.Proofs.Try.f37) (gi := gi37) (gos := [go37]) (f := f37) (c := c37) (fx := fx37) ⟨Go.Proofs.Try.func37, by kernel_rfl, rfl, by decide +kernel, rfl, rfl⟩ (by kernel_rfl) (Table.ok T38_ok _) hmix (qf37) f37_eq
abbrev gi37_b : Sg := ⟨[0, 1, 2, 3], [.lf (.ptr 0 0), .lf (.sl (.pair (.int .i64) (.pair (.int .i64) (.int .i64)))), .lf (.int .i64), .lf (.ptr 2 0)], [some (.box true [.many (.int .i64) 16, .lf (.sl (.int .i64)), .lf (.sl (.int .i64)), .lf (.gr (.int .i64) 1)]), some (.arr true (.int .i64)), some (.box true [.lf (.ptr 3 0)]), some (.box true [.lf (.gr (.int .u8) 4), .lf (.int .i64), .lf (.int .i64)]), some (.arr true (.int .u8))]⟩
abbrev go37_b : Sg := ⟨[], [], [some (.box true [.many (.int .i64) 16, .lf (.sl (.int .i64)), .lf (.sl (.int .i64)), .lf (.gr (.int .i64) 1)]), some (.arr true (.int .i64)), some (.box true [.lf (.ptr 3 0)]), some (.box true [.lf (.gr (.int .u8) 5), .lf (.int .i64), .lf (.int .i64)]), none, some (.arr true (.int .u8))]⟩
def fx37_b : List Bool := [true, true, true, true, false]
abbrev g37_b_1 : Sg := ⟨[0, 1, 2, 3, 7], [.lf (.ptr 0 0), .lf (.sl (.pair (.int .i64) (.pair (.int .i64) (.int .i64)))), .lf (.int .i64), .lf (.ptr 2 0), .lf (.int .i64)], [some (.box true [.many (.int .i64) 16, .lf (.sl (.int .i64)), .lf (.sl (.int .i64)), .lf (.gr (.int .i64) 1)]), some (.arr true (.int .i64)), some (.box true [.lf (.ptr 3 0)]), some (.box true [.lf (.gr (.int .u8) 5), .lf (.int .i64), .lf (.int .i64)]), none, some (.arr true (.int .u8))]⟩
abbrev o37_b_1 : Outs := [(.exit 0, ⟨[0, 1, 2, 3, 7], [.lf (.ptr 0 0), .lf (.sl (.pair (.int .i64) (.pair (.int .i64) (.int .i64)))), .lf (.int .i64), .lf (.ptr 2 0), .lf (.int .i64)], [some (.box true [.many (.int .i64) 16, .lf (.sl (.int .i64)), .lf (.sl (.int .i64)), .lf (.gr (.int .i64) 1)]), some (.arr true (.int .i64)), some (.box true [.lf (.ptr 3 0)]), some (.box true [.lf (.gr (.int .u8) 5), .lf (.int .i64), .lf (.int .i64)]), none, some (.arr true (.int .u8))]⟩)]
noncomputable def b37_b_1 (x : g37_b_1.D) : Option (outD ((.normal, g37_b_1) :: o37_b_1)) :=
  (if ((0 : Int) ≤ x.2.2.1) then (if (x.2.2.1 < (((List.length x.1) : Nat) : Int)) then (if ((decide ((List.getD x.1 (Int.toNat x.2.2.1) ((0 : Int), ((0 : Int), (0 : Int)))).2.1 > x.2.1)) = true) then (if ((List.length x.2.2.2.2.2.2.1) = (List.length x.2.2.2.2.2.2.1)) then (if ((List.length x.2.2.2.2.2.2.2.2.2.1) = (List.length x.2.2.2.2.2.2.2.2.2.1)) then (some (Sum.inl (x.1, (x.2.1, ((Go.IntKind.wrap Go.IntKind.i64 (x.2.2.1 - (1 : Int))), (x.2.2.2.1, (x.2.2.2.2.1, (x.2.2.2.2.2.1, (x.2.2.2.2.2.2.1, (x.2.2.2.2.2.2.2.1, (x.2.2.2.2.2.2.2.2.1, (x.2.2.2.2.2.2.2.2.2.1, Unit.unit))))))))))))
   else none)
   else none)
   else (if ((List.length x.2.2.2.2.2.2.1) = (List.length x.2.2.2.2.2.2.1)) then (if ((List.length x.2.2.2.2.2.2.2.2.2.1) = (List.length x.2.2.2.2.2.2.2.2.2.1)) then (some (Sum.inr (Sum.inl (x.1, (x.2.1, (x.2.2.1, (x.2.2.2.1, (x.2.2.2.2.1, (x.2.2.2.2.2.1, (x.2.2.2.2.2.2.1, (x.2.2.2.2.2.2.2.1, (x.2.2.2.2.2.2.2.2.1, (x.2.2.2.2.2.2.2.2.2.1, Unit.unit)))))))))))))
   else none)
   else none))
   else none)
   else none)
theorem b37_b_1_eq (x : g37_b_1.D) : b37_b_1 x = evF P (T38.orc _) Go.Proofs.Try.f37.ntmps fx37_b (Code.at [true, false, false, false] c37) (planAt 64 []) g37_b_1 x (injK fx37_b ((.normal, g37_b_1) :: o37_b_1) some) := by kernel_rfl
noncomputable def l37_b_1 : g37_b_1.D → Option (outD o37_b_1) := loopN g37_b_1 o37_b_1 b37_b_1 18446744073709551616
theorem at37_b_1 : Code.at [true, false, false] c37 = .loop (Code.at [true, false, false, false] c37) := by kernel_rfl
theorem s37_b_1_ok : SubOk P Go.Proofs.Try.f37.ntmps fx37_b (Code.at [true, false, false] c37) ⟨g37_b_1, o37_b_1, l37_b_1⟩ := by
  rw [at37_b_1]
  exact loop_ok (sub_ok (g := g37_b_1) (outs := ((.normal, g37_b_1) :: o37_b_1)) (f := b37_b_1) (Table.ok T38_ok _) hmix (planAt_ok (P := P) (n := Go.Proofs.Try.f37.ntmps) (fx := fx37_b) (c := (Code.at [true, false, false, false] c37)) (d := 64) (l := []) trivial) b37_b_1_eq) rfl _
noncomputable def f37_b (x : gi37_b.D) : Option go37_b.D :=
  (if ((List.length x.2.2.2.2.2.1) = (List.length x.2.2.2.2.2.1)) then (if ((List.length x.2.2.2.2.2.2.2.2.1) = (List.length x.2.2.2.2.2.2.2.2.1)) then (Option.bind (Go.Ev.Zlib.l37_b_1 (x.1, (x.2.1, ((Go.IntKind.wrap Go.IntKind.i64 ((((List.length x.1) : Nat) : Int) - (1 : Int))), (x.2.2.1, (x.2.2.2.1, (x.2.2.2.2.1, (x.2.2.2.2.2.1, (x.2.2.2.2.2.2.1, (x.2.2.2.2.2.2.2.1, (x.2.2.2.2.2.2.2.2.1, Unit.unit))))))))))) (Sum.elim (fun y1 => (if ((0 : Int) ≤ y1.2.2.1) then (if (y1.2.2.1 < (((List.length y1.1) : Nat) : Int)) then (if ((List.length y1.2.2.2.2.2.2.1) = (List.length y1.2.2.2.2.2.2.1)) then (if ((List.length y1.2.2.2.2.2.2.2.2.2.1) = (List.length y1.2.2.2.2.2.2.2.2.2.1)) then (Option.bind (Go.Ev.Zlib.f38_b ((List.getD y1.1 (Int.toNat y1.2.2.1) ((0 : Int), ((0 : Int), (0 : Int)))).1, (y1.2.2.2.1, (y1.2.2.2.2.1, (y1.2.2.2.2.2.1, (y1.2.2.2.2.2.2.1, (y1.2.2.2.2.2.2.2.1, (y1.2.2.2.2.2.2.2.2.1, (y1.2.2.2.2.2.2.2.2.2.1, Unit.unit))))))))) (fun y2 => (if ((0 : Int) ≤ y1.2.2.1) then (if (y1.2.2.1 < (((List.length y1.1) : Nat) : Int)) then (if ((0 : Int) ≤ y1.2.2.1) then (if (y1.2.2.1 < (((List.length y1.1) : Nat) : Int)) then (if ((List.length y2.2.2.2.2.2.2.2.1) = (List.length y2.2.2.2.2.2.2.2.1)) then (Option.bind (Go.Ev.Zlib.f36 ((Go.IntKind.wrap Go.IntKind.i64 (y1.2.1 - (List.getD y1.1 (Int.toNat y1.2.2.1) ((0 : Int), ((0 : Int), (0 : Int)))).2.1)), ((List.getD y1.1 (Int.toNat y1.2.2.1) ((0 : Int), ((0 : Int), (0 : Int)))).2.2, (y2.2.2.2.2.2.1, (y2.2.2.2.2.2.2.1, (y2.2.2.2.2.2.2.2.1, Unit.unit)))))) (fun y3 => (if ((List.length y2.2.2.2.2.1) = (List.length y2.2.2.2.2.1)) then (if ((List.length y3.2.2.2.1) = (List.length y3.2.2.2.1)) then (some (y2.2.1, (y2.2.2.1, (y2.2.2.2.1, (y2.2.2.2.2.1, (y3.2.1, (y3.2.2.1, (y3.2.2.2.1, Unit.unit))))))))
   else none)
   else none)))
   else none)
   else none)
   else none)
   else none)
   else none)))
   else none)
   else none)
   else none)
   else none)) Empty.elim))
   else none)
   else none)
theorem f37_b_eq (x : gi37_b.D) : f37_b x = evF P (T38.orc _) Go.Proofs.Try.f37.ntmps fx37_b c37 (planAt 64 [([true, false, false], ⟨g37_b_1, o37_b_1, l37_b_1⟩)]) gi37_b x (fnK fx37_b [go37_b]) := by kernel_rfl
theorem pf37_b : AllSub P Go.Proofs.Try.f37.ntmps fx37_b c37 [([true, false, false], ⟨g37_b_1, o37_b_1, l37_b_1⟩)] := And.intro s37_b_1_ok (trivial)
theorem qf37_b : PlanOk P Go.Proofs.Try.f37.ntmps fx37_b (planAt 64 [([true, false, false], ⟨g37_b_1, o37_b_1, l37_b_1⟩)]) c37 := planAt_ok pf37_b
theorem f37_b_ok : EntOk P 37 ⟨gi37_b, [go37_b], f37_b⟩ :=
  ent_ok (fn := Go.Proofs.Try.f37) (gi := gi37_b) (gos := [go37_b]) (f := f37_b) (c := c37) (fx := fx37_b) ⟨Go.Proofs.Try.func37, by kernel_rfl, rfl, by decide +kernel, rfl, rfl⟩ (by kernel_rfl) (Table.ok T38_ok _) hmix (qf37_b) f37_b_eq
noncomputable def T37 : Table := T38.add 37 [⟨gi37, [go37], f37⟩, ⟨gi37_b, [go37_b], f37_b⟩] []
theorem T37_ok : TableOk P T37 := Table.plus T38_ok (es := [⟨gi37, [go37], f37⟩, ⟨gi37_b, [go37_b], f37_b⟩]) ⟨f37_ok, f37_b_ok, trivial⟩ []

/-! ## 66: slices.Clone[[]byte,byte] -/
noncomputable def c66 : Code := Func.code Go.Proofs.Try.f66
abbrev gi66 : Sg := ⟨[0], [.lf (.sl (.int .u8))], []⟩
abbrev go66 : Sg := ⟨[2], [.lf (.gr (.int .u8) 0)], [some (.arr true (.int .u8))]⟩
def fx66 : List Bool := []
noncomputable def f66 (x : gi66.D) : Option go66.D :=
  (if ((List.length x.1) = (0 : Nat)) then (Go.Ev.amb (Go.Ev.Orc.eq (Go.Ev.Table.orcE Go.Ev.Zlib.T37 (Go.Ev.Sg.D Go.Ev.Zlib.go66) (Go.Ev.Sg.eq Go.Ev.Zlib.go66) (Go.Ev.Sg.eq_eq Go.Ev.Zlib.go66))) (some ([], Unit.unit)) (if (((0 : Nat) + (List.length x.1)) ≤ (140737488355328 : Nat)) then (if ((List.length ((List.take (0 : Nat) (List.drop (0 : Nat) (List.replicate (0 : Nat) (0 : Int)))) ++ x.1)) = (List.length ((List.take (0 : Nat) (List.drop (0 : Nat) (List.replicate (0 : Nat) (0 : Int)))) ++ x.1))) then (some (((List.take (0 : Nat) (List.drop (0 : Nat) (List.replicate (0 : Nat) (0 : Int)))) ++ x.1), Unit.unit))
   else none)
   else none))
   else (if (((0 : Nat) + (List.length x.1)) ≤ (140737488355328 : Nat)) then (if ((List.length ((List.take (0 : Nat) (List.drop (0 : Nat) (List.replicate (0 : Nat) (0 : Int)))) ++ x.1)) = (List.length ((List.take (0 : Nat) (List.drop (0 : Nat) (List.replicate (0 : Nat) (0 : Int)))) ++ x.1))) then (some (((List.take (0 : Nat) (List.drop (0 : Nat) (List.replicate (0 : Nat) (0 : Int)))) ++ x.1), Unit.unit))
   else none)
   else none))
theorem f66_eq (x : gi66.D) : f66 x = evF P (T37.orcE go66.D go66.eq go66.eq_eq) Go.Proofs.Try.f66.ntmps fx66 c66 (planAt 64 []) gi66 x (fnK fx66 [go66]) := by kernel_rfl
theorem f66_ok : EntOk P 66 ⟨gi66, [go66], f66⟩ :=
  ent_ok (fn := Go.Proofs.Try.f66) (gi := gi66) (gos := [go66]) (f := f66) (c := c66) (fx := fx66) ⟨Go.Proofs.Try.func66, by kernel_rfl, rfl, by decide +kernel, rfl, rfl⟩ (by kernel_rfl) (Table.okE T37_ok _ _ _) hmix (planAt_ok (P := P) (n := Go.Proofs.Try.f66.ntmps) (fx := fx66) (c := c66) (d := 64) (l := []) trivial) f66_eq
noncomputable def T66 : Table := T37.add 66 [⟨gi66, [go66], f66⟩] []
theorem T66_ok : TableOk P T66 := Table.plus T37_ok (es := [⟨gi66, [go66], f66⟩]) ⟨f66_ok, trivial⟩ []

/-! ## 41: (*erasure/bits.Writer).Bytes -/
noncomputable def c41 : Code := Func.code Go.Proofs.Try.f41
abbrev gi41 : Sg := ⟨[0], [.lf (.ptr 0 0)], [some (.box true [.lf (.gr (.int .u8) 1), .lf (.int .i64), .lf (.int .i64)]), some (.arr true (.int .u8))]⟩
abbrev go41 : Sg := ⟨[2], [.lf (.gr (.int .u8) 2)], [some (.box true [.lf (.gr (.int .u8) 1), .lf (.int .i64), .lf (.int .i64)]), some (.arr true (.int .u8)), some (.arr true (.int .u8))]⟩
def fx41 : List Bool := [true, true]
noncomputable def f41 (x : gi41.D) : Option go41.D :=
  (Option.bind (Go.Ev.Zlib.f66 ((List.take (List.length x.2.2.1) (List.drop (0 : Nat) x.2.2.1)), Unit.unit)) (fun y1 => (if ((decide (x.2.1 > (0 : Int))) = true) then (if (((List.length (List.take (List.length y1.1) (List.drop (0 : Nat) y1.1))) + (List.length (List.take (1 : Nat) (List.drop (0 : Nat) (List.set (List.replicate (1 : Nat) (0 : Int)) (0 : Nat) (Go.IntKind.wrap Go.IntKind.u8 x.1)))))) ≤ (140737488355328 : Nat)) then (if ((List.length ((List.take (List.length y1.1) (List.drop (0 : Nat) y1.1)) ++ (List.take (1 : Nat) (List.drop (0 : Nat) (List.set (List.replicate (1 : Nat) (0 : Int)) (0 : Nat) (Go.IntKind.wrap Go.IntKind.u8 x.1)))))) = (List.length ((List.take (List.length y1.1) (List.drop (0 : Nat) y1.1)) ++ (List.take (1 : Nat) (List.drop (0 : Nat) (List.set (List.replicate (1 : Nat) (0 : Int)) (0 : Nat) (Go.IntKind.wrap Go.IntKind.u8 x.1))))))) then (if ((List.length x.2.2.1) = (List.length x.2.2.1)) then (some (x.1, (x.2.1, (x.2.2.1, (((List.take (List.length y1.1) (List.drop (0 : Nat) y1.1)) ++ (List.take (1 : Nat) (List.drop (0 : Nat) (List.set (List.replicate (1 : Nat) (0 : Int)) (0 : Nat) (Go.IntKind.wrap Go.IntKind.u8 x.1))))), Unit.unit)))))
   else none)
   else none)
   else none)
   else (if ((List.length y1.1) = (List.length y1.1)) then (if ((List.length x.2.2.1) = (List.length x.2.2.1)) then (some (x.1, (x.2.1, (x.2.2.1, (y1.1, Unit.unit)))))
   else none)
   else none))))
theorem f41_eq (x : gi41.D) : f41 x = evF P (T66.orc _) Go.Proofs.Try.f41.ntmps fx41 c41 (planAt 64 []) gi41 x (fnK fx41 [go41]) := by kernel_rfl
theorem f41_ok : EntOk P 41 ⟨gi41, [go41], f41⟩ :=
  ent_ok (fn := Go.Proofs.Try.f41) (gi := gi41) (gos := [go41]) (f := f41) (c := c41) (fx := fx41) ⟨Go.Proofs.Try.func41, by kernel_rfl, rfl, by decide +kernel, rfl, rfl⟩ (by kernel_rfl) (Table.ok T66_ok _) hmix (planAt_ok (P := P) (n := Go.Proofs.Try.f41.ntmps) (fx := fx41) (c := c41) (d := 64) (l := []) trivial) f41_eq
noncomputable def T41 : Table := T66.add 41 [⟨gi41, [go41], f41⟩] []
theorem T41_ok : TableOk P T41 := Table.plus T66_ok (es := [⟨gi41, [go41], f41⟩]) ⟨f41_ok, trivial⟩ []

/-! ## 21: erasure/deflate.Put -/
noncomputable def c21 : Code := Func.code Go.Proofs.Try.f21
abbrev gi21 : Sg := ⟨[0], [.lf (.sl (.pair (.int .i64) (.pair (.int .i64) (.int .i64))))], []⟩
abbrev go21 : Sg := ⟨[2, 3], [.lf (.gr (.int .u8) 0), .lf (.int .i64)], [some (.arr true (.int .u8))]⟩
def fx21 : List Bool := []
abbrev g21_2 : Sg := ⟨[4, 6, 7, 8, 9, 10, 38, 39, 40], [.lf (.ptr 0 0), .lf (.ptr 1 0), .lf (.ptr 2 0), .lf (.fnc 37 [(.ptr 2 0)]), .lf (.sl (.pair (.int .i64) (.pair (.int .i64) (.int .i64)))), .lf (.sl (.pair (.int .i64) (.pair (.int .i64) (.int .i64)))), .lf (.sl (.pair (.int .i64) (.pair (.int .i64) (.int .i64)))), .lf (.int .i64), .lf (.int .i64)], [some (.box true [.many (.int .i64) 16, .lf (.sl (.int .i64)), .lf (.sl (.int .i64)), .lf (.gr (.int .i64) 3)]), some (.box true [.many (.int .i64) 16, .lf (.sl (.int .i64)), .lf (.sl (.int .i64)), .lf (.gr (.int .i64) 4)]), some (.box true [.lf (.ptr 5 0)]), some (.arr true (.int .i64)), some (.arr true (.int .i64)), some (.box true [.lf (.gr (.int .u8) 6), .lf (.int .i64), .lf (.int .i64)]), some (.arr true (.int .u8))]⟩
abbrev o21_2 : Outs := [(.exit 0, ⟨[4, 7], [.lf (.ptr 0 0), .lf (.ptr 1 0)], [some (.box true [.many (.int .i64) 16, .lf (.sl (.int .i64)), .lf (.sl (.int .i64)), .lf (.gr (.int .i64) 2)]), some (.box true [.lf (.ptr 3 0)]), some (.arr true (.int .i64)), some (.box true [.lf (.gr (.int .u8) 4), .lf (.int .i64), .lf (.int .i64)]), some (.arr true (.int .u8))]⟩)]
noncomputable def b21_2 (x : g21_2.D) : Option (outD ((.normal, g21_2) :: o21_2)) :=
  (if ((decide (x.2.2.2.2.1 < x.2.2.2.1)) = true) then (if ((0 : Int) ≤ x.2.2.2.2.1) then (if (x.2.2.2.2.1 < (((List.length x.2.2.1) : Nat) : Int)) then (if (((List.getD x.2.2.1 (Int.toNat x.2.2.2.2.1) ((0 : Int), ((0 : Int), (0 : Int)))).2.1 == (0 : Int)) = true) then (if ((List.length x.2.2.2.2.2.2.2.2.2.2.2.1) = (List.length x.2.2.2.2.2.2.2.2.2.2.2.1)) then (if ((List.length x.2.2.2.2.2.2.2.2.2.2.2.2.2.2.2.1) = (List.length x.2.2.2.2.2.2.2.2.2.2.2.2.2.2.2.1)) then (Option.bind (Go.Ev.Zlib.f38_b ((List.getD x.2.2.1 (Int.toNat x.2.2.2.2.1) ((0 : Int), ((0 : Int), (0 : Int)))).1, (x.2.2.2.2.2.1, (x.2.2.2.2.2.2.1, (x.2.2.2.2.2.2.2.1, (x.2.2.2.2.2.2.2.2.2.2.2.1, (x.2.2.2.2.2.2.2.2.2.2.2.2.2.1, (x.2.2.2.2.2.2.2.2.2.2.2.2.2.2.1, (x.2.2.2.2.2.2.2.2.2.2.2.2.2.2.2.1, Unit.unit))))))))) (fun y1 => (if ((List.length y1.2.2.2.2.1) = (List.length y1.2.2.2.2.1)) then (if ((List.length x.2.2.2.2.2.2.2.2.2.2.2.2.1) = (List.length x.2.2.2.2.2.2.2.2.2.2.2.2.1)) then (if ((List.length y1.2.2.2.2.2.2.2.1) = (List.length y1.2.2.2.2.2.2.2.1)) then (some (Sum.inl (x.1, (x.2.1, (x.2.2.1, (x.2.2.2.1, ((Go.IntKind.wrap Go.IntKind.i64 (x.2.2.2.2.1 + (1 : Int))), (y1.2.1, (y1.2.2.1, (y1.2.2.2.1, (x.2.2.2.2.2.2.2.2.1, (x.2.2.2.2.2.2.2.2.2.1, (x.2.2.2.2.2.2.2.2.2.2.1, (y1.2.2.2.2.1, (x.2.2.2.2.2.2.2.2.2.2.2.2.1, (y1.2.2.2.2.2.1, (y1.2.2.2.2.2.2.1, (y1.2.2.2.2.2.2.2.1, Unit.unit))))))))))))))))))
   else none)
   else none)
   else none)))
   else none)
   else none)
   else (if ((List.length x.2.2.2.2.2.2.2.2.2.2.2.1) = (List.length x.2.2.2.2.2.2.2.2.2.2.2.1)) then (if ((List.length x.2.2.2.2.2.2.2.2.2.2.2.2.2.2.2.1) = (List.length x.2.2.2.2.2.2.2.2.2.2.2.2.2.2.2.1)) then (Option.bind (Go.Ev.Zlib.f37_b (x.1, ((List.getD x.2.2.1 (Int.toNat x.2.2.2.2.1) ((0 : Int), ((0 : Int), (0 : Int)))).2.1, (x.2.2.2.2.2.1, (x.2.2.2.2.2.2.1, (x.2.2.2.2.2.2.2.1, (x.2.2.2.2.2.2.2.2.2.2.2.1, (x.2.2.2.2.2.2.2.2.2.2.2.2.2.1, (x.2.2.2.2.2.2.2.2.2.2.2.2.2.2.1, (x.2.2.2.2.2.2.2.2.2.2.2.2.2.2.2.1, Unit.unit)))))))))) (fun y1 => (if ((List.length x.2.2.2.2.2.2.2.2.2.2.2.2.1) = (List.length x.2.2.2.2.2.2.2.2.2.2.2.2.1)) then (if ((List.length y1.2.2.2.2.2.2.1) = (List.length y1.2.2.2.2.2.2.1)) then (Option.bind (Go.Ev.Zlib.f37_b (x.2.1, ((List.getD x.2.2.1 (Int.toNat x.2.2.2.2.1) ((0 : Int), ((0 : Int), (0 : Int)))).2.2, (x.2.2.2.2.2.2.2.2.1, (x.2.2.2.2.2.2.2.2.2.1, (x.2.2.2.2.2.2.2.2.2.2.1, (x.2.2.2.2.2.2.2.2.2.2.2.2.1, (y1.2.2.2.2.1, (y1.2.2.2.2.2.1, (y1.2.2.2.2.2.2.1, Unit.unit)))))))))) (fun y2 => (if ((List.length y1.2.2.2.1) = (List.length y1.2.2.2.1)) then (if ((List.length y2.2.2.2.1) = (List.length y2.2.2.2.1)) then (if ((List.length y2.2.2.2.2.2.2.1) = (List.length y2.2.2.2.2.2.2.1)) then (some (Sum.inl (x.1, (x.2.1, (x.2.2.1, (x.2.2.2.1, ((Go.IntKind.wrap Go.IntKind.i64 (x.2.2.2.2.1 + (1 : Int))), (y1.1, (y1.2.1, (y1.2.2.1, (y2.1, (y2.2.1, (y2.2.2.1, (y1.2.2.2.1, (y2.2.2.2.1, (y2.2.2.2.2.1, (y2.2.2.2.2.2.1, (y2.2.2.2.2.2.2.1, Unit.unit))))))))))))))))))
   else none)
   else none)
   else none)))
   else none)
   else none)))
   else none)
   else none))
   else none)
   else none)
   else (if ((List.length x.2.2.2.2.2.2.2.2.2.2.2.1) = (List.length x.2.2.2.2.2.2.2.2.2.2.2.1)) then (if ((List.length x.2.2.2.2.2.2.2.2.2.2.2.2.2.2.2.1) = (List.length x.2.2.2.2.2.2.2.2.2.2.2.2.2.2.2.1)) then (some (Sum.inr (Sum.inl (x.2.2.2.2.2.1, (x.2.2.2.2.2.2.1, (x.2.2.2.2.2.2.2.1, (x.2.2.2.2.2.2.2.2.2.2.2.1, (x.2.2.2.2.2.2.2.2.2.2.2.2.2.1, (x.2.2.2.2.2.2.2.2.2.2.2.2.2.2.1, (x.2.2.2.2.2.2.2.2.2.2.2.2.2.2.2.1, Unit.unit))))))))))
   else none)
   else none))
theorem b21_2_eq (x : g21_2.D) : b21_2 x = evF P (T41.orc _) Go.Proofs.Try.f21.ntmps fx21 (Code.at [true, true, true, true, true, true, true, true, true, true, false, true, false, false] c21) (planAt 64 []) g21_2 x (injK fx21 ((.normal, g21_2) :: o21_2) some) := by kernel_rfl
noncomputable def l21_2 : g21_2.D → Option (outD o21_2) := loopN g21_2 o21_2 b21_2 18446744073709551616
theorem at21_2 : Code.at [true, true, true, true, true, true, true, true, true, true, false, true, false] c21 = .loop (Code.at [true, true, true, true, true, true, true, true, true, true, false, true, false, false] c21) := by kernel_rfl
theorem s21_2_ok : SubOk P Go.Proofs.Try.f21.ntmps fx21 (Code.at [true, true, true, true, true, true, true, true, true, true, false, true, false] c21) ⟨g21_2, o21_2, l21_2⟩ := by
  rw [at21_2]
  exact loop_ok (sub_ok (g := g21_2) (outs := ((.normal, g21_2) :: o21_2)) (f := b21_2) (Table.ok T41_ok _) hmix (planAt_ok (P := P) (n := Go.Proofs.Try.f21.ntmps) (fx := fx21) (c := (Code.at [true, true, true, true, true, true, true, true, true, true, false, true, false, false] c21)) (d := 64) (l := []) trivial) b21_2_eq) rfl _
abbrev g21_1 : Sg := ⟨[0], [.lf (.sl (.pair (.int .i64) (.pair (.int .i64) (.int .i64))))], []⟩
abbrev o21_1 : Outs := [(.normal, ⟨[0, 4, 5], [.lf (.sl (.pair (.int .i64) (.pair (.int .i64) (.int .i64)))), .lf .nilp, .lf (.int .i64)], []⟩), (.normal, ⟨[0, 4, 5], [.lf (.sl (.pair (.int .i64) (.pair (.int .i64) (.int .i64)))), .lf (.ptr 0 0), .lf (.int .i64)], [some (.box true [.many (.int .i64) 16, .lf (.sl (.int .i64)), .lf (.sl (.int .i64)), .lf (.gr (.int .i64) 1)]), some (.arr true (.int .i64))]⟩)]
noncomputable def b21_1 (x : g21_1.D) : Option (outD o21_1) :=
  (Option.bind (Go.Ev.Zlib.f33 Unit.unit) (fun y1 => (Option.bind (Go.Ev.Zlib.f32 ((List.take (List.length y1.1) (List.drop (0 : Nat) y1.1)), Unit.unit)) (Sum.elim (fun y2 => (some (Sum.inl (x.1, (y2.1, Unit.unit))))) (fun y2 => (if ((List.length y2.2.2.2.2.1) = (List.length y2.2.2.2.2.1)) then (some (Sum.inr (Sum.inl (x.1, (y2.1, (y2.2.1, (y2.2.2.1, (y2.2.2.2.1, (y2.2.2.2.2.1, Unit.unit)))))))))
   else none))))))
theorem b21_1_eq (x : g21_1.D) : b21_1 x = evF P (T41.orc _) Go.Proofs.Try.f21.ntmps fx21 (Code.at [true, true, false] c21) (planAt 64 []) g21_1 x (injK fx21 o21_1 some) := by kernel_rfl
theorem s21_1_ok : SubOk P Go.Proofs.Try.f21.ntmps fx21 (Code.at [true, true, false] c21) ⟨g21_1, o21_1, b21_1⟩ :=
  sub_ok (g := g21_1) (outs := o21_1) (f := b21_1) (Table.ok T41_ok _) hmix (planAt_ok (P := P) (n := Go.Proofs.Try.f21.ntmps) (fx := fx21) (c := (Code.at [true, true, false] c21)) (d := 64) (l := []) trivial) b21_1_eq
noncomputable def f21 (x : gi21.D) : Option go21.D :=
  (Option.bind (Go.Ev.Zlib.f29 (x.1, Unit.unit)) (fun y1 => (if (y1.1 = true) then (some ((1 : Int), ([], Unit.unit)))
   else (Option.bind (Go.Ev.Zlib.b21_1 (x.1, Unit.unit)) (Sum.elim (fun y2 => (if ((y2.2.1 != (0 : Int)) = true) then (some (y2.2.1, ([], Unit.unit)))
   else (Option.bind (Go.Ev.Zlib.f34 ((List.take (1 : Nat) (List.drop (0 : Nat) (List.set (List.replicate (1 : Nat) (0 : Int)) (0 : Nat) (5 : Int)))), ((32 : Int), Unit.unit))) (fun y3 => (Option.bind (Go.Ev.Zlib.f32 ((List.take (List.length y3.1) (List.drop (0 : Nat) y3.1)), Unit.unit)) (Sum.elim (fun y4 => (if ((y4.1 != (0 : Int)) = true) then (some (y4.1, ([], Unit.unit)))
   else (Option.bind (Go.Ev.Zlib.f35 Unit.unit) (fun y5 => (if ((List.length y5.2.2.1) = (List.length y5.2.2.1)) then (Option.bind (Go.Ev.Zlib.f36 ((3 : Int), ((3 : Int), (y5.1, (y5.2.1, (y5.2.2.1, Unit.unit)))))) (fun _ => (Option.bind (Go.Ev.Zlib.f39 Unit.unit) (fun _ => (Option.bind (Go.Ev.Zlib.f40 Unit.unit) (fun _ => none))))))
   else none))))) (fun y4 => (if ((y4.1 != (0 : Int)) = true) then (some (y4.1, ([], Unit.unit)))
   else (Option.bind (Go.Ev.Zlib.f35 Unit.unit) (fun y5 => (if ((List.length y5.2.2.1) = (List.length y5.2.2.1)) then (Option.bind (Go.Ev.Zlib.f36 ((3 : Int), ((3 : Int), (y5.1, (y5.2.1, (y5.2.2.1, Unit.unit)))))) (fun _ => (Option.bind (Go.Ev.Zlib.f39 Unit.unit) (fun _ => (Option.bind (Go.Ev.Zlib.f40 Unit.unit) (fun _ => none))))))
   else none))))))))))) (Sum.elim (fun y2 => (if ((y2.2.1 != (0 : Int)) = true) then (some (y2.2.1, ([], Unit.unit)))
   else (Option.bind (Go.Ev.Zlib.f34 ((List.take (1 : Nat) (List.drop (0 : Nat) (List.set (List.replicate (1 : Nat) (0 : Int)) (0 : Nat) (5 : Int)))), ((32 : Int), Unit.unit))) (fun y3 => (Option.bind (Go.Ev.Zlib.f32 ((List.take (List.length y3.1) (List.drop (0 : Nat) y3.1)), Unit.unit)) (Sum.elim (fun y4 => (if ((y4.1 != (0 : Int)) = true) then (some (y4.1, ([], Unit.unit)))
   else (Option.bind (Go.Ev.Zlib.f35 Unit.unit) (fun y5 => (if ((List.length y5.2.2.1) = (List.length y5.2.2.1)) then (Option.bind (Go.Ev.Zlib.f36 ((3 : Int), ((3 : Int), (y5.1, (y5.2.1, (y5.2.2.1, Unit.unit)))))) (fun _ => (Option.bind (Go.Ev.Zlib.f39 Unit.unit) (fun _ => (Option.bind (Go.Ev.Zlib.f40 Unit.unit) (fun _ => none))))))
   else none))))) (fun y4 => (if ((y4.1 != (0 : Int)) = true) then (some (y4.1, ([], Unit.unit)))
   else (Option.bind (Go.Ev.Zlib.f35 Unit.unit) (fun y5 => (if ((List.length y5.2.2.1) = (List.length y5.2.2.1)) then (Option.bind (Go.Ev.Zlib.f36 ((3 : Int), ((3 : Int), (y5.1, (y5.2.1, (y5.2.2.1, Unit.unit)))))) (fun y6 => (Option.bind (Go.Ev.Zlib.f39 Unit.unit) (fun y7 => (Option.bind (Go.Ev.Zlib.f40 Unit.unit) (fun y8 => (if ((List.length y2.2.2.2.2.2.1) = (List.length y2.2.2.2.2.2.1)) then (if ((List.length y4.2.2.2.2.1) = (List.length y4.2.2.2.2.1)) then (if ((List.length y6.2.2.2.1) = (List.length y6.2.2.2.1)) then (Option.bind (Go.Ev.Zlib.l21_2 ((List.take (List.length y7.1) (List.drop (0 : Nat) y7.1)), ((List.take (List.length y8.1) (List.drop (0 : Nat) y8.1)), (y2.1, ((((List.length y2.1) : Nat) : Int), ((0 : Int), (y2.2.2.1, (y2.2.2.2.1, (y2.2.2.2.2.1, (y4.2.1, (y4.2.2.1, (y4.2.2.2.1, (y2.2.2.2.2.2.1, (y4.2.2.2.2.1, (y6.2.1, (y6.2.2.1, (y6.2.2.2.1, Unit.unit))))))))))))))))) (Sum.elim (fun y9 => (if ((List.length y9.2.2.2.1) = (List.length y9.2.2.2.1)) then (if ((List.length y9.2.2.2.2.2.2.1) = (List.length y9.2.2.2.2.2.2.1)) then (Option.bind (Go.Ev.Zlib.f38_b ((256 : Int), (y9.1, (y9.2.1, (y9.2.2.1, (y9.2.2.2.1, (y9.2.2.2.2.1, (y9.2.2.2.2.2.1, (y9.2.2.2.2.2.2.1, Unit.unit))))))))) (fun y10 => (if ((List.length y10.2.2.2.2.2.2.2.1) = (List.length y10.2.2.2.2.2.2.2.1)) then (Option.bind (Go.Ev.Zlib.f41 (y10.2.2.2.2.2.1, (y10.2.2.2.2.2.2.1, (y10.2.2.2.2.2.2.2.1, Unit.unit)))) (fun y11 => (if ((List.length y11.2.2.2.1) = (List.length y11.2.2.2.1)) then (some ((0 : Int), (y11.2.2.2.1, Unit.unit)))
   else none)))
   else none)))
   else none)
   else none)) Empty.elim))
   else none)
   else none)
   else none)))))))
   else none))))))))))) Empty.elim))))))
theorem f21_eq (x : gi21.D) : f21 x = evF P (T41.orc _) Go.Proofs.Try.f21.ntmps fx21 c21 (planAt 64 [([true, true, false], ⟨g21_1, o21_1, b21_1⟩), ([true, true, true, true, true, true, true, true, true, true, false, true, false], ⟨g21_2, o21_2, l21_2⟩)]) gi21 x (fnK fx21 [go21]) := by kernel_rfl
theorem pf21 : AllSub P Go.Proofs.Try.f21.ntmps fx21 c21 [([true, true, false], ⟨g21_1, o21_1, b21_1⟩), ([true, true, true, true, true, true, true, true, true, true, false, true, false], ⟨g21_2, o21_2, l21_2⟩)] := And.intro s21_1_ok (And.intro s21_2_ok (trivial))
theorem qf21 : PlanOk P Go.Proofs.Try.f21.ntmps fx21 (planAt 64 [([true, true, false], ⟨g21_1, o21_1, b21_1⟩), ([true, true, true, true, true, true, true, true, true, true, false, true, false], ⟨g21_2, o21_2, l21_2⟩)]) c21 := planAt_ok pf21
theorem f21_ok : EntOk P 21 ⟨gi21, [go21], f21⟩ :=
  ent_ok (fn := Go.Proofs.Try.f21) (gi := gi21) (gos := [go21]) (f := f21) (c := c21) (fx := fx21) ⟨Go.Proofs.Try.func21, by kernel_rfl, rfl, by decide +kernel, rfl, rfl⟩ (by kernel_rfl) (Table.ok T41_ok _) hmix (qf21) f21_eq
noncomputable def T21 : Table := T41.add 21 [⟨gi21, [go21], f21⟩] []
theorem T21_ok : TableOk P T21 := Table.plus T41_ok (es := [⟨gi21, [go21], f21⟩]) ⟨f21_ok, trivial⟩ []

/-! ## 15: erasure/deflate.Deflate -/
noncomputable def c15 : Code := Func.code Go.Proofs.Try.f15
abbrev gi15 : Sg := ⟨[0], [.lf (.sl (.int .u8))], []⟩
abbrev go15 : Sg := ⟨[2, 3], [.lf (.gr (.int .u8) 0), .lf (.int .i64)], [some (.arr true (.int .u8))]⟩
def fx15 : List Bool := []
noncomputable def f15 (x : gi15.D) : Option go15.D :=
  (Option.bind (Go.Ev.Zlib.f20 (x.1, Unit.unit)) (fun y1 => (if ((y1.1 != (0 : Int)) = true) then (some (y1.1, ([], Unit.unit)))
   else (Option.bind (Go.Ev.Zlib.f21 ((List.take (List.length y1.2.1) (List.drop (0 : Nat) y1.2.1)), Unit.unit)) (fun y2 => (if ((List.length y2.2.1) = (List.length y2.2.1)) then (some (y2.1, (y2.2.1, Unit.unit)))
   else none))))))
theorem f15_eq (x : gi15.D) : f15 x = evF P (T21.orc _) Go.Proofs.Try.f15.ntmps fx15 c15 (planAt 64 []) gi15 x (fnK fx15 [go15]) := by kernel_rfl
theorem f15_ok : EntOk P 15 ⟨gi15, [go15], f15⟩ :=
  ent_ok (fn := Go.Proofs.Try.f15) (gi := gi15) (gos := [go15]) (f := f15) (c := c15) (fx := fx15) ⟨Go.Proofs.Try.func15, by kernel_rfl, rfl, by decide +kernel, rfl, rfl⟩ (by kernel_rfl) (Table.ok T21_ok _) hmix (planAt_ok (P := P) (n := Go.Proofs.Try.f15.ntmps) (fx := fx15) (c := c15) (d := 64) (l := []) trivial) f15_eq
noncomputable def T15 : Table := T21.add 15 [⟨gi15, [go15], f15⟩] []
theorem T15_ok : TableOk P T15 := Table.plus T21_ok (es := [⟨gi15, [go15], f15⟩]) ⟨f15_ok, trivial⟩ []

/-! ## 7: erasure/zlib.Sum -/
noncomputable def c7 : Code := Func.code Go.Proofs.Try.f7
abbrev gi7 : Sg := ⟨[0], [.lf (.sl (.int .u8))], []⟩
abbrev go7 : Sg := ⟨[2], [.lf (.int .i64)], []⟩
def fx7 : List Bool := []
abbrev g7_1 : Sg := ⟨[3, 7, 8, 9], [.lf (.ptr 0 0), .lf (.sl (.int .u8)), .lf (.int .i64), .lf (.int .i64)], [some (.box true [.lf (.int .i64), .lf (.int .i64)])]⟩
abbrev o7_1 : Outs := [(.exit 0, ⟨[3], [.lf (.ptr 0 0)], [some (.box true [.lf (.int .i64), .lf (.int .i64)])]⟩)]
noncomputable def b7_1 (x : g7_1.D) : Option (outD ((.normal, g7_1) :: o7_1)) :=
  (if ((decide (x.2.2.1 < x.2.1)) = true) then (if ((0 : Int) ≤ x.2.2.1) then (if (x.2.2.1 < (((List.length x.1) : Nat) : Int)) then (some (Sum.inl (x.1, (x.2.1, ((Go.IntKind.wrap Go.IntKind.i64 (x.2.2.1 + (1 : Int))), ((Int.tmod (Go.IntKind.wrap Go.IntKind.i64 (x.2.2.2.1 + (Go.IntKind.wrap Go.IntKind.i64 (List.getD x.1 (Int.toNat x.2.2.1) (0 : Int))))) (65521 : Int)), ((Int.tmod (Go.IntKind.wrap Go.IntKind.i64 (x.2.2.2.2.1 + (Int.tmod (Go.IntKind.wrap Go.IntKind.i64 (x.2.2.2.1 + (Go.IntKind.wrap Go.IntKind.i64 (List.getD x.1 (Int.toNat x.2.2.1) (0 : Int))))) (65521 : Int)))) (65521 : Int)), Unit.unit)))))))
   else none)
   else none)
   else (some (Sum.inr (Sum.inl (x.2.2.2.1, (x.2.2.2.2.1, Unit.unit))))))
theorem b7_1_eq (x : g7_1.D) : b7_1 x = evF P (T15.orc _) Go.Proofs.Try.f7.ntmps fx7 (Code.at [true, true, false, true, false, false] c7) (planAt 64 []) g7_1 x (injK fx7 ((.normal, g7_1) :: o7_1) some) := by kernel_rfl
noncomputable def l7_1 : g7_1.D → Option (outD o7_1) := loopN g7_1 o7_1 b7_1 18446744073709551616
theorem at7_1 : Code.at [true, true, false, true, false] c7 = .loop (Code.at [true, true, false, true, false, false] c7) := by kernel_rfl
theorem s7_1_ok : SubOk P Go.Proofs.Try.f7.ntmps fx7 (Code.at [true, true, false, true, false] c7) ⟨g7_1, o7_1, l7_1⟩ := by
  rw [at7_1]
  exact loop_ok (sub_ok (g := g7_1) (outs := ((.normal, g7_1) :: o7_1)) (f := b7_1) (Table.ok T15_ok _) hmix (planAt_ok (P := P) (n := Go.Proofs.Try.f7.ntmps) (fx := fx7) (c := (Code.at [true, true, false, true, false, false] c7)) (d := 64) (l := []) trivial) b7_1_eq) rfl _
noncomputable def f7 (x : gi7.D) : Option go7.D :=
  (Option.bind (Go.Ev.Zlib.l7_1 (x.1, ((((List.length x.1) : Nat) : Int), ((0 : Int), ((1 : Int), ((0 : Int), Unit.unit)))))) (Sum.elim (fun y1 => (some ((Go.IntKind.wrap Go.IntKind.i64 (((BitVec.toNat ((BitVec.ofInt (64 : Nat) (Go.IntKind.wrap Go.IntKind.i64 (y1.2.1 * (65536 : Int)))) ||| (BitVec.ofInt (64 : Nat) y1.1))) : Nat) : Int)), Unit.unit))) Empty.elim))
theorem f7_eq (x : gi7.D) : f7 x = evF P (T15.orc _) Go.Proofs.Try.f7.ntmps fx7 c7 (planAt 64 [([true, true, false, true, false], ⟨g7_1, o7_1, l7_1⟩)]) gi7 x (fnK fx7 [go7]) := by kernel_rfl
theorem pf7 : AllSub P Go.Proofs.Try.f7.ntmps fx7 c7 [([true, true, false, true, false], ⟨g7_1, o7_1, l7_1⟩)] := And.intro s7_1_ok (trivial)
theorem qf7 : PlanOk P Go.Proofs.Try.f7.ntmps fx7 (planAt 64 [([true, true, false, true, false], ⟨g7_1, o7_1, l7_1⟩)]) c7 := planAt_ok pf7
theorem f7_ok : EntOk P 7 ⟨gi7, [go7], f7⟩ :=
  ent_ok (fn := Go.Proofs.Try.f7) (gi := gi7) (gos := [go7]) (f := f7) (c := c7) (fx := fx7) ⟨Go.Proofs.Try.func7, by kernel_rfl, rfl, by decide +kernel, rfl, rfl⟩ (by kernel_rfl) (Table.ok T15_ok _) hmix (qf7) f7_eq
noncomputable def T7 : Table := T15.add 7 [⟨gi7, [go7], f7⟩] []
theorem T7_ok : TableOk P T7 := Table.plus T15_ok (es := [⟨gi7, [go7], f7⟩]) ⟨f7_ok, trivial⟩ []

/-! ## 10: erasure/zlib.Pack -/
noncomputable def c10 : Code := Func.code Go.Proofs.Try.f10
abbrev gi10 : Sg := ⟨[0], [.lf (.sl (.int .u8))], []⟩
abbrev go10 : Sg := ⟨[2, 3], [.lf (.gr (.int .u8) 0), .lf (.int .i64)], [some (.arr true (.int .u8))]⟩
def fx10 : List Bool := []
abbrev g10_1 : Sg := ⟨[0, 4, 6, 18], [.lf (.sl (.int .u8)), .lf (.sl (.int .u8)), .lf (.gr (.int .u8) 0), .lf (.ptr 1 0)], [some (.arr true (.int .u8)), some .iter]⟩
abbrev o10_1 : Outs := [(.exit 0, ⟨[0, 4, 6], [.lf (.sl (.int .u8)), .lf (.sl (.int .u8)), .lf (.gr (.int .u8) 0)], [some (.arr true (.int .u8))]⟩)]
noncomputable def b10_1 (x : g10_1.D) : Option (outD ((.normal, g10_1) :: o10_1)) :=
  (if (x.2.2.2.2.1 < (ByteArray.size x.2.2.2.1)) then (if (((List.length (List.take (List.length x.2.2.1) (List.drop (0 : Nat) x.2.2.1))) + (List.length (List.take (1 : Nat) (List.drop (0 : Nat) (List.set (List.replicate (1 : Nat) (0 : Int)) (0 : Nat) (Go.IntKind.wrap Go.IntKind.u8 (((Go.Utf8.decode x.2.2.2.1 x.2.2.2.2.1).1 : Nat) : Int))))))) ≤ (140737488355328 : Nat)) then (if ((List.length ((List.take (List.length x.2.2.1) (List.drop (0 : Nat) x.2.2.1)) ++ (List.take (1 : Nat) (List.drop (0 : Nat) (List.set (List.replicate (1 : Nat) (0 : Int)) (0 : Nat) (Go.IntKind.wrap Go.IntKind.u8 (((Go.Utf8.decode x.2.2.2.1 x.2.2.2.2.1).1 : Nat) : Int))))))) = (List.length ((List.take (List.length x.2.2.1) (List.drop (0 : Nat) x.2.2.1)) ++ (List.take (1 : Nat) (List.drop (0 : Nat) (List.set (List.replicate (1 : Nat) (0 : Int)) (0 : Nat) (Go.IntKind.wrap Go.IntKind.u8 (((Go.Utf8.decode x.2.2.2.1 x.2.2.2.2.1).1 : Nat) : Int)))))))) then (some (Sum.inl (x.1, (x.2.1, (((List.take (List.length x.2.2.1) (List.drop (0 : Nat) x.2.2.1)) ++ (List.take (1 : Nat) (List.drop (0 : Nat) (List.set (List.replicate (1 : Nat) (0 : Int)) (0 : Nat) (Go.IntKind.wrap Go.IntKind.u8 (((Go.Utf8.decode x.2.2.2.1 x.2.2.2.2.1).1 : Nat) : Int)))))), (x.2.2.2.1, ((x.2.2.2.2.1 + (Go.Utf8.decode x.2.2.2.1 x.2.2.2.2.1).2), Unit.unit)))))))
   else none)
   else none)
   else (if ((List.length x.2.2.1) = (List.length x.2.2.1)) then (some (Sum.inr (Sum.inl (x.1, (x.2.1, (x.2.2.1, Unit.unit))))))
   else none))
theorem b10_1_eq (x : g10_1.D) : b10_1 x = evF P (T7.orc _) Go.Proofs.Try.f10.ntmps fx10 (Code.at [true, true, true, true, false, true, false, false] c10) (planAt 64 []) g10_1 x (injK fx10 ((.normal, g10_1) :: o10_1) some) := by kernel_rfl
noncomputable def l10_1 : g10_1.D → Option (outD o10_1) := loopN g10_1 o10_1 b10_1 18446744073709551616
theorem at10_1 : Code.at [true, true, true, true, false, true, false] c10 = .loop (Code.at [true, true, true, true, false, true, false, false] c10) := by kernel_rfl
theorem s10_1_ok : SubOk P Go.Proofs.Try.f10.ntmps fx10 (Code.at [true, true, true, true, false, true, false] c10) ⟨g10_1, o10_1, l10_1⟩ := by
  rw [at10_1]
  exact loop_ok (sub_ok (g := g10_1) (outs := ((.normal, g10_1) :: o10_1)) (f := b10_1) (Table.ok T7_ok _) hmix (planAt_ok (P := P) (n := Go.Proofs.Try.f10.ntmps) (fx := fx10) (c := (Code.at [true, true, true, true, false, true, false, false] c10)) (d := 64) (l := []) trivial) b10_1_eq) rfl _
noncomputable def f10 (x : gi10.D) : Option go10.D :=
  (Option.bind (Go.Ev.Zlib.f15 (x.1, Unit.unit)) (fun y1 => (if ((y1.1 != (0 : Int)) = true) then (some (y1.1, ([], Unit.unit)))
   else (Option.bind (Go.Ev.Zlib.l10_1 (x.1, ((List.take (List.length y1.2.1) (List.drop (0 : Nat) y1.2.1)), ([], ((ByteArray.mk #[120, 1]), ((0 : Nat), Unit.unit)))))) (Sum.elim (fun y2 => (if (((List.length (List.take (List.length y2.2.2.1) (List.drop (0 : Nat) y2.2.2.1))) + (List.length y2.2.1)) ≤ (140737488355328 : Nat)) then (Option.bind (Go.Ev.Zlib.f7 (y2.1, Unit.unit)) (fun y3 => (if (((List.length (List.take (List.length ((List.take (List.length y2.2.2.1) (List.drop (0 : Nat) y2.2.2.1)) ++ y2.2.1)) (List.drop (0 : Nat) ((List.take (List.length y2.2.2.1) (List.drop (0 : Nat) y2.2.2.1)) ++ y2.2.1)))) + (List.length (List.take (4 : Nat) (List.drop (0 : Nat) (List.set (List.set (List.set (List.set (List.replicate (4 : Nat) (0 : Int)) (0 : Nat) (Go.IntKind.wrap Go.IntKind.u8 (Int.fdiv y3.1 (16777216 : Int)))) (1 : Nat) (Go.IntKind.wrap Go.IntKind.u8 (Int.fdiv y3.1 (65536 : Int)))) (2 : Nat) (Go.IntKind.wrap Go.IntKind.u8 (Int.fdiv y3.1 (256 : Int)))) (3 : Nat) (Go.IntKind.wrap Go.IntKind.u8 y3.1)))))) ≤ (140737488355328 : Nat)) then (if ((List.length ((List.take (List.length ((List.take (List.length y2.2.2.1) (List.drop (0 : Nat) y2.2.2.1)) ++ y2.2.1)) (List.drop (0 : Nat) ((List.take (List.length y2.2.2.1) (List.drop (0 : Nat) y2.2.2.1)) ++ y2.2.1))) ++ (List.take (4 : Nat) (List.drop (0 : Nat) (List.set (List.set (List.set (List.set (List.replicate (4 : Nat) (0 : Int)) (0 : Nat) (Go.IntKind.wrap Go.IntKind.u8 (Int.fdiv y3.1 (16777216 : Int)))) (1 : Nat) (Go.IntKind.wrap Go.IntKind.u8 (Int.fdiv y3.1 (65536 : Int)))) (2 : Nat) (Go.IntKind.wrap Go.IntKind.u8 (Int.fdiv y3.1 (256 : Int)))) (3 : Nat) (Go.IntKind.wrap Go.IntKind.u8 y3.1)))))) = (List.length ((List.take (List.length ((List.take (List.length y2.2.2.1) (List.drop (0 : Nat) y2.2.2.1)) ++ y2.2.1)) (List.drop (0 : Nat) ((List.take (List.length y2.2.2.1) (List.drop (0 : Nat) y2.2.2.1)) ++ y2.2.1))) ++ (List.take (4 : Nat) (List.drop (0 : Nat) (List.set (List.set (List.set (List.set (List.replicate (4 : Nat) (0 : Int)) (0 : Nat) (Go.IntKind.wrap Go.IntKind.u8 (Int.fdiv y3.1 (16777216 : Int)))) (1 : Nat) (Go.IntKind.wrap Go.IntKind.u8 (Int.fdiv y3.1 (65536 : Int)))) (2 : Nat) (Go.IntKind.wrap Go.IntKind.u8 (Int.fdiv y3.1 (256 : Int)))) (3 : Nat) (Go.IntKind.wrap Go.IntKind.u8 y3.1))))))) then (some ((0 : Int), (((List.take (List.length ((List.take (List.length y2.2.2.1) (List.drop (0 : Nat) y2.2.2.1)) ++ y2.2.1)) (List.drop (0 : Nat) ((List.take (List.length y2.2.2.1) (List.drop (0 : Nat) y2.2.2.1)) ++ y2.2.1))) ++ (List.take (4 : Nat) (List.drop (0 : Nat) (List.set (List.set (List.set (List.set (List.replicate (4 : Nat) (0 : Int)) (0 : Nat) (Go.IntKind.wrap Go.IntKind.u8 (Int.fdiv y3.1 (16777216 : Int)))) (1 : Nat) (Go.IntKind.wrap Go.IntKind.u8 (Int.fdiv y3.1 (65536 : Int)))) (2 : Nat) (Go.IntKind.wrap Go.IntKind.u8 (Int.fdiv y3.1 (256 : Int)))) (3 : Nat) (Go.IntKind.wrap Go.IntKind.u8 y3.1))))), Unit.unit)))
   else none)
   else none)))
   else none)) Empty.elim)))))
theorem f10_eq (x : gi10.D) : f10 x = evF P (T7.orc _) Go.Proofs.Try.f10.ntmps fx10 c10 (planAt 64 [([true, true, true, true, false, true, false], ⟨g10_1, o10_1, l10_1⟩)]) gi10 x (fnK fx10 [go10]) := by kernel_rfl
theorem pf10 : AllSub P Go.Proofs.Try.f10.ntmps fx10 c10 [([true, true, true, true, false, true, false], ⟨g10_1, o10_1, l10_1⟩)] := And.intro s10_1_ok (trivial)
theorem qf10 : PlanOk P Go.Proofs.Try.f10.ntmps fx10 (planAt 64 [([true, true, true, true, false, true, false], ⟨g10_1, o10_1, l10_1⟩)]) c10 := planAt_ok pf10
theorem f10_ok : EntOk P 10 ⟨gi10, [go10], f10⟩ :=
  ent_ok (fn := Go.Proofs.Try.f10) (gi := gi10) (gos := [go10]) (f := f10) (c := c10) (fx := fx10) ⟨Go.Proofs.Try.func10, by kernel_rfl, rfl, by decide +kernel, rfl, rfl⟩ (by kernel_rfl) (Table.ok T7_ok _) hmix (qf10) f10_eq
noncomputable def T10 : Table := T7.add 10 [⟨gi10, [go10], f10⟩] []
theorem T10_ok : TableOk P T10 := Table.plus T7_ok (es := [⟨gi10, [go10], f10⟩]) ⟨f10_ok, trivial⟩ []

/-! ## 50: erasure/bits.NewReader -/
noncomputable def c50 : Code := Func.code Go.Proofs.Try.f50
abbrev gi50 : Sg := ⟨[0], [.lf (.sl (.int .u8))], []⟩
abbrev go50 : Sg := ⟨[2], [.lf (.ptr 0 0)], [some (.box true [.lf (.sl (.int .u8)), .lf (.int .i64), .lf (.int .i64), .lf (.int .i64)])]⟩
def fx50 : List Bool := []
noncomputable def f50 (x : gi50.D) : Option go50.D :=
  (Option.bind (Go.Ev.Zlib.f66 (x.1, Unit.unit)) (fun y1 => (some ((List.take (List.length y1.1) (List.drop (0 : Nat) y1.1)), ((0 : Int), ((0 : Int), ((0 : Int), Unit.unit)))))))
theorem f50_eq (x : gi50.D) : f50 x = evF P (T10.orc _) Go.Proofs.Try.f50.ntmps fx50 c50 (planAt 64 []) gi50 x (fnK fx50 [go50]) := by kernel_rfl
theorem f50_ok : EntOk P 50 ⟨gi50, [go50], f50⟩ :=
  ent_ok (fn := Go.Proofs.Try.f50) (gi := gi50) (gos := [go50]) (f := f50) (c := c50) (fx := fx50) ⟨Go.Proofs.Try.func50, by kernel_rfl, rfl, by decide +kernel, rfl, rfl⟩ (by kernel_rfl) (Table.ok T10_ok _) hmix (planAt_ok (P := P) (n := Go.Proofs.Try.f50.ntmps) (fx := fx50) (c := c50) (d := 64) (l := []) trivial) f50_eq
noncomputable def T50 : Table := T10.add 50 [⟨gi50, [go50], f50⟩] []
theorem T50_ok : TableOk P T50 := Table.plus T10_ok (es := [⟨gi50, [go50], f50⟩]) ⟨f50_ok, trivial⟩ []

/-! ## 55: (*erasure/bits.Reader).Left -/
noncomputable def c55 : Code := Func.code Go.Proofs.Try.f55
abbrev gi55 : Sg := ⟨[0], [.lf (.ptr 0 0)], [some (.box true [.lf (.sl (.int .u8)), .lf (.int .i64), .lf (.int .i64), .lf (.int .i64)])]⟩
abbrev go55 : Sg := ⟨[2], [.lf (.int .i64)], [some (.box true [.lf (.sl (.int .u8)), .lf (.int .i64), .lf (.int .i64), .lf (.int .i64)])]⟩
def fx55 : List Bool := [true]
noncomputable def f55 (x : gi55.D) : Option go55.D :=
  (some ((Go.IntKind.wrap Go.IntKind.i64 ((Go.IntKind.wrap Go.IntKind.i64 ((8 : Int) * (Go.IntKind.wrap Go.IntKind.i64 ((((List.length x.1) : Nat) : Int) - x.2.1)))) + x.2.2.2.1)), (x.1, (x.2.1, (x.2.2.1, (x.2.2.2.1, Unit.unit))))))
theorem f55_eq (x : gi55.D) : f55 x = evF P (T50.orc _) Go.Proofs.Try.f55.ntmps fx55 c55 (planAt 64 []) gi55 x (fnK fx55 [go55]) := by kernel_rfl
theorem f55_ok : EntOk P 55 ⟨gi55, [go55], f55⟩ :=
  ent_ok (fn := Go.Proofs.Try.f55) (gi := gi55) (gos := [go55]) (f := f55) (c := c55) (fx := fx55) ⟨Go.Proofs.Try.func55, by kernel_rfl, rfl, by decide +kernel, rfl, rfl⟩ (by kernel_rfl) (Table.ok T50_ok _) hmix (planAt_ok (P := P) (n := Go.Proofs.Try.f55.ntmps) (fx := fx55) (c := c55) (d := 64) (l := []) trivial) f55_eq
noncomputable def T55 : Table := T50.add 55 [⟨gi55, [go55], f55⟩] []
theorem T55_ok : TableOk P T55 := Table.plus T50_ok (es := [⟨gi55, [go55], f55⟩]) ⟨f55_ok, trivial⟩ []

/-! ## 113: (*erasure/bits.Reader).next -/
noncomputable def c113 : Code := Func.code Go.Proofs.Try.f113
abbrev gi113 : Sg := ⟨[0], [.lf (.ptr 0 0)], [some (.box true [.lf (.sl (.int .u8)), .lf (.int .i64), .lf (.int .i64), .lf (.int .i64)])]⟩
abbrev go113 : Sg := ⟨[2], [.lf (.int .u8)], [some (.box true [.lf (.sl (.int .u8)), .lf (.int .i64), .lf (.int .i64), .lf (.int .i64)])]⟩
def fx113 : List Bool := [true]
noncomputable def f113 (x : gi113.D) : Option go113.D :=
  (if ((0 : Int) ≤ x.2.1) then (if (x.2.1 < (((List.length x.1) : Nat) : Int)) then (some ((List.getD x.1 (Int.toNat x.2.1) (0 : Int)), (x.1, ((Go.IntKind.wrap Go.IntKind.i64 (x.2.1 + (1 : Int))), (x.2.2.1, (x.2.2.2.1, Unit.unit))))))
   else none)
   else none)
theorem f113_eq (x : gi113.D) : f113 x = evF P (T55.orc _) Go.Proofs.Try.f113.ntmps fx113 c113 (planAt 64 []) gi113 x (fnK fx113 [go113]) := by kernel_rfl
theorem f113_ok : EntOk P 113 ⟨gi113, [go113], f113⟩ :=
  ent_ok (fn := Go.Proofs.Try.f113) (gi := gi113) (gos := [go113]) (f := f113) (c := c113) (fx := fx113) ⟨Go.Proofs.Try.func113, by kernel_rfl, rfl, by decide +kernel, rfl, rfl⟩ (by kernel_rfl) (Table.ok T55_ok _) hmix (planAt_ok (P := P) (n := Go.Proofs.Try.f113.ntmps) (fx := fx113) (c := c113) (d := 64) (l := []) trivial) f113_eq
noncomputable def T113 : Table := T55.add 113 [⟨gi113, [go113], f113⟩] []
theorem T113_ok : TableOk P T113 := Table.plus T55_ok (es := [⟨gi113, [go113], f113⟩]) ⟨f113_ok, trivial⟩ []

/-! ## 72: (*erasure/bits.Reader).Bits -/
noncomputable def c72 : Code := Func.code Go.Proofs.Try.f72
abbrev gi72 : Sg := ⟨[0, 1], [.lf (.ptr 0 0), .lf (.int .i64)], [some (.box true [.lf (.sl (.int .u8)), .lf (.int .i64), .lf (.int .i64), .lf (.int .i64)])]⟩
abbrev go72 : Sg := ⟨[4, 5], [.lf (.int .i64), .lf (.int .i64)], [some (.box true [.lf (.sl (.int .u8)), .lf (.int .i64), .lf (.int .i64), .lf (.int .i64)])]⟩
def fx72 : List Bool := [true]
abbrev g72_1 : Sg := ⟨[0, 1, 6], [.lf (.ptr 0 0), .lf (.int .i64), .lf (.ifc 74 (.ptr 0 0))], [some (.box true [.lf (.sl (.int .u8)), .lf (.int .i64), .lf (.int .i64), .lf (.int .i64)])]⟩
abbrev o72_1 : Outs := [(.exit 1, ⟨[0, 1], [.lf (.ptr 0 0), .lf (.int .i64)], [some (.box true [.lf (.sl (.int .u8)), .lf (.int .i64), .lf (.int .i64), .lf (.int .i64)])]⟩)]
noncomputable def b72_1 (x : g72_1.D) : Option (outD ((.normal, g72_1) :: o72_1)) :=
  (if ((decide (x.2.2.2.2.1 < x.1)) = true) then (Option.bind (Go.Ev.Zlib.f113 (x.2.1, (x.2.2.1, (x.2.2.2.1, (x.2.2.2.2.1, Unit.unit))))) (fun y1 => (if (y1.2.2.2.2.1 < (0 : Int)) then none
   else (if ((decide (x.2.2.2.1 = y1.2.2.2.1)) = true) then (if ((decide (x.2.2.2.2.1 = y1.2.2.2.2.1)) = true) then (some (Sum.inl (x.1, (y1.2.1, (y1.2.2.1, ((Go.IntKind.wrap Go.IntKind.i64 (((BitVec.toNat ((BitVec.ofInt (64 : Nat) x.2.2.2.1) ||| (BitVec.ofInt (64 : Nat) (Go.IntKind.wrap Go.IntKind.i64 ((Go.IntKind.wrap Go.IntKind.i64 y1.1) * ((2 : Int) ^ (Min.min (Int.toNat y1.2.2.2.2.1) (64 : Nat)))))))) : Nat) : Int)), ((Go.IntKind.wrap Go.IntKind.i64 (y1.2.2.2.2.1 + (8 : Int))), Unit.unit)))))))
   else none)
   else none))))
   else (some (Sum.inr (Sum.inl (x.1, (x.2.1, (x.2.2.1, (x.2.2.2.1, (x.2.2.2.2.1, Unit.unit)))))))))
theorem b72_1_eq (x : g72_1.D) : b72_1 x = evF P (T113.orc _) Go.Proofs.Try.f72.ntmps fx72 (Code.at [true, true, true, false, false, false] c72) (planAt 64 []) g72_1 x (injK fx72 ((.normal, g72_1) :: o72_1) some) := by kernel_rfl
noncomputable def l72_1 : g72_1.D → Option (outD o72_1) := loopN g72_1 o72_1 b72_1 18446744073709551616
theorem at72_1 : Code.at [true, true, true, false, false] c72 = .loop (Code.at [true, true, true, false, false, false] c72) := by kernel_rfl
theorem s72_1_ok : SubOk P Go.Proofs.Try.f72.ntmps fx72 (Code.at [true, true, true, false, false] c72) ⟨g72_1, o72_1, l72_1⟩ := by
  rw [at72_1]
  exact loop_ok (sub_ok (g := g72_1) (outs := ((.normal, g72_1) :: o72_1)) (f := b72_1) (Table.ok T113_ok _) hmix (planAt_ok (P := P) (n := Go.Proofs.Try.f72.ntmps) (fx := fx72) (c := (Code.at [true, true, true, false, false, false] c72)) (d := 64) (l := []) trivial) b72_1_eq) rfl _
noncomputable def f72 (x : gi72.D) : Option go72.D :=
  (if ((decide (x.1 < (0 : Int))) = true) then (some ((0 : Int), ((1 : Int), (x.2.1, (x.2.2.1, (x.2.2.2.1, (x.2.2.2.2.1, Unit.unit)))))))
   else (if ((decide (x.1 > (24 : Int))) = true) then (some ((0 : Int), ((1 : Int), (x.2.1, (x.2.2.1, (x.2.2.2.1, (x.2.2.2.2.1, Unit.unit)))))))
   else (Option.bind (Go.Ev.Zlib.f55 (x.2.1, (x.2.2.1, (x.2.2.2.1, (x.2.2.2.2.1, Unit.unit))))) (fun y1 => (if ((decide (x.1 > y1.1)) = true) then (some ((0 : Int), ((6 : Int), (y1.2.1, (y1.2.2.1, (y1.2.2.2.1, (y1.2.2.2.2.1, Unit.unit)))))))
   else (Option.bind (Go.Ev.Zlib.l72_1 (x.1, (y1.2.1, (y1.2.2.1, (y1.2.2.2.1, (y1.2.2.2.2.1, Unit.unit)))))) (Sum.elim (fun y2 => (if (y2.1 < (0 : Int)) then none
   else (if (y2.1 < (0 : Int)) then none
   else (some ((Go.IntKind.wrap Go.IntKind.i64 (((BitVec.toNat ((BitVec.ofInt (64 : Nat) y2.2.2.2.1) &&& (BitVec.ofInt (64 : Nat) (Go.IntKind.wrap Go.IntKind.i64 ((Go.IntKind.wrap Go.IntKind.i64 ((1 : Int) * ((2 : Int) ^ (Min.min (Int.toNat y2.1) (64 : Nat))))) - (1 : Int)))))) : Nat) : Int)), ((0 : Int), (y2.2.1, (y2.2.2.1, ((Int.fdiv y2.2.2.2.1 ((2 : Int) ^ (Min.min (Int.toNat y2.1) (64 : Nat)))), ((Go.IntKind.wrap Go.IntKind.i64 (y2.2.2.2.2.1 - y2.1)), Unit.unit)))))))))) Empty.elim)))))))
theorem f72_eq (x : gi72.D) : f72 x = evF P (T113.orc _) Go.Proofs.Try.f72.ntmps fx72 c72 (planAt 64 [([true, true, true, false, false], ⟨g72_1, o72_1, l72_1⟩)]) gi72 x (fnK fx72 [go72]) := by kernel_rfl
theorem pf72 : AllSub P Go.Proofs.Try.f72.ntmps fx72 c72 [([true, true, true, false, false], ⟨g72_1, o72_1, l72_1⟩)] := And.intro s72_1_ok (trivial)
theorem qf72 : PlanOk P Go.Proofs.Try.f72.ntmps fx72 (planAt 64 [([true, true, true, false, false], ⟨g72_1, o72_1, l72_1⟩)]) c72 := planAt_ok pf72
theorem f72_ok : EntOk P 72 ⟨gi72, [go72], f72⟩ :=
  ent_ok (fn := Go.Proofs.Try.f72) (gi := gi72) (gos := [go72]) (f := f72) (c := c72) (fx := fx72) ⟨Go.Proofs.Try.func72, by kernel_rfl, rfl, by decide +kernel, rfl, rfl⟩ (by kernel_rfl) (Table.ok T113_ok _) hmix (qf72) f72_eq
noncomputable def T72 : Table := T113.add 72 [⟨gi72, [go72], f72⟩] []
theorem T72_ok : TableOk P T72 := Table.plus T113_ok (es := [⟨gi72, [go72], f72⟩]) ⟨f72_ok, trivial⟩ []

/-! ## 51: (*erasure/inflate.work).numbers -/
noncomputable def c51 : Code := Func.code Go.Proofs.Try.f51
abbrev gi51 : Sg := ⟨[0, 1], [.lf (.ptr 0 0), .lf (.sl (.int .i64))], [some (.box true [.lf (.ptr 1 0), .lf (.gr (.pair (.int .i64) (.pair (.int .i64) (.int .i64))) 2), .lf (.int .i64), .lf (.int .i64)]), some (.box true [.lf (.sl (.int .u8)), .lf (.int .i64), .lf (.int .i64), .lf (.int .i64)]), some (.arr true (.pair (.int .i64) (.pair (.int .i64) (.int .i64))))]⟩
abbrev go51 : Sg := ⟨[4, 5], [.lf (.sl (.int .i64)), .lf (.int .i64)], [some (.box true [.lf (.ptr 1 0), .lf (.gr (.pair (.int .i64) (.pair (.int .i64) (.int .i64))) 2), .lf (.int .i64), .lf (.int .i64)]), some (.box true [.lf (.sl (.int .u8)), .lf (.int .i64), .lf (.int .i64), .lf (.int .i64)]), some (.arr true (.pair (.int .i64) (.pair (.int .i64) (.int .i64))))]⟩
def fx51 : List Bool := [true, true, true]
abbrev g51_1 : Sg := ⟨[0, 6, 11, 12, 13], [.lf (.ptr 0 0), .lf (.gr (.int .i64) 3), .lf (.sl (.int .i64)), .lf (.int .i64), .lf (.int .i64)], [some (.box true [.lf (.ptr 1 0), .lf (.gr (.pair (.int .i64) (.pair (.int .i64) (.int .i64))) 2), .lf (.int .i64), .lf (.int .i64)]), some (.box true [.lf (.sl (.int .u8)), .lf (.int .i64), .lf (.int .i64), .lf (.int .i64)]), some (.arr true (.pair (.int .i64) (.pair (.int .i64) (.int .i64)))), some (.arr true (.int .i64))]⟩
abbrev o51_1 : Outs := [(.exit 0, ⟨[6], [.lf (.gr (.int .i64) 3)], [some (.box true [.lf (.ptr 1 0), .lf (.gr (.pair (.int .i64) (.pair (.int .i64) (.int .i64))) 2), .lf (.int .i64), .lf (.int .i64)]), some (.box true [.lf (.sl (.int .u8)), .lf (.int .i64), .lf (.int .i64), .lf (.int .i64)]), some (.arr true (.pair (.int .i64) (.pair (.int .i64) (.int .i64)))), some (.arr true (.int .i64))]⟩), (.ret, ⟨[4, 5], [.lf (.sl (.int .i64)), .lf (.int .i64)], [some (.box true [.lf (.ptr 1 0), .lf (.gr (.pair (.int .i64) (.pair (.int .i64) (.int .i64))) 2), .lf (.int .i64), .lf (.int .i64)]), some (.box true [.lf (.sl (.int .u8)), .lf (.int .i64), .lf (.int .i64), .lf (.int .i64)]), some (.arr true (.pair (.int .i64) (.pair (.int .i64) (.int .i64))))]⟩)]
noncomputable def b51_1 (x : g51_1.D) : Option (outD ((.normal, g51_1) :: o51_1)) :=
  (if ((decide (x.2.2.1 < x.2.1)) = true) then (if ((0 : Int) ≤ x.2.2.1) then (if (x.2.2.1 < (((List.length x.1) : Nat) : Int)) then (Option.bind (Go.Ev.Zlib.f72 ((List.getD x.1 (Int.toNat x.2.2.1) (0 : Int)), (x.2.2.2.2.2.1, (x.2.2.2.2.2.2.1, (x.2.2.2.2.2.2.2.1, (x.2.2.2.2.2.2.2.2.1, Unit.unit)))))) (fun y1 => (if ((y1.2.1 != (0 : Int)) = true) then (if ((List.length x.2.2.2.2.2.2.2.2.2.1) = (List.length x.2.2.2.2.2.2.2.2.2.1)) then (some (Sum.inr (Sum.inr (Sum.inl ([], (y1.2.1, (x.2.2.2.1, (x.2.2.2.2.1, (y1.2.2.1, (y1.2.2.2.1, (y1.2.2.2.2.1, (y1.2.2.2.2.2.1, (x.2.2.2.2.2.2.2.2.2.1, Unit.unit)))))))))))))
   else none)
   else (if (((List.length (List.take (List.length x.2.2.2.2.2.2.2.2.2.2.1) (List.drop (0 : Nat) x.2.2.2.2.2.2.2.2.2.2.1))) + (List.length (List.take (1 : Nat) (List.drop (0 : Nat) (List.set (List.replicate (1 : Nat) (0 : Int)) (0 : Nat) y1.1))))) ≤ (17592186044416 : Nat)) then (if ((List.length ((List.take (List.length x.2.2.2.2.2.2.2.2.2.2.1) (List.drop (0 : Nat) x.2.2.2.2.2.2.2.2.2.2.1)) ++ (List.take (1 : Nat) (List.drop (0 : Nat) (List.set (List.replicate (1 : Nat) (0 : Int)) (0 : Nat) y1.1))))) = (List.length ((List.take (List.length x.2.2.2.2.2.2.2.2.2.2.1) (List.drop (0 : Nat) x.2.2.2.2.2.2.2.2.2.2.1)) ++ (List.take (1 : Nat) (List.drop (0 : Nat) (List.set (List.replicate (1 : Nat) (0 : Int)) (0 : Nat) y1.1)))))) then (if ((List.length x.2.2.2.2.2.2.2.2.2.1) = (List.length x.2.2.2.2.2.2.2.2.2.1)) then (some (Sum.inl (x.1, (x.2.1, ((Go.IntKind.wrap Go.IntKind.i64 (x.2.2.1 + (1 : Int))), (x.2.2.2.1, (x.2.2.2.2.1, (y1.2.2.1, (y1.2.2.2.1, (y1.2.2.2.2.1, (y1.2.2.2.2.2.1, (x.2.2.2.2.2.2.2.2.2.1, (((List.take (List.length x.2.2.2.2.2.2.2.2.2.2.1) (List.drop (0 : Nat) x.2.2.2.2.2.2.2.2.2.2.1)) ++ (List.take (1 : Nat) (List.drop (0 : Nat) (List.set (List.replicate (1 : Nat) (0 : Int)) (0 : Nat) y1.1)))), Unit.unit)))))))))))))
   else none)
   else none)
   else none))))
   else none)
   else none)
   else (if ((List.length x.2.2.2.2.2.2.2.2.2.2.1) = (List.length x.2.2.2.2.2.2.2.2.2.2.1)) then (if ((List.length x.2.2.2.2.2.2.2.2.2.1) = (List.length x.2.2.2.2.2.2.2.2.2.1)) then (some (Sum.inr (Sum.inl (x.2.2.2.1, (x.2.2.2.2.1, (x.2.2.2.2.2.1, (x.2.2.2.2.2.2.1, (x.2.2.2.2.2.2.2.1, (x.2.2.2.2.2.2.2.2.1, (x.2.2.2.2.2.2.2.2.2.1, (x.2.2.2.2.2.2.2.2.2.2.1, Unit.unit)))))))))))
   else none)
   else none))
theorem b51_1_eq (x : g51_1.D) : b51_1 x = evF P (T72.orc _) Go.Proofs.Try.f51.ntmps fx51 (Code.at [true, true, false, true, false, false] c51) (planAt 64 []) g51_1 x (injK fx51 ((.normal, g51_1) :: o51_1) some) := by kernel_rfl
noncomputable def l51_1 : g51_1.D → Option (outD o51_1) := loopN g51_1 o51_1 b51_1 18446744073709551616
theorem at51_1 : Code.at [true, true, false, true, false] c51 = .loop (Code.at [true, true, false, true, false, false] c51) := by kernel_rfl
theorem s51_1_ok : SubOk P Go.Proofs.Try.f51.ntmps fx51 (Code.at [true, true, false, true, false] c51) ⟨g51_1, o51_1, l51_1⟩ := by
  rw [at51_1]
  exact loop_ok (sub_ok (g := g51_1) (outs := ((.normal, g51_1) :: o51_1)) (f := b51_1) (Table.ok T72_ok _) hmix (planAt_ok (P := P) (n := Go.Proofs.Try.f51.ntmps) (fx := fx51) (c := (Code.at [true, true, false, true, false, false] c51)) (d := 64) (l := []) trivial) b51_1_eq) rfl _
noncomputable def f51 (x : gi51.D) : Option go51.D :=
  (if ((List.length x.2.2.2.2.2.2.2.1) = (List.length x.2.2.2.2.2.2.2.1)) then (Option.bind (Go.Ev.Zlib.l51_1 (x.1, ((((List.length x.1) : Nat) : Int), ((0 : Int), (x.2.1, (x.2.2.1, (x.2.2.2.1, (x.2.2.2.2.1, (x.2.2.2.2.2.1, (x.2.2.2.2.2.2.1, (x.2.2.2.2.2.2.2.1, ([], Unit.unit)))))))))))) (Sum.elim (fun y1 => (if ((List.length y1.2.2.2.2.2.2.1) = (List.length y1.2.2.2.2.2.2.1)) then (some ((List.take (List.length y1.2.2.2.2.2.2.2.1) (List.drop (0 : Nat) y1.2.2.2.2.2.2.2.1)), ((0 : Int), (y1.1, (y1.2.1, (y1.2.2.1, (y1.2.2.2.1, (y1.2.2.2.2.1, (y1.2.2.2.2.2.1, (y1.2.2.2.2.2.2.1, Unit.unit))))))))))
   else none)) (Sum.elim (fun y1 => (if ((List.length y1.2.2.2.2.2.2.2.2.1) = (List.length y1.2.2.2.2.2.2.2.2.1)) then (some (y1.1, (y1.2.1, (y1.2.2.1, (y1.2.2.2.1, (y1.2.2.2.2.1, (y1.2.2.2.2.2.1, (y1.2.2.2.2.2.2.1, (y1.2.2.2.2.2.2.2.1, (y1.2.2.2.2.2.2.2.2.1, Unit.unit))))))))))
   else none)) Empty.elim)))
   else none)
theorem f51_eq (x : gi51.D) : f51 x = evF P (T72.orc _) Go.Proofs.Try.f51.ntmps fx51 c51 (planAt 64 [([true, true, false, true, false], ⟨g51_1, o51_1, l51_1⟩)]) gi51 x (fnK fx51 [go51]) := by kernel_rfl
theorem pf51 : AllSub P Go.Proofs.Try.f51.ntmps fx51 c51 [([true, true, false, true, false], ⟨g51_1, o51_1, l51_1⟩)] := And.intro s51_1_ok (trivial)
theorem qf51 : PlanOk P Go.Proofs.Try.f51.ntmps fx51 (planAt 64 [([true, true, false, true, false], ⟨g51_1, o51_1, l51_1⟩)]) c51 := planAt_ok pf51
theorem f51_ok : EntOk P 51 ⟨gi51, [go51], f51⟩ :=
  ent_ok (fn := Go.Proofs.Try.f51) (gi := gi51) (gos := [go51]) (f := f51) (c := c51) (fx := fx51) ⟨Go.Proofs.Try.func51, by kernel_rfl, rfl, by decide +kernel, rfl, rfl⟩ (by kernel_rfl) (Table.ok T72_ok _) hmix (qf51) f51_eq
noncomputable def T51 : Table := T72.add 51 [⟨gi51, [go51], f51⟩] []
theorem T51_ok : TableOk P T51 := Table.plus T72_ok (es := [⟨gi51, [go51], f51⟩]) ⟨f51_ok, trivial⟩ []

/-! ## 73: (*erasure/bits.Reader).Align -/
noncomputable def c73 : Code := Func.code Go.Proofs.Try.f73
abbrev gi73 : Sg := ⟨[0], [.lf (.ptr 0 0)], [some (.box true [.lf (.sl (.int .u8)), .lf (.int .i64), .lf (.int .i64), .lf (.int .i64)])]⟩
abbrev go73 : Sg := ⟨[2], [.lf (.int .i64)], [some (.box true [.lf (.sl (.int .u8)), .lf (.int .i64), .lf (.int .i64), .lf (.int .i64)])]⟩
def fx73 : List Bool := [true]
noncomputable def f73 (x : gi73.D) : Option go73.D :=
  (some ((0 : Int), (x.1, ((Go.IntKind.wrap Go.IntKind.i64 (x.2.1 - (Go.IntKind.wrap Go.IntKind.i64 (Int.tdiv x.2.2.2.1 (8 : Int))))), ((0 : Int), ((0 : Int), Unit.unit))))))
theorem f73_eq (x : gi73.D) : f73 x = evF P (T51.orc _) Go.Proofs.Try.f73.ntmps fx73 c73 (planAt 64 []) gi73 x (fnK fx73 [go73]) := by kernel_rfl
theorem f73_ok : EntOk P 73 ⟨gi73, [go73], f73⟩ :=
  ent_ok (fn := Go.Proofs.Try.f73) (gi := gi73) (gos := [go73]) (f := f73) (c := c73) (fx := fx73) ⟨Go.Proofs.Try.func73, by kernel_rfl, rfl, by decide +kernel, rfl, rfl⟩ (by kernel_rfl) (Table.ok T51_ok _) hmix (planAt_ok (P := P) (n := Go.Proofs.Try.f73.ntmps) (fx := fx73) (c := c73) (d := 64) (l := []) trivial) f73_eq
noncomputable def T73 : Table := T51.add 73 [⟨gi73, [go73], f73⟩] []
theorem T73_ok : TableOk P T73 := Table.plus T51_ok (es := [⟨gi73, [go73], f73⟩]) ⟨f73_ok, trivial⟩ []

/-! ## 74: (*erasure/bits.Reader).Bytes -/
noncomputable def c74 : Code := Func.code Go.Proofs.Try.f74
abbrev gi74 : Sg := ⟨[0, 1], [.lf (.ptr 0 0), .lf (.int .i64)], [some (.box true [.lf (.sl (.int .u8)), .lf (.int .i64), .lf (.int .i64), .lf (.int .i64)])]⟩
abbrev go74 : Sg := ⟨[4, 5], [.lf (.gr (.int .u8) 1), .lf (.int .i64)], [some (.box true [.lf (.sl (.int .u8)), .lf (.int .i64), .lf (.int .i64), .lf (.int .i64)]), some (.arr true (.int .u8))]⟩
def fx74 : List Bool := [true]
noncomputable def f74 (x : gi74.D) : Option go74.D :=
  (if ((decide (x.1 < (0 : Int))) = true) then (some ((1 : Int), (x.2.1, (x.2.2.1, (x.2.2.2.1, (x.2.2.2.2.1, ([], Unit.unit)))))))
   else (Option.bind (Go.Ev.Zlib.f73 (x.2.1, (x.2.2.1, (x.2.2.2.1, (x.2.2.2.2.1, Unit.unit))))) (fun y1 => (if ((decide (x.1 > (Go.IntKind.wrap Go.IntKind.i64 ((((List.length y1.2.1) : Nat) : Int) - y1.2.2.1)))) = true) then (some ((6 : Int), (y1.2.1, (y1.2.2.1, (y1.2.2.2.1, (y1.2.2.2.2.1, ([], Unit.unit)))))))
   else (if ((0 : Int) ≤ (Go.IntKind.wrap Go.IntKind.i64 (y1.2.2.1 + x.1))) then (if ((Go.IntKind.wrap Go.IntKind.i64 (y1.2.2.1 + x.1)) ≤ (((List.length y1.2.1) : Nat) : Int)) then (if ((0 : Int) ≤ (Go.IntKind.wrap Go.IntKind.i64 ((Go.IntKind.wrap Go.IntKind.i64 (y1.2.2.1 + x.1)) - x.1))) then (if ((Go.IntKind.wrap Go.IntKind.i64 ((Go.IntKind.wrap Go.IntKind.i64 (y1.2.2.1 + x.1)) - x.1)) ≤ (((Int.toNat (Go.IntKind.wrap Go.IntKind.i64 (y1.2.2.1 + x.1))) : Nat) : Int)) then (Option.bind (Go.Ev.Zlib.f66 ((List.drop (Int.toNat (Go.IntKind.wrap Go.IntKind.i64 ((Go.IntKind.wrap Go.IntKind.i64 (y1.2.2.1 + x.1)) - x.1))) (List.take (Int.toNat (Go.IntKind.wrap Go.IntKind.i64 (y1.2.2.1 + x.1))) y1.2.1)), Unit.unit)) (fun y2 => (if ((List.length y2.1) = (List.length y2.1)) then (some ((0 : Int), (y1.2.1, ((Go.IntKind.wrap Go.IntKind.i64 (y1.2.2.1 + x.1)), (y1.2.2.2.1, (y1.2.2.2.2.1, (y2.1, Unit.unit)))))))
   else none)))
   else none)
   else none)
   else none)
   else none)))))
theorem f74_eq (x : gi74.D) : f74 x = evF P (T73.orc _) Go.Proofs.Try.f74.ntmps fx74 c74 (planAt 64 []) gi74 x (fnK fx74 [go74]) := by kernel_rfl
theorem f74_ok : EntOk P 74 ⟨gi74, [go74], f74⟩ :=
  ent_ok (fn := Go.Proofs.Try.f74) (gi := gi74) (gos := [go74]) (f := f74) (c := c74) (fx := fx74) ⟨Go.Proofs.Try.func74, by kernel_rfl, rfl, by decide +kernel, rfl, rfl⟩ (by kernel_rfl) (Table.ok T73_ok _) hmix (planAt_ok (P := P) (n := Go.Proofs.Try.f74.ntmps) (fx := fx74) (c := c74) (d := 64) (l := []) trivial) f74_eq
noncomputable def T74 : Table := T73.add 74 [⟨gi74, [go74], f74⟩] []
theorem T74_ok : TableOk P T74 := Table.plus T73_ok (es := [⟨gi74, [go74], f74⟩]) ⟨f74_ok, trivial⟩ []

/-! ## 75: (*erasure/inflate.work).add -/
noncomputable def c75 : Code := Func.code Go.Proofs.Try.f75
abbrev gi75 : Sg := ⟨[0, 1], [.lf (.ptr 0 0), .agg [.lf (.int .i64), .lf (.int .i64), .lf (.int .i64)]], [some (.box true [.lf (.ptr 1 0), .lf (.gr (.pair (.int .i64) (.pair (.int .i64) (.int .i64))) 2), .lf (.int .i64), .lf (.int .i64)]), some (.box true [.lf (.sl (.int .u8)), .lf (.int .i64), .lf (.int .i64), .lf (.int .i64)]), some (.arr true (.pair (.int .i64) (.pair (.int .i64) (.int .i64))))]⟩
abbrev go75 : Sg := ⟨[4], [.lf (.int .i64)], [some (.box true [.lf (.ptr 1 0), .lf (.gr (.pair (.int .i64) (.pair (.int .i64) (.int .i64))) 3), .lf (.int .i64), .lf (.int .i64)]), some (.box true [.lf (.sl (.int .u8)), .lf (.int .i64), .lf (.int .i64), .lf (.int .i64)]), none, some (.arr true (.pair (.int .i64) (.pair (.int .i64) (.int .i64))))]⟩
def fx75 : List Bool := [true, true, false]
noncomputable def f75 (x : gi75.D) : Option go75.D :=
  (if ((decide (x.2.2.1 > x.2.2.2.1)) = true) then (if ((List.length x.2.2.2.2.2.2.2.2.2.1) = (List.length x.2.2.2.2.2.2.2.2.2.1)) then (some ((4 : Int), (x.2.2.2.1, (x.2.2.2.2.1, (x.2.2.2.2.2.1, (x.2.2.2.2.2.2.1, (x.2.2.2.2.2.2.2.1, (x.2.2.2.2.2.2.2.2.1, (x.2.2.2.2.2.2.2.2.2.1, Unit.unit)))))))))
   else none)
   else (if ((decide ((Go.IntKind.wrap Go.IntKind.i64 (x.2.2.2.1 + (Max.max x.2.1 (1 : Int)))) > x.2.2.2.2.1)) = true) then (if ((List.length x.2.2.2.2.2.2.2.2.2.1) = (List.length x.2.2.2.2.2.2.2.2.2.1)) then (some ((2 : Int), (x.2.2.2.1, (x.2.2.2.2.1, (x.2.2.2.2.2.1, (x.2.2.2.2.2.2.1, (x.2.2.2.2.2.2.2.1, (x.2.2.2.2.2.2.2.2.1, (x.2.2.2.2.2.2.2.2.2.1, Unit.unit)))))))))
   else none)
   else (if (((List.length (List.take (List.length x.2.2.2.2.2.2.2.2.2.1) (List.drop (0 : Nat) x.2.2.2.2.2.2.2.2.2.1))) + (List.length (List.take (1 : Nat) (List.drop (0 : Nat) (List.set (List.replicate (1 : Nat) ((0 : Int), ((0 : Int), (0 : Int)))) (0 : Nat) (x.1, (x.2.1, x.2.2.1))))))) ≤ (5864062014805 : Nat)) then (if ((List.length ((List.take (List.length x.2.2.2.2.2.2.2.2.2.1) (List.drop (0 : Nat) x.2.2.2.2.2.2.2.2.2.1)) ++ (List.take (1 : Nat) (List.drop (0 : Nat) (List.set (List.replicate (1 : Nat) ((0 : Int), ((0 : Int), (0 : Int)))) (0 : Nat) (x.1, (x.2.1, x.2.2.1))))))) = (List.length ((List.take (List.length x.2.2.2.2.2.2.2.2.2.1) (List.drop (0 : Nat) x.2.2.2.2.2.2.2.2.2.1)) ++ (List.take (1 : Nat) (List.drop (0 : Nat) (List.set (List.replicate (1 : Nat) ((0 : Int), ((0 : Int), (0 : Int)))) (0 : Nat) (x.1, (x.2.1, x.2.2.1)))))))) then (some ((0 : Int), ((Go.IntKind.wrap Go.IntKind.i64 (x.2.2.2.1 + (Max.max x.2.1 (1 : Int)))), (x.2.2.2.2.1, (x.2.2.2.2.2.1, (x.2.2.2.2.2.2.1, (x.2.2.2.2.2.2.2.1, (x.2.2.2.2.2.2.2.2.1, (((List.take (List.length x.2.2.2.2.2.2.2.2.2.1) (List.drop (0 : Nat) x.2.2.2.2.2.2.2.2.2.1)) ++ (List.take (1 : Nat) (List.drop (0 : Nat) (List.set (List.replicate (1 : Nat) ((0 : Int), ((0 : Int), (0 : Int)))) (0 : Nat) (x.1, (x.2.1, x.2.2.1)))))), Unit.unit)))))))))
   else none)
   else none)))
theorem f75_eq (x : gi75.D) : f75 x = evF P (T74.orc _) Go.Proofs.Try.f75.ntmps fx75 c75 (planAt 64 []) gi75 x (fnK fx75 [go75]) := by kernel_rfl
theorem f75_ok : EntOk P 75 ⟨gi75, [go75], f75⟩ :=
  ent_ok (fn := Go.Proofs.Try.f75) (gi := gi75) (gos := [go75]) (f := f75) (c := c75) (fx := fx75) ⟨Go.Proofs.Try.func75, by kernel_rfl, rfl, by decide +kernel, rfl, rfl⟩ (by kernel_rfl) (Table.ok T74_ok _) hmix (planAt_ok (P := P) (n := Go.Proofs.Try.f75.ntmps) (fx := fx75) (c := c75) (d := 64) (l := []) trivial) f75_eq
noncomputable def T75 : Table := T74.add 75 [⟨gi75, [go75], f75⟩] []
theorem T75_ok : TableOk P T75 := Table.plus T74_ok (es := [⟨gi75, [go75], f75⟩]) ⟨f75_ok, trivial⟩ []

/-! ## 52: (*erasure/inflate.work).stored -/
noncomputable def c52 : Code := Func.code Go.Proofs.Try.f52
abbrev gi52 : Sg := ⟨[0], [.lf (.ptr 0 0)], [some (.box true [.lf (.ptr 1 0), .lf (.gr (.pair (.int .i64) (.pair (.int .i64) (.int .i64))) 2), .lf (.int .i64), .lf (.int .i64)]), some (.box true [.lf (.sl (.int .u8)), .lf (.int .i64), .lf (.int .i64), .lf (.int .i64)]), some (.arr true (.pair (.int .i64) (.pair (.int .i64) (.int .i64))))]⟩
abbrev go52 : Sg := ⟨[2], [.lf (.int .i64)], [some (.box true [.lf (.ptr 1 0), .lf (.gr (.pair (.int .i64) (.pair (.int .i64) (.int .i64))) 3), .lf (.int .i64), .lf (.int .i64)]), some (.box true [.lf (.sl (.int .u8)), .lf (.int .i64), .lf (.int .i64), .lf (.int .i64)]), none, some (.arr true (.pair (.int .i64) (.pair (.int .i64) (.int .i64))))]⟩
def fx52 : List Bool := [true, true, false]
abbrev g52_1 : Sg := ⟨[0, 60, 61, 62], [.lf (.ptr 0 0), .lf (.sl (.int .u8)), .lf (.int .i64), .lf (.int .i64)], [some (.box true [.lf (.ptr 1 0), .lf (.gr (.pair (.int .i64) (.pair (.int .i64) (.int .i64))) 3), .lf (.int .i64), .lf (.int .i64)]), some (.box true [.lf (.sl (.int .u8)), .lf (.int .i64), .lf (.int .i64), .lf (.int .i64)]), none, some (.arr true (.pair (.int .i64) (.pair (.int .i64) (.int .i64))))]⟩
abbrev o52_1 : Outs := [(.exit 2, ⟨[], [], [some (.box true [.lf (.ptr 1 0), .lf (.gr (.pair (.int .i64) (.pair (.int .i64) (.int .i64))) 3), .lf (.int .i64), .lf (.int .i64)]), some (.box true [.lf (.sl (.int .u8)), .lf (.int .i64), .lf (.int .i64), .lf (.int .i64)]), none, some (.arr true (.pair (.int .i64) (.pair (.int .i64) (.int .i64))))]⟩)]
noncomputable def b52_1 (x : g52_1.D) : Option (outD ((.normal, g52_1) :: o52_1)) :=
  (if ((decide (x.2.2.1 < x.2.1)) = true) then (if ((0 : Int) ≤ x.2.2.1) then (if (x.2.2.1 < (((List.length x.1) : Nat) : Int)) then (if ((List.length x.2.2.2.2.2.2.2.2.2.1) = (List.length x.2.2.2.2.2.2.2.2.2.1)) then (Option.bind (Go.Ev.Zlib.f75 ((Go.IntKind.wrap Go.IntKind.i64 (List.getD x.1 (Int.toNat x.2.2.1) (0 : Int))), ((0 : Int), ((0 : Int), (x.2.2.2.1, (x.2.2.2.2.1, (x.2.2.2.2.2.1, (x.2.2.2.2.2.2.1, (x.2.2.2.2.2.2.2.1, (x.2.2.2.2.2.2.2.2.1, (x.2.2.2.2.2.2.2.2.2.1, Unit.unit))))))))))) (fun y1 => (if ((List.length y1.2.2.2.2.2.2.2.1) = (List.length y1.2.2.2.2.2.2.2.1)) then (some (Sum.inl (x.1, (x.2.1, ((Go.IntKind.wrap Go.IntKind.i64 (x.2.2.1 + (1 : Int))), (y1.2.1, (y1.2.2.1, (y1.2.2.2.1, (y1.2.2.2.2.1, (y1.2.2.2.2.2.1, (y1.2.2.2.2.2.2.1, (y1.2.2.2.2.2.2.2.1, Unit.unit))))))))))))
   else none)))
   else none)
   else none)
   else none)
   else (if ((List.length x.2.2.2.2.2.2.2.2.2.1) = (List.length x.2.2.2.2.2.2.2.2.2.1)) then (some (Sum.inr (Sum.inl (x.2.2.2.1, (x.2.2.2.2.1, (x.2.2.2.2.2.1, (x.2.2.2.2.2.2.1, (x.2.2.2.2.2.2.2.1, (x.2.2.2.2.2.2.2.2.1, (x.2.2.2.2.2.2.2.2.2.1, Unit.unit))))))))))
   else none))
theorem b52_1_eq (x : g52_1.D) : b52_1 x = evF P (T75.orc _) Go.Proofs.Try.f52.ntmps fx52 (Code.at [true, true, true, true, true, true, false, true, false, false] c52) (planAt 64 []) g52_1 x (injK fx52 ((.normal, g52_1) :: o52_1) some) := by kernel_rfl
noncomputable def l52_1 : g52_1.D → Option (outD o52_1) := loopN g52_1 o52_1 b52_1 18446744073709551616
theorem at52_1 : Code.at [true, true, true, true, true, true, false, true, false] c52 = .loop (Code.at [true, true, true, true, true, true, false, true, false, false] c52) := by kernel_rfl
theorem s52_1_ok : SubOk P Go.Proofs.Try.f52.ntmps fx52 (Code.at [true, true, true, true, true, true, false, true, false] c52) ⟨g52_1, o52_1, l52_1⟩ := by
  rw [at52_1]
  exact loop_ok (sub_ok (g := g52_1) (outs := ((.normal, g52_1) :: o52_1)) (f := b52_1) (Table.ok T75_ok _) hmix (planAt_ok (P := P) (n := Go.Proofs.Try.f52.ntmps) (fx := fx52) (c := (Code.at [true, true, true, true, true, true, false, true, false, false] c52)) (d := 64) (l := []) trivial) b52_1_eq) rfl _
noncomputable def f52 (x : gi52.D) : Option go52.D :=
  (Option.bind (Go.Ev.Zlib.f73 (x.2.2.1, (x.2.2.2.1, (x.2.2.2.2.1, (x.2.2.2.2.2.1, Unit.unit))))) (fun y1 => (if ((List.length x.2.2.2.2.2.2.1) = (List.length x.2.2.2.2.2.2.1)) then (Option.bind (Go.Ev.Zlib.f51 ((List.take (2 : Nat) (List.drop (0 : Nat) (List.set (List.set (List.replicate (2 : Nat) (0 : Int)) (0 : Nat) (16 : Int)) (1 : Nat) (16 : Int)))), (x.1, (x.2.1, (y1.2.1, (y1.2.2.1, (y1.2.2.2.1, (y1.2.2.2.2.1, (x.2.2.2.2.2.2.1, Unit.unit))))))))) (fun y2 => (if ((y2.2.1 != (0 : Int)) = true) then (if ((List.length y2.2.2.2.2.2.2.2.2.1) = (List.length y2.2.2.2.2.2.2.2.2.1)) then (some (y2.2.1, (y2.2.2.1, (y2.2.2.2.1, (y2.2.2.2.2.1, (y2.2.2.2.2.2.1, (y2.2.2.2.2.2.2.1, (y2.2.2.2.2.2.2.2.1, (y2.2.2.2.2.2.2.2.2.1, Unit.unit)))))))))
   else none)
   else (if ((0 : Int) < (((List.length y2.1) : Nat) : Int)) then (if ((1 : Int) < (((List.length y2.1) : Nat) : Int)) then (if (((Go.IntKind.wrap Go.IntKind.i64 (((BitVec.toNat ((BitVec.ofInt (64 : Nat) (List.getD y2.1 (0 : Nat) (0 : Int))) ^^^ (BitVec.ofInt (64 : Nat) (List.getD y2.1 (1 : Nat) (0 : Int))))) : Nat) : Int)) != (65535 : Int)) = true) then (if ((List.length y2.2.2.2.2.2.2.2.2.1) = (List.length y2.2.2.2.2.2.2.2.2.1)) then (some ((4 : Int), (y2.2.2.1, (y2.2.2.2.1, (y2.2.2.2.2.1, (y2.2.2.2.2.2.1, (y2.2.2.2.2.2.2.1, (y2.2.2.2.2.2.2.2.1, (y2.2.2.2.2.2.2.2.2.1, Unit.unit)))))))))
   else none)
   else (if ((0 : Int) < (((List.length y2.1) : Nat) : Int)) then (Option.bind (Go.Ev.Zlib.f74 ((List.getD y2.1 (0 : Nat) (0 : Int)), (y2.2.2.2.2.1, (y2.2.2.2.2.2.1, (y2.2.2.2.2.2.2.1, (y2.2.2.2.2.2.2.2.1, Unit.unit)))))) (fun y3 => (if ((y3.1 != (0 : Int)) = true) then (if ((List.length y2.2.2.2.2.2.2.2.2.1) = (List.length y2.2.2.2.2.2.2.2.2.1)) then (some (y3.1, (y2.2.2.1, (y2.2.2.2.1, (y3.2.1, (y3.2.2.1, (y3.2.2.2.1, (y3.2.2.2.2.1, (y2.2.2.2.2.2.2.2.2.1, Unit.unit)))))))))
   else none)
   else (if ((decide ((Go.IntKind.wrap Go.IntKind.i64 (y2.2.2.1 + (((List.length y3.2.2.2.2.2.1) : Nat) : Int))) > y2.2.2.2.1)) = true) then (if ((List.length y2.2.2.2.2.2.2.2.2.1) = (List.length y2.2.2.2.2.2.2.2.2.1)) then (some ((2 : Int), (y2.2.2.1, (y2.2.2.2.1, (y3.2.1, (y3.2.2.1, (y3.2.2.2.1, (y3.2.2.2.2.1, (y2.2.2.2.2.2.2.2.2.1, Unit.unit)))))))))
   else none)
   else (if ((List.length y2.2.2.2.2.2.2.2.2.1) = (List.length y2.2.2.2.2.2.2.2.2.1)) then (Option.bind (Go.Ev.Zlib.l52_1 ((List.take (List.length y3.2.2.2.2.2.1) (List.drop (0 : Nat) y3.2.2.2.2.2.1)), ((((List.length y3.2.2.2.2.2.1) : Nat) : Int), ((0 : Int), (y2.2.2.1, (y2.2.2.2.1, (y3.2.1, (y3.2.2.1, (y3.2.2.2.1, (y3.2.2.2.2.1, (y2.2.2.2.2.2.2.2.2.1, Unit.unit))))))))))) (Sum.elim (fun y4 => (if ((List.length y4.2.2.2.2.2.2.1) = (List.length y4.2.2.2.2.2.2.1)) then (some ((0 : Int), (y4.1, (y4.2.1, (y4.2.2.1, (y4.2.2.2.1, (y4.2.2.2.2.1, (y4.2.2.2.2.2.1, (y4.2.2.2.2.2.2.1, Unit.unit)))))))))
   else none)) Empty.elim))
   else none)))))
   else none))
   else none)
   else none))))
   else none)))
theorem f52_eq (x : gi52.D) : f52 x = evF P (T75.orc _) Go.Proofs.Try.f52.ntmps fx52 c52 (planAt 64 [([true, true, true, true, true, true, false, true, false], ⟨g52_1, o52_1, l52_1⟩)]) gi52 x (fnK fx52 [go52]) := by kernel_rfl
theorem pf52 : AllSub P Go.Proofs.Try.f52.ntmps fx52 c52 [([true, true, true, true, true, true, false, true, false], ⟨g52_1, o52_1, l52_1⟩)] := And.intro s52_1_ok (trivial)
theorem qf52 : PlanOk P Go.Proofs.Try.f52.ntmps fx52 (planAt 64 [([true, true, true, true, true, true, false, true, false], ⟨g52_1, o52_1, l52_1⟩)]) c52 := planAt_ok pf52
theorem f52_ok : EntOk P 52 ⟨gi52, [go52], f52⟩ :=
  ent_ok (fn := Go.Proofs.Try.f52) (gi := gi52) (gos := [go52]) (f := f52) (c := c52) (fx := fx52) ⟨Go.Proofs.Try.func52, by kernel_rfl, rfl, by decide +kernel, rfl, rfl⟩ (by kernel_rfl) (Table.ok T75_ok _) hmix (qf52) f52_eq
noncomputable def T52 : Table := T75.add 52 [⟨gi52, [go52], f52⟩] []
theorem T52_ok : TableOk P T52 := Table.plus T75_ok (es := [⟨gi52, [go52], f52⟩]) ⟨f52_ok, trivial⟩ []

/-! ## 86: (*erasure/huff.Table).Read -/
noncomputable def c86 : Code := Func.code Go.Proofs.Try.f86
abbrev gi86 : Sg := ⟨[0, 1], [.lf .nilp, .lf (.ptr 0 0)], [some (.box true [.lf (.sl (.int .u8)), .lf (.int .i64), .lf (.int .i64), .lf (.int .i64)])]⟩
abbrev go86 : Sg := ⟨[4, 5], [.lf (.int .i64), .lf (.int .i64)], [some (.box true [.lf (.sl (.int .u8)), .lf (.int .i64), .lf (.int .i64), .lf (.int .i64)])]⟩
def fx86 : List Bool := [true]
noncomputable def f86 (x : gi86.D) : Option go86.D :=
  (some ((0 : Int), ((3 : Int), (x.1, (x.2.1, (x.2.2.1, (x.2.2.2.1, Unit.unit)))))))
theorem f86_eq (x : gi86.D) : f86 x = evF P (T52.orc _) Go.Proofs.Try.f86.ntmps fx86 c86 (planAt 64 []) gi86 x (fnK fx86 [go86]) := by kernel_rfl
theorem f86_ok : EntOk P 86 ⟨gi86, [go86], f86⟩ :=
  ent_ok (fn := Go.Proofs.Try.f86) (gi := gi86) (gos := [go86]) (f := f86) (c := c86) (fx := fx86) ⟨Go.Proofs.Try.func86, by kernel_rfl, rfl, by decide +kernel, rfl, rfl⟩ (by kernel_rfl) (Table.ok T52_ok _) hmix (planAt_ok (P := P) (n := Go.Proofs.Try.f86.ntmps) (fx := fx86) (c := c86) (d := 64) (l := []) trivial) f86_eq
end Go.Ev.Zlib
