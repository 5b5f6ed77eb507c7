/- Part of a proof about the given program: ZR1. -/
import Derived.Test.YtaofodieeepobaaEvZ
import Derived.Test.YtaofodieeepobaaChecked
namespace Go.Ev.Zlib
open Go.Proofs
open List (length getD take drop replicate)
abbrev tt := true
abbrev ff := false
open Go.Ev

noncomputable abbrev P := Try.prog
set_option maxRecDepth 1000000
theorem hmix : P.follows .mixedOrders = true := by kernel_rfl

noncomputable def c7 : Code := Func.code Try.f7
abbrev gi7 : Sg := ⟨[0], [.lf (.sl (.int .u8))], []⟩
abbrev go7 : Sg := ⟨[2], [.lf (.int .i64)], []⟩
def fx7 : List Bool := []
abbrev g7_1 : Sg := ⟨[3, 7, 8, 9], [.lf (.ptr 0 0), .lf (.sl (.int .u8)), .lf (.int .i64), .lf (.int .i64)], [some (.box true [.lf (.int .i64), .lf (.int .i64)])]⟩
abbrev o7_1 : Outs := [(.exit 0, ⟨[3], [.lf (.ptr 0 0)], [some (.box true [.lf (.int .i64), .lf (.int .i64)])]⟩)]
noncomputable def b7_1 (x : g7_1.D) : Option (outD ((.normal, g7_1) :: o7_1)) :=
  (if ((decide (x.2.2.1 < x.2.1)) = true) then (if ((0 : Int) ≤ x.2.2.1) then (if (x.2.2.1 < (((length x.1) : Nat) : Int)) then (some (Sum.inl (x.1, x.2.1, (IntKind.wrap .i64 (x.2.2.1 + (1 : Int))), (Int.tmod (IntKind.wrap .i64 (x.2.2.2.1 + (IntKind.wrap .i64 (getD x.1 (Int.toNat x.2.2.1) (0 : Int))))) (65521 : Int)), (Int.tmod (IntKind.wrap .i64 (x.2.2.2.2.1 + (Int.tmod (IntKind.wrap .i64 (x.2.2.2.1 + (IntKind.wrap .i64 (getD x.1 (Int.toNat x.2.2.1) (0 : Int))))) (65521 : Int)))) (65521 : Int)), ())))
 else none)
 else none)
 else (some (Sum.inr (Sum.inl (x.2.2.2.1, x.2.2.2.2.1, ())))))
theorem b7_1_eq (x : g7_1.D) : b7_1 x = evF P (Table.empty.orc _) Try.f7.ntmps fx7 (Code.at [tt, tt, ff, tt, ff, ff] c7) (planAt 64 []) g7_1 x (injK fx7 ((.normal, g7_1) :: o7_1) some) := by kernel_rfl
noncomputable def l7_1 : g7_1.D → Option (outD o7_1) := loopN g7_1 o7_1 b7_1 18446744073709551616
theorem at7_1 : Code.at [tt, tt, ff, tt, ff] c7 = .loop (Code.at [tt, tt, ff, tt, ff, ff] c7) := by kernel_rfl
theorem s7_1_ok : SubOk P Try.f7.ntmps fx7 (Code.at [tt, tt, ff, tt, ff] c7) ⟨g7_1, o7_1, l7_1⟩ := by
  rw [at7_1]
  exact loop_ok (sub_ok (g := g7_1) (outs := ((.normal, g7_1) :: o7_1)) (f := b7_1) (Table.ok (Table.empty_ok P) _) hmix (planAt_ok (P := P) (n := Try.f7.ntmps) (fx := fx7) (c := (Code.at [tt, tt, ff, tt, ff, ff] c7)) (d := 64) (l := []) trivial) b7_1_eq) rfl _
noncomputable def f7 (x : gi7.D) : Option go7.D :=
  (Option.bind (l7_1 (x.1, (((length x.1) : Nat) : Int), (0 : Int), (1 : Int), (0 : Int), ())) (Sum.elim (fun y1 => (some ((IntKind.wrap .i64 (((BitVec.toNat ((BitVec.ofInt 64 (IntKind.wrap .i64 (y1.2.1 * (65536 : Int)))) ||| (BitVec.ofInt 64 y1.1))) : Nat) : Int)), ()))) Empty.elim))
theorem f7_eq (x : gi7.D) : f7 x = evF P (Table.empty.orc _) Try.f7.ntmps fx7 c7 (planAt 64 [([tt, tt, ff, tt, ff], ⟨g7_1, o7_1, l7_1⟩)]) gi7 x (fnK fx7 [go7]) := by kernel_rfl
theorem pf7 : AllSub P Try.f7.ntmps fx7 c7 [([tt, tt, ff, tt, ff], ⟨g7_1, o7_1, l7_1⟩)] := And.intro s7_1_ok (trivial)
theorem qf7 : PlanOk P Try.f7.ntmps fx7 (planAt 64 [([tt, tt, ff, tt, ff], ⟨g7_1, o7_1, l7_1⟩)]) c7 := planAt_ok pf7
theorem f7_ok : EntOk P 7 ⟨gi7, [go7], f7⟩ :=
  ent_ok (fn := Try.f7) (gi := gi7) (gos := [go7]) (f := f7) (c := c7) (fx := fx7) ⟨Try.func7, by kernel_rfl, rfl, by decide +kernel, rfl, rfl⟩ (by kernel_rfl) (Table.ok (Table.empty_ok P) _) hmix (qf7) f7_eq
noncomputable def T7 : Table := Table.empty.add 7 [⟨gi7, [go7], f7⟩] []
theorem T7_ok : TableOk P T7 := Table.plus (Table.empty_ok P) (es := [⟨gi7, [go7], f7⟩]) ⟨f7_ok, trivial⟩ []

noncomputable def c28 : Code := Func.code Try.f28
abbrev gi28 : Sg := ⟨[0, 1, 2], [.lf (.sl (.int .u8)), .lf (.int .i64), .lf (.int .i64)], []⟩
abbrev go28 : Sg := ⟨[6], [.lf (.int .i64)], []⟩
def fx28 : List Bool := []
abbrev g28_1 : Sg := ⟨[0, 1, 2, 7], [.lf (.sl (.int .u8)), .lf (.int .i64), .lf (.int .i64), .lf (.int .i64)], []⟩
abbrev o28_1 : Outs := [(.exit 0, ⟨[7], [.lf (.int .i64)], []⟩)]
noncomputable def b28_1 (x : g28_1.D) : Option (outD ((.normal, g28_1) :: o28_1)) :=
  (if ((decide (x.2.2.2.1 < (258 : Int))) = true) then (if ((decide ((IntKind.wrap .i64 (x.2.1 + x.2.2.2.1)) < (((length x.1) : Nat) : Int))) = true) then (if ((0 : Int) ≤ (IntKind.wrap .i64 (x.2.1 + x.2.2.2.1))) then (if ((IntKind.wrap .i64 (x.2.1 + x.2.2.2.1)) < (((length x.1) : Nat) : Int)) then (if ((0 : Int) ≤ (IntKind.wrap .i64 ((IntKind.wrap .i64 (x.2.1 + x.2.2.2.1)) - x.2.2.1))) then (if ((IntKind.wrap .i64 ((IntKind.wrap .i64 (x.2.1 + x.2.2.2.1)) - x.2.2.1)) < (((length x.1) : Nat) : Int)) then (if (((getD x.1 (Int.toNat (IntKind.wrap .i64 (x.2.1 + x.2.2.2.1))) (0 : Int)) == (getD x.1 (Int.toNat (IntKind.wrap .i64 ((IntKind.wrap .i64 (x.2.1 + x.2.2.2.1)) - x.2.2.1))) (0 : Int))) = true) then (some (Sum.inl (x.1, x.2.1, x.2.2.1, (IntKind.wrap .i64 (x.2.2.2.1 + (1 : Int))), ())))
 else (some (Sum.inr (Sum.inl (x.2.2.2.1, ())))))
 else none)
 else none)
 else none)
 else none)
 else (some (Sum.inr (Sum.inl (x.2.2.2.1, ())))))
 else (some (Sum.inr (Sum.inl (x.2.2.2.1, ())))))
theorem b28_1_eq (x : g28_1.D) : b28_1 x = evF P (T7.orc _) Try.f28.ntmps fx28 (Code.at [tt, tt, ff, ff, ff] c28) (planAt 64 []) g28_1 x (injK fx28 ((.normal, g28_1) :: o28_1) some) := by kernel_rfl
noncomputable def l28_1 : g28_1.D → Option (outD o28_1) := loopN g28_1 o28_1 b28_1 18446744073709551616
theorem at28_1 : Code.at [tt, tt, ff, ff] c28 = .loop (Code.at [tt, tt, ff, ff, ff] c28) := by kernel_rfl
theorem s28_1_ok : SubOk P Try.f28.ntmps fx28 (Code.at [tt, tt, ff, ff] c28) ⟨g28_1, o28_1, l28_1⟩ := by
  rw [at28_1]
  exact loop_ok (sub_ok (g := g28_1) (outs := ((.normal, g28_1) :: o28_1)) (f := b28_1) (Table.ok T7_ok _) hmix (planAt_ok (P := P) (n := Try.f28.ntmps) (fx := fx28) (c := (Code.at [tt, tt, ff, ff, ff] c28)) (d := 64) (l := []) trivial) b28_1_eq) rfl _
noncomputable def f28 (x : gi28.D) : Option go28.D :=
  (Option.bind (l28_1 (x.1, x.2.1, x.2.2.1, (0 : Int), ())) (Sum.elim (fun y1 => (some (y1.1, ()))) Empty.elim))
theorem f28_eq (x : gi28.D) : f28 x = evF P (T7.orc _) Try.f28.ntmps fx28 c28 (planAt 64 [([tt, tt, ff, ff], ⟨g28_1, o28_1, l28_1⟩)]) gi28 x (fnK fx28 [go28]) := by kernel_rfl
theorem pf28 : AllSub P Try.f28.ntmps fx28 c28 [([tt, tt, ff, ff], ⟨g28_1, o28_1, l28_1⟩)] := And.intro s28_1_ok (trivial)
theorem qf28 : PlanOk P Try.f28.ntmps fx28 (planAt 64 [([tt, tt, ff, ff], ⟨g28_1, o28_1, l28_1⟩)]) c28 := planAt_ok pf28
theorem f28_ok : EntOk P 28 ⟨gi28, [go28], f28⟩ :=
  ent_ok (fn := Try.f28) (gi := gi28) (gos := [go28]) (f := f28) (c := c28) (fx := fx28) ⟨Try.func28, by kernel_rfl, rfl, by decide +kernel, rfl, rfl⟩ (by kernel_rfl) (Table.ok T7_ok _) hmix (qf28) f28_eq
noncomputable def T28 : Table := T7.add 28 [⟨gi28, [go28], f28⟩] []
theorem T28_ok : TableOk P T28 := Table.plus T7_ok (es := [⟨gi28, [go28], f28⟩]) ⟨f28_ok, trivial⟩ []

noncomputable def c20 : Code := Func.code Try.f20
abbrev gi20 : Sg := ⟨[0], [.lf (.sl (.int .u8))], []⟩
abbrev go20 : Sg := ⟨[2, 3], [.lf (.gr (.pair (.int .i64) (.pair (.int .i64) (.int .i64))) 0), .lf (.int .i64)], [some (.arr true (.pair (.int .i64) (.pair (.int .i64) (.int .i64))))]⟩
def fx20 : List Bool := []
abbrev g20_2 : Sg := ⟨[0, 4, 5, 6, 7], [.lf (.sl (.int .u8)), .lf (.gr (.pair (.int .i64) (.pair (.int .i64) (.int .i64))) 0), .lf (.int .i64), .lf (.ptr 1 0), .lf (.int .i64)], [some (.arr true (.pair (.int .i64) (.pair (.int .i64) (.int .i64)))), some (.box true [.lf (.int .i64), .lf (.int .i64), .lf (.int .i64)])]⟩
abbrev o20_2 : Outs := [(.exit 2, ⟨[0, 4, 5, 6], [.lf (.sl (.int .u8)), .lf (.gr (.pair (.int .i64) (.pair (.int .i64) (.int .i64))) 0), .lf (.int .i64), .lf (.ptr 1 0)], [some (.arr true (.pair (.int .i64) (.pair (.int .i64) (.int .i64)))), some (.box true [.lf (.int .i64), .lf (.int .i64), .lf (.int .i64)])]⟩)]
noncomputable def b20_2 (x : g20_2.D) : Option (outD ((.normal, g20_2) :: o20_2)) :=
  (if ((decide (x.2.2.1 ≤ (Min.min x.2.1 (1024 : Int)))) = true) then (if ((decide (x.2.2.2.2.2.1 < (258 : Int))) = true) then (Option.bind (f28 (x.1, x.2.1, x.2.2.1, ())) (fun y1 => (if ((decide (y1.1 > x.2.2.2.2.2.1)) = true) then (if ((length x.2.2.2.1) = (length x.2.2.2.1)) then (some (Sum.inl (x.1, x.2.1, (IntKind.wrap .i64 (x.2.2.1 + (1 : Int))), x.2.2.2.1, (0 : Int), y1.1, x.2.2.1, ())))
 else none)
 else (if ((length x.2.2.2.1) = (length x.2.2.2.1)) then (some (Sum.inl (x.1, x.2.1, (IntKind.wrap .i64 (x.2.2.1 + (1 : Int))), x.2.2.2.1, x.2.2.2.2.1, x.2.2.2.2.2.1, x.2.2.2.2.2.2.1, ())))
 else none))))
 else (if ((length x.2.2.2.1) = (length x.2.2.2.1)) then (some (Sum.inr (Sum.inl (x.1, x.2.1, x.2.2.2.1, x.2.2.2.2.1, x.2.2.2.2.2.1, x.2.2.2.2.2.2.1, ()))))
 else none))
 else (if ((length x.2.2.2.1) = (length x.2.2.2.1)) then (some (Sum.inr (Sum.inl (x.1, x.2.1, x.2.2.2.1, x.2.2.2.2.1, x.2.2.2.2.2.1, x.2.2.2.2.2.2.1, ()))))
 else none))
theorem b20_2_eq (x : g20_2.D) : b20_2 x = evF P (T28.orc _) Try.f20.ntmps fx20 (Code.at [tt, tt, tt, ff, tt, ff, ff, tt, ff, tt, ff, tt, ff, ff] c20) (planAt 64 []) g20_2 x (injK fx20 ((.normal, g20_2) :: o20_2) some) := by kernel_rfl
noncomputable def l20_2 : g20_2.D → Option (outD o20_2) := loopN g20_2 o20_2 b20_2 18446744073709551616
theorem at20_2 : Code.at [tt, tt, tt, ff, tt, ff, ff, tt, ff, tt, ff, tt, ff] c20 = .loop (Code.at [tt, tt, tt, ff, tt, ff, ff, tt, ff, tt, ff, tt, ff, ff] c20) := by kernel_rfl
theorem s20_2_ok : SubOk P Try.f20.ntmps fx20 (Code.at [tt, tt, tt, ff, tt, ff, ff, tt, ff, tt, ff, tt, ff] c20) ⟨g20_2, o20_2, l20_2⟩ := by
  rw [at20_2]
  exact loop_ok (sub_ok (g := g20_2) (outs := ((.normal, g20_2) :: o20_2)) (f := b20_2) (Table.ok T28_ok _) hmix (planAt_ok (P := P) (n := Try.f20.ntmps) (fx := fx20) (c := (Code.at [tt, tt, tt, ff, tt, ff, ff, tt, ff, tt, ff, tt, ff, ff] c20)) (d := 64) (l := []) trivial) b20_2_eq) rfl _
abbrev g20_1 : Sg := ⟨[0, 4, 5], [.lf (.sl (.int .u8)), .lf (.gr (.pair (.int .i64) (.pair (.int .i64) (.int .i64))) 0), .lf (.int .i64)], [some (.arr true (.pair (.int .i64) (.pair (.int .i64) (.int .i64))))]⟩
abbrev o20_1 : Outs := [(.exit 0, ⟨[4], [.lf (.gr (.pair (.int .i64) (.pair (.int .i64) (.int .i64))) 0)], [some (.arr true (.pair (.int .i64) (.pair (.int .i64) (.int .i64))))]⟩)]
noncomputable def b20_1 (x : g20_1.D) : Option (outD ((.normal, g20_1) :: o20_1)) :=
  (if ((decide (x.2.1 < (((length x.1) : Nat) : Int))) = true) then (if ((length x.2.2.1) = (length x.2.2.1)) then (Option.bind (l20_2 (x.1, x.2.1, (1 : Int), x.2.2.1, (0 : Int), (0 : Int), (0 : Int), ())) (Sum.elim (fun y1 => (if ((decide (y1.2.2.2.2.1 < (3 : Int))) = true) then (if ((0 : Int) ≤ y1.2.1) then (if (y1.2.1 < (((length y1.1) : Nat) : Int)) then (if (((length (take (length y1.2.2.1) (drop 0 y1.2.2.1))) + (length (take 1 (drop 0 (List.set (replicate 1 ((0 : Int), (0 : Int), (0 : Int))) 0 ((IntKind.wrap .i64 (getD y1.1 (Int.toNat y1.2.1) (0 : Int))), (0 : Int), (0 : Int))))))) ≤ 5864062014805) then (if ((length ((take (length y1.2.2.1) (drop 0 y1.2.2.1)) ++ (take 1 (drop 0 (List.set (replicate 1 ((0 : Int), (0 : Int), (0 : Int))) 0 ((IntKind.wrap .i64 (getD y1.1 (Int.toNat y1.2.1) (0 : Int))), (0 : Int), (0 : Int))))))) = (length ((take (length y1.2.2.1) (drop 0 y1.2.2.1)) ++ (take 1 (drop 0 (List.set (replicate 1 ((0 : Int), (0 : Int), (0 : Int))) 0 ((IntKind.wrap .i64 (getD y1.1 (Int.toNat y1.2.1) (0 : Int))), (0 : Int), (0 : Int)))))))) then (some (Sum.inl (y1.1, (IntKind.wrap .i64 (y1.2.1 + (1 : Int))), ((take (length y1.2.2.1) (drop 0 y1.2.2.1)) ++ (take 1 (drop 0 (List.set (replicate 1 ((0 : Int), (0 : Int), (0 : Int))) 0 ((IntKind.wrap .i64 (getD y1.1 (Int.toNat y1.2.1) (0 : Int))), (0 : Int), (0 : Int)))))), ())))
 else none)
 else none)
 else none)
 else none)
 else (if (((length (take (length y1.2.2.1) (drop 0 y1.2.2.1))) + (length (take 1 (drop 0 (List.set (replicate 1 ((0 : Int), (0 : Int), (0 : Int))) 0 (y1.2.2.2.1, y1.2.2.2.2.1, y1.2.2.2.2.2.1)))))) ≤ 5864062014805) then (if ((length ((take (length y1.2.2.1) (drop 0 y1.2.2.1)) ++ (take 1 (drop 0 (List.set (replicate 1 ((0 : Int), (0 : Int), (0 : Int))) 0 (y1.2.2.2.1, y1.2.2.2.2.1, y1.2.2.2.2.2.1)))))) = (length ((take (length y1.2.2.1) (drop 0 y1.2.2.1)) ++ (take 1 (drop 0 (List.set (replicate 1 ((0 : Int), (0 : Int), (0 : Int))) 0 (y1.2.2.2.1, y1.2.2.2.2.1, y1.2.2.2.2.2.1))))))) then (some (Sum.inl (y1.1, (IntKind.wrap .i64 (y1.2.1 + (Max.max y1.2.2.2.2.1 (1 : Int)))), ((take (length y1.2.2.1) (drop 0 y1.2.2.1)) ++ (take 1 (drop 0 (List.set (replicate 1 ((0 : Int), (0 : Int), (0 : Int))) 0 (y1.2.2.2.1, y1.2.2.2.2.1, y1.2.2.2.2.2.1))))), ())))
 else none)
 else none))) Empty.elim))
 else none)
 else (if ((length x.2.2.1) = (length x.2.2.1)) then (some (Sum.inr (Sum.inl (x.2.2.1, ()))))
 else none))
theorem b20_1_eq (x : g20_1.D) : b20_1 x = evF P (T28.orc _) Try.f20.ntmps fx20 (Code.at [tt, tt, tt, ff, tt, ff, ff] c20) (planAt 64 [([tt, ff, tt, ff, tt, ff], ⟨g20_2, o20_2, l20_2⟩)]) g20_1 x (injK fx20 ((.normal, g20_1) :: o20_1) some) := by kernel_rfl
noncomputable def l20_1 : g20_1.D → Option (outD o20_1) := loopN g20_1 o20_1 b20_1 18446744073709551616
theorem p20_1 : AllSub P Try.f20.ntmps fx20 (Code.at [tt, tt, tt, ff, tt, ff, ff] c20) [([tt, ff, tt, ff, tt, ff], ⟨g20_2, o20_2, l20_2⟩)] := And.intro s20_2_ok (trivial)
theorem q20_1 : PlanOk P Try.f20.ntmps fx20 (planAt 64 [([tt, ff, tt, ff, tt, ff], ⟨g20_2, o20_2, l20_2⟩)]) (Code.at [tt, tt, tt, ff, tt, ff, ff] c20) := planAt_ok p20_1
theorem at20_1 : Code.at [tt, tt, tt, ff, tt, ff] c20 = .loop (Code.at [tt, tt, tt, ff, tt, ff, ff] c20) := by kernel_rfl
theorem s20_1_ok : SubOk P Try.f20.ntmps fx20 (Code.at [tt, tt, tt, ff, tt, ff] c20) ⟨g20_1, o20_1, l20_1⟩ := by
  rw [at20_1]
  exact loop_ok (sub_ok (g := g20_1) (outs := ((.normal, g20_1) :: o20_1)) (f := b20_1) (Table.ok T28_ok _) hmix (q20_1) b20_1_eq) rfl _
noncomputable def f20 (x : gi20.D) : Option go20.D :=
  (if ((decide ((((length x.1) : Nat) : Int) > (1048576 : Int))) = true) then (some ((2 : Int), [], ()))
 else (Option.bind (l20_1 (x.1, (0 : Int), [], ())) (Sum.elim (fun y1 => (if ((length y1.1) = (length y1.1)) then (some ((0 : Int), y1.1, ()))
 else none)) Empty.elim)))
theorem f20_eq (x : gi20.D) : f20 x = evF P (T28.orc _) Try.f20.ntmps fx20 c20 (planAt 64 [([tt, tt, tt, ff, tt, ff], ⟨g20_1, o20_1, l20_1⟩)]) gi20 x (fnK fx20 [go20]) := by kernel_rfl
theorem pf20 : AllSub P Try.f20.ntmps fx20 c20 [([tt, tt, tt, ff, tt, ff], ⟨g20_1, o20_1, l20_1⟩)] := And.intro s20_1_ok (trivial)
theorem qf20 : PlanOk P Try.f20.ntmps fx20 (planAt 64 [([tt, tt, tt, ff, tt, ff], ⟨g20_1, o20_1, l20_1⟩)]) c20 := planAt_ok pf20
theorem f20_ok : EntOk P 20 ⟨gi20, [go20], f20⟩ :=
  ent_ok (fn := Try.f20) (gi := gi20) (gos := [go20]) (f := f20) (c := c20) (fx := fx20) ⟨Try.func20, by kernel_rfl, rfl, by decide +kernel, rfl, rfl⟩ (by kernel_rfl) (Table.ok T28_ok _) hmix (qf20) f20_eq
noncomputable def T20 : Table := T28.add 20 [⟨gi20, [go20], f20⟩] []
theorem T20_ok : TableOk P T20 := Table.plus T28_ok (es := [⟨gi20, [go20], f20⟩]) ⟨f20_ok, trivial⟩ []

noncomputable def c31 : Code := Func.code Try.f31
abbrev gi31 : Sg := ⟨[0], [.agg [.lf (.int .i64), .lf (.int .i64), .lf (.int .i64)]], []⟩
abbrev go31 : Sg := ⟨[2], [.lf .bool], []⟩
def fx31 : List Bool := []
noncomputable def f31 (x : gi31.D) : Option go31.D :=
  (if ((x.2.1 == (0 : Int)) = true) then (if ((x.2.2.1 == (0 : Int)) = true) then (some (((Int.fdiv x.1 (256 : Int)) == (0 : Int)), ()))
 else (some (false, ())))
 else (if ((x.1 == (0 : Int)) = true) then (if ((decide (x.2.1 ≥ (3 : Int))) = true) then (if ((decide (x.2.1 ≤ (258 : Int))) = true) then (if ((decide (x.2.2.1 ≥ (1 : Int))) = true) then (some ((decide (x.2.2.1 ≤ (32768 : Int))), ()))
 else (some (false, ())))
 else (some (false, ())))
 else (some (false, ())))
 else (some (false, ()))))
theorem f31_eq (x : gi31.D) : f31 x = evF P (T20.orc _) Try.f31.ntmps fx31 c31 (planAt 64 []) gi31 x (fnK fx31 [go31]) := by kernel_rfl
theorem f31_ok : EntOk P 31 ⟨gi31, [go31], f31⟩ :=
  ent_ok (fn := Try.f31) (gi := gi31) (gos := [go31]) (f := f31) (c := c31) (fx := fx31) ⟨Try.func31, by kernel_rfl, rfl, by decide +kernel, rfl, rfl⟩ (by kernel_rfl) (Table.ok T20_ok _) hmix (planAt_ok (P := P) (n := Try.f31.ntmps) (fx := fx31) (c := c31) (d := 64) (l := []) trivial) f31_eq
noncomputable def T31 : Table := T20.add 31 [⟨gi31, [go31], f31⟩] []
theorem T31_ok : TableOk P T31 := Table.plus T20_ok (es := [⟨gi31, [go31], f31⟩]) ⟨f31_ok, trivial⟩ []

noncomputable def c30 : Code := Func.code Try.f30
abbrev gi30 : Sg := ⟨[0], [.agg [.lf (.int .i64), .lf (.int .i64), .lf (.int .i64)]], []⟩
abbrev go30 : Sg := ⟨[2], [.lf .bool], []⟩
def fx30 : List Bool := []
noncomputable def f30 (x : gi30.D) : Option go30.D :=
  (Option.bind (f31 (x.1, x.2.1, x.2.2.1, ())) (fun y1 => (some ((Bool.not y1.1), ()))))
theorem f30_eq (x : gi30.D) : f30 x = evF P (T31.orc _) Try.f30.ntmps fx30 c30 (planAt 64 []) gi30 x (fnK fx30 [go30]) := by kernel_rfl
theorem f30_ok : EntOk P 30 ⟨gi30, [go30], f30⟩ :=
  ent_ok (fn := Try.f30) (gi := gi30) (gos := [go30]) (f := f30) (c := c30) (fx := fx30) ⟨Try.func30, by kernel_rfl, rfl, by decide +kernel, rfl, rfl⟩ (by kernel_rfl) (Table.ok T31_ok _) hmix (planAt_ok (P := P) (n := Try.f30.ntmps) (fx := fx30) (c := c30) (d := 64) (l := []) trivial) f30_eq
noncomputable def T30 : Table := T31.add 30 [⟨gi30, [go30], f30⟩] []
theorem T30_ok : TableOk P T30 := Table.plus T31_ok (es := [⟨gi30, [go30], f30⟩]) ⟨f30_ok, trivial⟩ []

noncomputable def c57 : Code := Func.code Try.f57
abbrev gi57 : Sg := ⟨[0], [.agg [.lf (.int .i64), .lf (.int .i64), .lf (.int .i64)]], []⟩
abbrev go57 : Sg := ⟨[2], [.lf .bool], []⟩
def fx57 : List Bool := []
noncomputable def f57 (x : gi57.D) : Option go57.D :=
  (if ((x.2.1 == (0 : Int)) = true) then (if ((x.2.2.1 == (0 : Int)) = true) then (some (((Int.fdiv x.1 (256 : Int)) == (0 : Int)), ()))
 else (some (false, ())))
 else (if ((x.1 == (0 : Int)) = true) then (if ((decide (x.2.1 ≥ (3 : Int))) = true) then (if ((decide (x.2.1 ≤ (258 : Int))) = true) then (if ((decide (x.2.2.1 ≥ (1 : Int))) = true) then (some ((decide (x.2.2.1 ≤ (32768 : Int))), ()))
 else (some (false, ())))
 else (some (false, ())))
 else (some (false, ())))
 else (some (false, ()))))
theorem f57_eq (x : gi57.D) : f57 x = evF P (T30.orc _) Try.f57.ntmps fx57 c57 (planAt 64 []) gi57 x (fnK fx57 [go57]) := by kernel_rfl
theorem f57_ok : EntOk P 57 ⟨gi57, [go57], f57⟩ :=
  ent_ok (fn := Try.f57) (gi := gi57) (gos := [go57]) (f := f57) (c := c57) (fx := fx57) ⟨Try.func57, by kernel_rfl, rfl, by decide +kernel, rfl, rfl⟩ (by kernel_rfl) (Table.ok T30_ok _) hmix (planAt_ok (P := P) (n := Try.f57.ntmps) (fx := fx57) (c := c57) (d := 64) (l := []) trivial) f57_eq
noncomputable def T57 : Table := T30.add 57 [⟨gi57, [go57], f57⟩] []
theorem T57_ok : TableOk P T57 := Table.plus T30_ok (es := [⟨gi57, [go57], f57⟩]) ⟨f57_ok, trivial⟩ []

noncomputable def c56 : Code := Func.code Try.f56
abbrev gi56 : Sg := ⟨[0], [.agg [.lf (.int .i64), .lf (.int .i64), .lf (.int .i64)]], []⟩
abbrev go56 : Sg := ⟨[2], [.lf .bool], []⟩
def fx56 : List Bool := []
noncomputable def f56 (x : gi56.D) : Option go56.D :=
  (Option.bind (f57 (x.1, x.2.1, x.2.2.1, ())) (fun y1 => (some ((Bool.not y1.1), ()))))
theorem f56_eq (x : gi56.D) : f56 x = evF P (T57.orc _) Try.f56.ntmps fx56 c56 (planAt 64 []) gi56 x (fnK fx56 [go56]) := by kernel_rfl
theorem f56_ok : EntOk P 56 ⟨gi56, [go56], f56⟩ :=
  ent_ok (fn := Try.f56) (gi := gi56) (gos := [go56]) (f := f56) (c := c56) (fx := fx56) ⟨Try.func56, by kernel_rfl, rfl, by decide +kernel, rfl, rfl⟩ (by kernel_rfl) (Table.ok T57_ok _) hmix (planAt_ok (P := P) (n := Try.f56.ntmps) (fx := fx56) (c := c56) (d := 64) (l := []) trivial) f56_eq
noncomputable def T56 : Table := T57.add 56 [⟨gi56, [go56], f56⟩] []
theorem T56_ok : TableOk P T56 := Table.plus T57_ok (es := [⟨gi56, [go56], f56⟩]) ⟨f56_ok, trivial⟩ []

noncomputable def c61 : Code := Func.code Try.f61
abbrev gi61 : Sg := ⟨[0, 1], [.lf (.sl (.pair (.int .i64) (.pair (.int .i64) (.int .i64)))), .lf (.fnc 30 [])], []⟩
abbrev go61 : Sg := ⟨[4], [.lf (.int .i64)], []⟩
def fx61 : List Bool := []
abbrev g61_1 : Sg := ⟨[0, 1, 7, 8], [.lf (.sl (.pair (.int .i64) (.pair (.int .i64) (.int .i64)))), .lf (.fnc 30 []), .lf (.int .i64), .lf (.int .i64)], []⟩
abbrev o61_1 : Outs := [(.exit 0, ⟨[], [], []⟩), (.ret, ⟨[4], [.lf (.int .i64)], []⟩)]
noncomputable def b61_1 (x : g61_1.D) : Option (outD ((.normal, g61_1) :: o61_1)) :=
  (if ((decide (x.2.2.1 < x.2.1)) = true) then (if ((0 : Int) ≤ x.2.2.1) then (if (x.2.2.1 < (((length x.1) : Nat) : Int)) then (Option.bind (f30 ((getD x.1 (Int.toNat x.2.2.1) ((0 : Int), (0 : Int), (0 : Int))).1, (getD x.1 (Int.toNat x.2.2.1) ((0 : Int), (0 : Int), (0 : Int))).2.1, (getD x.1 (Int.toNat x.2.2.1) ((0 : Int), (0 : Int), (0 : Int))).2.2, ())) (fun y1 => (if (y1.1 = true) then (some (Sum.inr (Sum.inr (Sum.inl (x.2.2.1, ())))))
 else (some (Sum.inl (x.1, x.2.1, (IntKind.wrap .i64 (x.2.2.1 + (1 : Int))), ()))))))
 else none)
 else none)
 else (some (Sum.inr (Sum.inl ()))))
theorem b61_1_eq (x : g61_1.D) : b61_1 x = evF P (T56.orc _) Try.f61.ntmps fx61 (Code.at [tt, ff, tt, ff, ff] c61) (planAt 64 []) g61_1 x (injK fx61 ((.normal, g61_1) :: o61_1) some) := by kernel_rfl
noncomputable def l61_1 : g61_1.D → Option (outD o61_1) := loopN g61_1 o61_1 b61_1 18446744073709551616
theorem at61_1 : Code.at [tt, ff, tt, ff] c61 = .loop (Code.at [tt, ff, tt, ff, ff] c61) := by kernel_rfl
theorem s61_1_ok : SubOk P Try.f61.ntmps fx61 (Code.at [tt, ff, tt, ff] c61) ⟨g61_1, o61_1, l61_1⟩ := by
  rw [at61_1]
  exact loop_ok (sub_ok (g := g61_1) (outs := ((.normal, g61_1) :: o61_1)) (f := b61_1) (Table.ok T56_ok _) hmix (planAt_ok (P := P) (n := Try.f61.ntmps) (fx := fx61) (c := (Code.at [tt, ff, tt, ff, ff] c61)) (d := 64) (l := []) trivial) b61_1_eq) rfl _
noncomputable def f61 (x : gi61.D) : Option go61.D :=
  (Option.bind (l61_1 (x.1, (((length x.1) : Nat) : Int), (0 : Int), ())) (Sum.elim (fun _ => (some ((-1 : Int), ()))) (Sum.elim (fun y1 => (some (y1.1, ()))) Empty.elim)))
theorem f61_eq (x : gi61.D) : f61 x = evF P (T56.orc _) Try.f61.ntmps fx61 c61 (planAt 64 [([tt, ff, tt, ff], ⟨g61_1, o61_1, l61_1⟩)]) gi61 x (fnK fx61 [go61]) := by kernel_rfl
theorem pf61 : AllSub P Try.f61.ntmps fx61 c61 [([tt, ff, tt, ff], ⟨g61_1, o61_1, l61_1⟩)] := And.intro s61_1_ok (trivial)
theorem qf61 : PlanOk P Try.f61.ntmps fx61 (planAt 64 [([tt, ff, tt, ff], ⟨g61_1, o61_1, l61_1⟩)]) c61 := planAt_ok pf61
theorem f61_ok : EntOk P 61 ⟨gi61, [go61], f61⟩ :=
  ent_ok (fn := Try.f61) (gi := gi61) (gos := [go61]) (f := f61) (c := c61) (fx := fx61) ⟨Try.func61, by kernel_rfl, rfl, by decide +kernel, rfl, rfl⟩ (by kernel_rfl) (Table.ok T56_ok _) hmix (qf61) f61_eq
abbrev gi61_b : Sg := ⟨[0, 1], [.lf (.sl (.pair (.int .i64) (.pair (.int .i64) (.int .i64)))), .lf (.fnc 56 [])], []⟩
abbrev go61_b : Sg := ⟨[4], [.lf (.int .i64)], []⟩
def fx61_b : List Bool := []
abbrev g61_b_1 : Sg := ⟨[0, 1, 7, 8], [.lf (.sl (.pair (.int .i64) (.pair (.int .i64) (.int .i64)))), .lf (.fnc 56 []), .lf (.int .i64), .lf (.int .i64)], []⟩
abbrev o61_b_1 : Outs := [(.exit 0, ⟨[], [], []⟩), (.ret, ⟨[4], [.lf (.int .i64)], []⟩)]
noncomputable def b61_b_1 (x : g61_b_1.D) : Option (outD ((.normal, g61_b_1) :: o61_b_1)) :=
  (if ((decide (x.2.2.1 < x.2.1)) = true) then (if ((0 : Int) ≤ x.2.2.1) then (if (x.2.2.1 < (((length x.1) : Nat) : Int)) then (Option.bind (f56 ((getD x.1 (Int.toNat x.2.2.1) ((0 : Int), (0 : Int), (0 : Int))).1, (getD x.1 (Int.toNat x.2.2.1) ((0 : Int), (0 : Int), (0 : Int))).2.1, (getD x.1 (Int.toNat x.2.2.1) ((0 : Int), (0 : Int), (0 : Int))).2.2, ())) (fun y1 => (if (y1.1 = true) then (some (Sum.inr (Sum.inr (Sum.inl (x.2.2.1, ())))))
 else (some (Sum.inl (x.1, x.2.1, (IntKind.wrap .i64 (x.2.2.1 + (1 : Int))), ()))))))
 else none)
 else none)
 else (some (Sum.inr (Sum.inl ()))))
theorem b61_b_1_eq (x : g61_b_1.D) : b61_b_1 x = evF P (T56.orc _) Try.f61.ntmps fx61_b (Code.at [tt, ff, tt, ff, ff] c61) (planAt 64 []) g61_b_1 x (injK fx61_b ((.normal, g61_b_1) :: o61_b_1) some) := by kernel_rfl
noncomputable def l61_b_1 : g61_b_1.D → Option (outD o61_b_1) := loopN g61_b_1 o61_b_1 b61_b_1 18446744073709551616
theorem at61_b_1 : Code.at [tt, ff, tt, ff] c61 = .loop (Code.at [tt, ff, tt, ff, ff] c61) := by kernel_rfl
theorem s61_b_1_ok : SubOk P Try.f61.ntmps fx61_b (Code.at [tt, ff, tt, ff] c61) ⟨g61_b_1, o61_b_1, l61_b_1⟩ := by
  rw [at61_b_1]
  exact loop_ok (sub_ok (g := g61_b_1) (outs := ((.normal, g61_b_1) :: o61_b_1)) (f := b61_b_1) (Table.ok T56_ok _) hmix (planAt_ok (P := P) (n := Try.f61.ntmps) (fx := fx61_b) (c := (Code.at [tt, ff, tt, ff, ff] c61)) (d := 64) (l := []) trivial) b61_b_1_eq) rfl _
noncomputable def f61_b (x : gi61_b.D) : Option go61_b.D :=
  (Option.bind (l61_b_1 (x.1, (((length x.1) : Nat) : Int), (0 : Int), ())) (Sum.elim (fun _ => (some ((-1 : Int), ()))) (Sum.elim (fun y1 => (some (y1.1, ()))) Empty.elim)))
theorem f61_b_eq (x : gi61_b.D) : f61_b x = evF P (T56.orc _) Try.f61.ntmps fx61_b c61 (planAt 64 [([tt, ff, tt, ff], ⟨g61_b_1, o61_b_1, l61_b_1⟩)]) gi61_b x (fnK fx61_b [go61_b]) := by kernel_rfl
theorem pf61_b : AllSub P Try.f61.ntmps fx61_b c61 [([tt, ff, tt, ff], ⟨g61_b_1, o61_b_1, l61_b_1⟩)] := And.intro s61_b_1_ok (trivial)
theorem qf61_b : PlanOk P Try.f61.ntmps fx61_b (planAt 64 [([tt, ff, tt, ff], ⟨g61_b_1, o61_b_1, l61_b_1⟩)]) c61 := planAt_ok pf61_b
theorem f61_b_ok : EntOk P 61 ⟨gi61_b, [go61_b], f61_b⟩ :=
  ent_ok (fn := Try.f61) (gi := gi61_b) (gos := [go61_b]) (f := f61_b) (c := c61) (fx := fx61_b) ⟨Try.func61, by kernel_rfl, rfl, by decide +kernel, rfl, rfl⟩ (by kernel_rfl) (Table.ok T56_ok _) hmix (qf61_b) f61_b_eq
noncomputable def T61 : Table := T56.add 61 [⟨gi61, [go61], f61⟩, ⟨gi61_b, [go61_b], f61_b⟩] []
theorem T61_ok : TableOk P T61 := Table.plus T56_ok (es := [⟨gi61, [go61], f61⟩, ⟨gi61_b, [go61_b], f61_b⟩]) ⟨f61_ok, f61_b_ok, trivial⟩ []

noncomputable def c29 : Code := Func.code Try.f29
abbrev gi29 : Sg := ⟨[0, 1], [.lf (.sl (.pair (.int .i64) (.pair (.int .i64) (.int .i64)))), .lf (.fnc 30 [])], []⟩
abbrev go29 : Sg := ⟨[4], [.lf .bool], []⟩
def fx29 : List Bool := []
noncomputable def f29 (x : gi29.D) : Option go29.D :=
  (Option.bind (f61 (x.1, ())) (fun y1 => (some ((decide (y1.1 ≥ (0 : Int))), ()))))
theorem f29_eq (x : gi29.D) : f29 x = evF P (T61.orc _) Try.f29.ntmps fx29 c29 (planAt 64 []) gi29 x (fnK fx29 [go29]) := by kernel_rfl
theorem f29_ok : EntOk P 29 ⟨gi29, [go29], f29⟩ :=
  ent_ok (fn := Try.f29) (gi := gi29) (gos := [go29]) (f := f29) (c := c29) (fx := fx29) ⟨Try.func29, by kernel_rfl, rfl, by decide +kernel, rfl, rfl⟩ (by kernel_rfl) (Table.ok T61_ok _) hmix (planAt_ok (P := P) (n := Try.f29.ntmps) (fx := fx29) (c := c29) (d := 64) (l := []) trivial) f29_eq
abbrev gi29_b : Sg := ⟨[0, 1], [.lf (.sl (.pair (.int .i64) (.pair (.int .i64) (.int .i64)))), .lf (.fnc 56 [])], []⟩
abbrev go29_b : Sg := ⟨[4], [.lf .bool], []⟩
def fx29_b : List Bool := []
noncomputable def f29_b (x : gi29_b.D) : Option go29_b.D :=
  (Option.bind (f61_b (x.1, ())) (fun y1 => (some ((decide (y1.1 ≥ (0 : Int))), ()))))
theorem f29_b_eq (x : gi29_b.D) : f29_b x = evF P (T61.orc _) Try.f29.ntmps fx29_b c29 (planAt 64 []) gi29_b x (fnK fx29_b [go29_b]) := by kernel_rfl
theorem f29_b_ok : EntOk P 29 ⟨gi29_b, [go29_b], f29_b⟩ :=
  ent_ok (fn := Try.f29) (gi := gi29_b) (gos := [go29_b]) (f := f29_b) (c := c29) (fx := fx29_b) ⟨Try.func29, by kernel_rfl, rfl, by decide +kernel, rfl, rfl⟩ (by kernel_rfl) (Table.ok T61_ok _) hmix (planAt_ok (P := P) (n := Try.f29.ntmps) (fx := fx29_b) (c := c29) (d := 64) (l := []) trivial) f29_b_eq
noncomputable def T29 : Table := T61.add 29 [⟨gi29, [go29], f29⟩, ⟨gi29_b, [go29_b], f29_b⟩] []
theorem T29_ok : TableOk P T29 := Table.plus T61_ok (es := [⟨gi29, [go29], f29⟩, ⟨gi29_b, [go29_b], f29_b⟩]) ⟨f29_ok, f29_b_ok, trivial⟩ []

noncomputable def c84 : Code := Func.code Try.f84
abbrev gi84 : Sg := ⟨[0, 1], [.lf (.int .u64), .lf (.int .u64)], []⟩
abbrev go84 : Sg := ⟨[4, 5], [.lf (.int .u64), .lf (.int .u64)], []⟩
def fx84 : List Bool := []
noncomputable def f84 (x : gi84.D) : Option go84.D :=
  (some ((IntKind.wrap .u64 ((IntKind.wrap .u64 ((IntKind.wrap .u64 ((Int.fdiv x.1 (4294967296 : Int)) * (Int.fdiv x.2.1 (4294967296 : Int)))) + (Int.fdiv (IntKind.wrap .u64 ((IntKind.wrap .u64 ((Int.fdiv x.1 (4294967296 : Int)) * (IntKind.wrap .u64 (((BitVec.toNat ((BitVec.ofInt 64 x.2.1) &&& (BitVec.ofInt 64 (4294967295 : Int)))) : Nat) : Int)))) + (Int.fdiv (IntKind.wrap .u64 ((IntKind.wrap .u64 (((BitVec.toNat ((BitVec.ofInt 64 x.1) &&& (BitVec.ofInt 64 (4294967295 : Int)))) : Nat) : Int)) * (IntKind.wrap .u64 (((BitVec.toNat ((BitVec.ofInt 64 x.2.1) &&& (BitVec.ofInt 64 (4294967295 : Int)))) : Nat) : Int)))) (4294967296 : Int)))) (4294967296 : Int)))) + (Int.fdiv (IntKind.wrap .u64 ((IntKind.wrap .u64 (((BitVec.toNat ((BitVec.ofInt 64 (IntKind.wrap .u64 ((IntKind.wrap .u64 ((Int.fdiv x.1 (4294967296 : Int)) * (IntKind.wrap .u64 (((BitVec.toNat ((BitVec.ofInt 64 x.2.1) &&& (BitVec.ofInt 64 (4294967295 : Int)))) : Nat) : Int)))) + (Int.fdiv (IntKind.wrap .u64 ((IntKind.wrap .u64 (((BitVec.toNat ((BitVec.ofInt 64 x.1) &&& (BitVec.ofInt 64 (4294967295 : Int)))) : Nat) : Int)) * (IntKind.wrap .u64 (((BitVec.toNat ((BitVec.ofInt 64 x.2.1) &&& (BitVec.ofInt 64 (4294967295 : Int)))) : Nat) : Int)))) (4294967296 : Int))))) &&& (BitVec.ofInt 64 (4294967295 : Int)))) : Nat) : Int)) + (IntKind.wrap .u64 ((IntKind.wrap .u64 (((BitVec.toNat ((BitVec.ofInt 64 x.1) &&& (BitVec.ofInt 64 (4294967295 : Int)))) : Nat) : Int)) * (Int.fdiv x.2.1 (4294967296 : Int)))))) (4294967296 : Int)))), (IntKind.wrap .u64 (x.1 * x.2.1)), ()))
theorem f84_eq (x : gi84.D) : f84 x = evF P (T29.orc _) Try.f84.ntmps fx84 c84 (planAt 64 []) gi84 x (fnK fx84 [go84]) := by kernel_rfl
theorem f84_ok : EntOk P 84 ⟨gi84, [go84], f84⟩ :=
  ent_ok (fn := Try.f84) (gi := gi84) (gos := [go84]) (f := f84) (c := c84) (fx := fx84) ⟨Try.func84, by kernel_rfl, rfl, by decide +kernel, rfl, rfl⟩ (by kernel_rfl) (Table.ok T29_ok _) hmix (planAt_ok (P := P) (n := Try.f84.ntmps) (fx := fx84) (c := c84) (d := 64) (l := []) trivial) f84_eq
noncomputable def T84 : Table := T29.add 84 [⟨gi84, [go84], f84⟩] []
theorem T84_ok : TableOk P T84 := Table.plus T29_ok (es := [⟨gi84, [go84], f84⟩]) ⟨f84_ok, trivial⟩ []

noncomputable def c64 : Code := Func.code Try.f64
abbrev gi64 : Sg := ⟨[0, 1], [.lf (.int .u64), .lf (.int .u64)], []⟩
abbrev go64 : Sg := ⟨[4, 5], [.lf (.int .u64), .lf (.int .u64)], []⟩
def fx64 : List Bool := []
noncomputable def f64 (x : gi64.D) : Option go64.D :=
  (Option.bind (f84 (x.1, x.2.1, ())) (fun y1 => (some (y1.1, y1.2.1, ()))))
theorem f64_eq (x : gi64.D) : f64 x = evF P (T84.orc _) Try.f64.ntmps fx64 c64 (planAt 64 []) gi64 x (fnK fx64 [go64]) := by kernel_rfl
theorem f64_ok : EntOk P 64 ⟨gi64, [go64], f64⟩ :=
  ent_ok (fn := Try.f64) (gi := gi64) (gos := [go64]) (f := f64) (c := c64) (fx := fx64) ⟨Try.func64, by kernel_rfl, rfl, by decide +kernel, rfl, rfl⟩ (by kernel_rfl) (Table.ok T84_ok _) hmix (planAt_ok (P := P) (n := Try.f64.ntmps) (fx := fx64) (c := c64) (d := 64) (l := []) trivial) f64_eq
noncomputable def T64 : Table := T84.add 64 [⟨gi64, [go64], f64⟩] []
theorem T64_ok : TableOk P T64 := Table.plus T84_ok (es := [⟨gi64, [go64], f64⟩]) ⟨f64_ok, trivial⟩ []

noncomputable def c34 : Code := Func.code Try.f34
abbrev gi34 : Sg := ⟨[0, 1], [.lf (.sl (.int .i64)), .lf (.int .i64)], []⟩
abbrev go34 : Sg := ⟨[4], [.lf (.gr (.int .i64) 0)], [some (.arr true (.int .i64))]⟩
def fx34 : List Bool := []
abbrev g34_1 : Sg := ⟨[7, 8], [.lf (.gr (.int .i64) 0), .lf (.int .i64)], [some (.arr true (.int .i64))]⟩
abbrev o34_1 : Outs := [(.exit 0, ⟨[7], [.lf (.gr (.int .i64) 0)], [some (.arr true (.int .i64))]⟩)]
noncomputable def b34_1 (x : g34_1.D) : Option (outD ((.normal, g34_1) :: o34_1)) :=
  (if ((decide (x.1 < (((length x.2.1) : Nat) : Int))) = true) then (if ((0 : Int) ≤ x.1) then (if (x.1 ≤ (((length x.2.1) : Nat) : Int)) then (if ((0 : Int) ≤ x.1) then (if (x.1 ≤ (((length x.2.1) : Nat) : Int)) then (if ((Min.min (length (take ((Int.toNat x.1) - 0) (drop 0 x.2.1))) ((length x.2.1) - (Int.toNat x.1))) = 0) then (if ((length x.2.1) = (length x.2.1)) then (some (Sum.inl ((IntKind.wrap .i64 (x.1 + (0 : Int))), x.2.1, ())))
 else none)
 else (if ((length x.2.1) = (length ((take (0 + (Int.toNat x.1)) x.2.1) ++ ((take (Min.min (length (take ((Int.toNat x.1) - 0) (drop 0 x.2.1))) ((length x.2.1) - (Int.toNat x.1))) (take ((Int.toNat x.1) - 0) (drop 0 x.2.1))) ++ (drop ((0 + (Int.toNat x.1)) + (Min.min (length (take ((Int.toNat x.1) - 0) (drop 0 x.2.1))) ((length x.2.1) - (Int.toNat x.1)))) x.2.1))))) then (some (Sum.inl ((IntKind.wrap .i64 (x.1 + (((Min.min (length (take ((Int.toNat x.1) - 0) (drop 0 x.2.1))) ((length x.2.1) - (Int.toNat x.1))) : Nat) : Int))), ((take (0 + (Int.toNat x.1)) x.2.1) ++ ((take (Min.min (length (take ((Int.toNat x.1) - 0) (drop 0 x.2.1))) ((length x.2.1) - (Int.toNat x.1))) (take ((Int.toNat x.1) - 0) (drop 0 x.2.1))) ++ (drop ((0 + (Int.toNat x.1)) + (Min.min (length (take ((Int.toNat x.1) - 0) (drop 0 x.2.1))) ((length x.2.1) - (Int.toNat x.1)))) x.2.1))), ())))
 else none))
 else none)
 else none)
 else none)
 else none)
 else (if ((length x.2.1) = (length x.2.1)) then (some (Sum.inr (Sum.inl (x.2.1, ()))))
 else none))
theorem b34_1_eq (x : g34_1.D) : b34_1 x = evF P (T64.orc _) Try.f34.ntmps fx34 (Code.at [tt, tt, tt, tt, tt, tt, ff, ff, ff] c34) (planAt 64 []) g34_1 x (injK fx34 ((.normal, g34_1) :: o34_1) some) := by kernel_rfl
noncomputable def l34_1 : g34_1.D → Option (outD o34_1) := loopN g34_1 o34_1 b34_1 18446744073709551616
theorem at34_1 : Code.at [tt, tt, tt, tt, tt, tt, ff, ff] c34 = .loop (Code.at [tt, tt, tt, tt, tt, tt, ff, ff, ff] c34) := by kernel_rfl
theorem s34_1_ok : SubOk P Try.f34.ntmps fx34 (Code.at [tt, tt, tt, tt, tt, tt, ff, ff] c34) ⟨g34_1, o34_1, l34_1⟩ := by
  rw [at34_1]
  exact loop_ok (sub_ok (g := g34_1) (outs := ((.normal, g34_1) :: o34_1)) (f := b34_1) (Table.ok T64_ok _) hmix (planAt_ok (P := P) (n := Try.f34.ntmps) (fx := fx34) (c := (Code.at [tt, tt, tt, tt, tt, tt, ff, ff, ff] c34)) (d := 64) (l := []) trivial) b34_1_eq) rfl _
noncomputable def f34 (x : gi34.D) : Option go34.D :=
  (if ((decide (x.2.1 < (0 : Int))) = true) then none
 else (Option.bind (f64 ((IntKind.wrap .u64 (((length x.1) : Nat) : Int)), (IntKind.wrap .u64 x.2.1), ())) (fun y1 => (if ((decide (y1.1 > (0 : Int))) = true) then none
 else (if ((decide (y1.2.1 > (9223372036854775807 : Int))) = true) then none
 else (if ((0 : Int) ≤ (IntKind.wrap .i64 y1.2.1)) then (if ((IntKind.wrap .i64 y1.2.1) ≤ (IntKind.wrap .i64 y1.2.1)) then (if ((IntKind.wrap .i64 y1.2.1) ≤ (35184372088832 : Int)) then (if ((Min.min (length x.1) (Int.toNat (IntKind.wrap .i64 y1.2.1))) = 0) then (if ((Int.toNat (IntKind.wrap .i64 y1.2.1)) = (length (replicate (Int.toNat (IntKind.wrap .i64 y1.2.1)) (0 : Int)))) then (Option.bind (l34_1 ((0 : Int), (replicate (Int.toNat (IntKind.wrap .i64 y1.2.1)) (0 : Int)), ())) (Sum.elim (fun y2 => (if ((length y2.1) = (length y2.1)) then (some (y2.1, ()))
 else none)) Empty.elim))
 else none)
 else (if ((Int.toNat (IntKind.wrap .i64 y1.2.1)) = (length ((take 0 (replicate (Int.toNat (IntKind.wrap .i64 y1.2.1)) (0 : Int))) ++ ((take (Min.min (length x.1) (Int.toNat (IntKind.wrap .i64 y1.2.1))) x.1) ++ (drop (0 + (Min.min (length x.1) (Int.toNat (IntKind.wrap .i64 y1.2.1)))) (replicate (Int.toNat (IntKind.wrap .i64 y1.2.1)) (0 : Int))))))) then (Option.bind (l34_1 ((((Min.min (length x.1) (Int.toNat (IntKind.wrap .i64 y1.2.1))) : Nat) : Int), ((take 0 (replicate (Int.toNat (IntKind.wrap .i64 y1.2.1)) (0 : Int))) ++ ((take (Min.min (length x.1) (Int.toNat (IntKind.wrap .i64 y1.2.1))) x.1) ++ (drop (0 + (Min.min (length x.1) (Int.toNat (IntKind.wrap .i64 y1.2.1)))) (replicate (Int.toNat (IntKind.wrap .i64 y1.2.1)) (0 : Int))))), ())) (Sum.elim (fun y2 => (if ((length y2.1) = (length y2.1)) then (some (y2.1, ()))
 else none)) Empty.elim))
 else none))
 else none)
 else none)
 else none))))))
theorem f34_eq (x : gi34.D) : f34 x = evF P (T64.orc _) Try.f34.ntmps fx34 c34 (planAt 64 [([tt, tt, tt, tt, tt, tt, ff, ff], ⟨g34_1, o34_1, l34_1⟩)]) gi34 x (fnK fx34 [go34]) := by kernel_rfl
theorem pf34 : AllSub P Try.f34.ntmps fx34 c34 [([tt, tt, tt, tt, tt, tt, ff, ff], ⟨g34_1, o34_1, l34_1⟩)] := And.intro s34_1_ok (trivial)
theorem qf34 : PlanOk P Try.f34.ntmps fx34 (planAt 64 [([tt, tt, tt, tt, tt, tt, ff, ff], ⟨g34_1, o34_1, l34_1⟩)]) c34 := planAt_ok pf34
theorem f34_ok : EntOk P 34 ⟨gi34, [go34], f34⟩ :=
  ent_ok (fn := Try.f34) (gi := gi34) (gos := [go34]) (f := f34) (c := c34) (fx := fx34) ⟨Try.func34, by kernel_rfl, rfl, by decide +kernel, rfl, rfl⟩ (by kernel_rfl) (Table.ok T64_ok _) hmix (qf34) f34_eq
noncomputable def T34 : Table := T64.add 34 [⟨gi34, [go34], f34⟩] []
theorem T34_ok : TableOk P T34 := Table.plus T64_ok (es := [⟨gi34, [go34], f34⟩]) ⟨f34_ok, trivial⟩ []

noncomputable def c33 : Code := Func.code Try.f33
abbrev gi33 : Sg := ⟨[], [], []⟩
abbrev go33 : Sg := ⟨[0], [.lf (.gr (.int .i64) 0)], [some (.arr true (.int .i64))]⟩
def fx33 : List Bool := []
abbrev g33_1 : Sg := ⟨[1, 2], [.lf (.gr (.int .i64) 0), .lf (.int .i64)], [some (.arr true (.int .i64))]⟩
abbrev o33_1 : Outs := [(.exit 0, ⟨[1], [.lf (.gr (.int .i64) 0)], [some (.arr true (.int .i64))]⟩)]
noncomputable def b33_1 (x : g33_1.D) : Option (outD ((.normal, g33_1) :: o33_1)) :=
  (if ((decide (x.1 < (280 : Int))) = true) then (if ((0 : Int) ≤ x.1) then (if (x.1 < (((length x.2.1) : Nat) : Int)) then (if ((decide (x.1 > (255 : Int))) = true) then (if ((0 : Int) ≤ x.1) then (if (x.1 < (((length x.2.1) : Nat) : Int)) then (if ((length x.2.1) = (length (List.set (List.set x.2.1 (0 + (Int.toNat x.1)) (9 : Int)) (0 + (Int.toNat x.1)) (7 : Int)))) then (some (Sum.inl ((IntKind.wrap .i64 (x.1 + (1 : Int))), (List.set (List.set x.2.1 (0 + (Int.toNat x.1)) (9 : Int)) (0 + (Int.toNat x.1)) (7 : Int)), ())))
 else none)
 else none)
 else none)
 else (if ((length x.2.1) = (length (List.set x.2.1 (0 + (Int.toNat x.1)) (9 : Int)))) then (some (Sum.inl ((IntKind.wrap .i64 (x.1 + (1 : Int))), (List.set x.2.1 (0 + (Int.toNat x.1)) (9 : Int)), ())))
 else none))
 else none)
 else none)
 else (if ((length x.2.1) = (length x.2.1)) then (some (Sum.inr (Sum.inl (x.2.1, ()))))
 else none))
theorem b33_1_eq (x : g33_1.D) : b33_1 x = evF P (T34.orc _) Try.f33.ntmps fx33 (Code.at [tt, tt, ff, tt, ff, ff] c33) (planAt 64 []) g33_1 x (injK fx33 ((.normal, g33_1) :: o33_1) some) := by kernel_rfl
noncomputable def l33_1 : g33_1.D → Option (outD o33_1) := loopN g33_1 o33_1 b33_1 18446744073709551616
theorem at33_1 : Code.at [tt, tt, ff, tt, ff] c33 = .loop (Code.at [tt, tt, ff, tt, ff, ff] c33) := by kernel_rfl
theorem s33_1_ok : SubOk P Try.f33.ntmps fx33 (Code.at [tt, tt, ff, tt, ff] c33) ⟨g33_1, o33_1, l33_1⟩ := by
  rw [at33_1]
  exact loop_ok (sub_ok (g := g33_1) (outs := ((.normal, g33_1) :: o33_1)) (f := b33_1) (Table.ok T34_ok _) hmix (planAt_ok (P := P) (n := Try.f33.ntmps) (fx := fx33) (c := (Code.at [tt, tt, ff, tt, ff, ff] c33)) (d := 64) (l := []) trivial) b33_1_eq) rfl _
noncomputable def f33 (_ : gi33.D) : Option go33.D :=
  (Option.bind (f34 ((take 1 (drop 0 (List.set (replicate 1 (0 : Int)) 0 (8 : Int)))), (288 : Int), ())) (fun y1 => (if ((length y1.1) = (length y1.1)) then (Option.bind (l33_1 ((144 : Int), y1.1, ())) (Sum.elim (fun y2 => (if ((length y2.1) = (length y2.1)) then (some (y2.1, ()))
 else none)) Empty.elim))
 else none)))
theorem f33_eq (x : gi33.D) : f33 x = evF P (T34.orc _) Try.f33.ntmps fx33 c33 (planAt 64 [([tt, tt, ff, tt, ff], ⟨g33_1, o33_1, l33_1⟩)]) gi33 x (fnK fx33 [go33]) := by kernel_rfl
theorem pf33 : AllSub P Try.f33.ntmps fx33 c33 [([tt, tt, ff, tt, ff], ⟨g33_1, o33_1, l33_1⟩)] := And.intro s33_1_ok (trivial)
theorem qf33 : PlanOk P Try.f33.ntmps fx33 (planAt 64 [([tt, tt, ff, tt, ff], ⟨g33_1, o33_1, l33_1⟩)]) c33 := planAt_ok pf33
theorem f33_ok : EntOk P 33 ⟨gi33, [go33], f33⟩ :=
  ent_ok (fn := Try.f33) (gi := gi33) (gos := [go33]) (f := f33) (c := c33) (fx := fx33) ⟨Try.func33, by kernel_rfl, rfl, by decide +kernel, rfl, rfl⟩ (by kernel_rfl) (Table.ok T34_ok _) hmix (qf33) f33_eq
noncomputable def T33 : Table := T34.add 33 [⟨gi33, [go33], f33⟩] []
theorem T33_ok : TableOk P T33 := Table.plus T34_ok (es := [⟨gi33, [go33], f33⟩]) ⟨f33_ok, trivial⟩ []

noncomputable def c82 : Code := Func.code Try.f82
abbrev gi82 : Sg := ⟨[0], [.lf (.sl (.int .i64))], []⟩
abbrev go82 : Sg := ⟨[0, 3], [.agg [.many (.int .i64) 16], .lf (.int .i64)], []⟩
def fx82 : List Bool := []
abbrev g82_1 : Sg := ⟨[2, 4, 5, 12, 13, 14], [.lf (.ptr 0 0), .lf (.ptr 1 0), .lf (.int .i64), .lf (.sl (.int .i64)), .lf (.int .i64), .lf (.int .i64)], [some (.box true [.many (.int .i64) 16]), some (.box true [.many (.int .i64) 16])]⟩
abbrev o82_1 : Outs := [(.exit 0, ⟨[2, 4, 5], [.lf (.ptr 0 0), .lf (.ptr 1 0), .lf (.int .i64)], [some (.box true [.many (.int .i64) 16]), some (.box true [.many (.int .i64) 16])]⟩), (.ret, ⟨[2, 3], [.lf (.ptr 0 0), .lf (.int .i64)], [some (.box true [.many (.int .i64) 16])]⟩)]
noncomputable def b82_1 (x : g82_1.D) : Option (outD ((.normal, g82_1) :: o82_1)) :=
  (if ((decide (x.2.2.2.1 < x.2.2.1)) = true) then (if ((0 : Int) ≤ x.2.2.2.1) then (if (x.2.2.2.1 < (((length x.2.1) : Nat) : Int)) then (if ((decide ((getD x.2.1 (Int.toNat x.2.2.2.1) (0 : Int)) < (0 : Int))) = true) then (some (Sum.inr (Sum.inr (Sum.inl ((1 : Int), x.2.2.2.2.2.1, ())))))
 else (if ((decide ((getD x.2.1 (Int.toNat x.2.2.2.1) (0 : Int)) > (15 : Int))) = true) then (some (Sum.inr (Sum.inr (Sum.inl ((1 : Int), x.2.2.2.2.2.1, ())))))
 else (if ((decide ((getD x.2.1 (Int.toNat x.2.2.2.1) (0 : Int)) > (0 : Int))) = true) then (if ((0 : Int) ≤ (getD x.2.1 (Int.toNat x.2.2.2.1) (0 : Int))) then (if ((getD x.2.1 (Int.toNat x.2.2.2.1) (0 : Int)) < (16 : Int)) then (if ((0 : Int) ≤ (getD x.2.1 (Int.toNat x.2.2.2.1) (0 : Int))) then (if ((getD x.2.1 (Int.toNat x.2.2.2.1) (0 : Int)) < (16 : Int)) then (if ((getD x.2.1 (Int.toNat x.2.2.2.1) (0 : Int)) < (0 : Int)) then none
 else (some (Sum.inl ((IntKind.wrap .i64 (x.1 + (Int.fdiv (32768 : Int) ((2 : Int) ^ (Min.min (Int.toNat (getD x.2.1 (Int.toNat x.2.2.2.1) (0 : Int))) 64))))), x.2.1, x.2.2.1, (IntKind.wrap .i64 (x.2.2.2.1 + (1 : Int))), x.2.2.2.2.1, (List.set x.2.2.2.2.2.1 (Int.toNat (getD x.2.1 (Int.toNat x.2.2.2.1) (0 : Int))) (IntKind.wrap .i64 ((getD x.2.2.2.2.2.1 (Int.toNat (getD x.2.1 (Int.toNat x.2.2.2.1) (0 : Int))) (0 : Int)) + (1 : Int)))), ()))))
 else none)
 else none)
 else none)
 else none)
 else (some (Sum.inl (x.1, x.2.1, x.2.2.1, (IntKind.wrap .i64 (x.2.2.2.1 + (1 : Int))), x.2.2.2.2.1, x.2.2.2.2.2.1, ()))))))
 else none)
 else none)
 else (some (Sum.inr (Sum.inl (x.1, x.2.2.2.2.1, x.2.2.2.2.2.1, ())))))
theorem b82_1_eq (x : g82_1.D) : b82_1 x = evF P (T33.orc _) Try.f82.ntmps fx82 (Code.at [tt, tt, tt, tt, ff, tt, ff, ff] c82) (planAt 64 []) g82_1 x (injK fx82 ((.normal, g82_1) :: o82_1) some) := by kernel_rfl
noncomputable def l82_1 : g82_1.D → Option (outD o82_1) := loopN g82_1 o82_1 b82_1 18446744073709551616
theorem at82_1 : Code.at [tt, tt, tt, tt, ff, tt, ff] c82 = .loop (Code.at [tt, tt, tt, tt, ff, tt, ff, ff] c82) := by kernel_rfl
theorem s82_1_ok : SubOk P Try.f82.ntmps fx82 (Code.at [tt, tt, tt, tt, ff, tt, ff] c82) ⟨g82_1, o82_1, l82_1⟩ := by
  rw [at82_1]
  exact loop_ok (sub_ok (g := g82_1) (outs := ((.normal, g82_1) :: o82_1)) (f := b82_1) (Table.ok T33_ok _) hmix (planAt_ok (P := P) (n := Try.f82.ntmps) (fx := fx82) (c := (Code.at [tt, tt, tt, tt, ff, tt, ff, ff] c82)) (d := 64) (l := []) trivial) b82_1_eq) rfl _
noncomputable def f82 (x : gi82.D) : Option go82.D :=
  (if ((decide ((((length x.1) : Nat) : Int) > (320 : Int))) = true) then (some ((replicate 16 (0 : Int)), (1 : Int), ()))
 else (Option.bind (l82_1 ((0 : Int), x.1, (((length x.1) : Nat) : Int), (0 : Int), (replicate 16 (0 : Int)), (replicate 16 (0 : Int)), ())) (Sum.elim (fun y1 => (if ((decide (y1.1 > (32768 : Int))) = true) then (some (y1.2.2.1, (4 : Int), ()))
 else (some (y1.2.2.1, (0 : Int), ())))) (Sum.elim (fun y1 => (some (y1.2.1, y1.1, ()))) Empty.elim))))
theorem f82_eq (x : gi82.D) : f82 x = evF P (T33.orc _) Try.f82.ntmps fx82 c82 (planAt 64 [([tt, tt, tt, tt, ff, tt, ff], ⟨g82_1, o82_1, l82_1⟩)]) gi82 x (fnKR P Try.f82 fx82 [go82]) := by kernel_rfl
theorem pf82 : AllSub P Try.f82.ntmps fx82 c82 [([tt, tt, tt, tt, ff, tt, ff], ⟨g82_1, o82_1, l82_1⟩)] := And.intro s82_1_ok (trivial)
theorem qf82 : PlanOk P Try.f82.ntmps fx82 (planAt 64 [([tt, tt, tt, tt, ff, tt, ff], ⟨g82_1, o82_1, l82_1⟩)]) c82 := planAt_ok pf82
theorem f82_ok : EntOk P 82 ⟨gi82, [go82], f82⟩ :=
  ent_okR (fn := Try.f82) (gi := gi82) (gos := [go82]) (f := f82) (c := c82) (fx := fx82) ⟨Try.func82, by kernel_rfl, rfl, by decide +kernel, rfl, rfl⟩ (Table.ok T33_ok _) hmix (qf82) f82_eq
noncomputable def T82 : Table := T33.add 82 [⟨gi82, [go82], f82⟩] []
theorem T82_ok : TableOk P T82 := Table.plus T33_ok (es := [⟨gi82, [go82], f82⟩]) ⟨f82_ok, trivial⟩ []

noncomputable def c62 : Code := Func.code Try.f62
abbrev gi62 : Sg := ⟨[0], [.lf (.sl (.int .i64))], []⟩
abbrev go62 : Sg := ⟨[2, 3], [.lf (.gr (.int .i64) 0), .lf (.int .i64)], [some (.arr true (.int .i64))]⟩
def fx62 : List Bool := []
abbrev g62_2 : Sg := ⟨[6, 8, 37, 38, 39], [.lf (.ptr 0 0), .lf (.gr (.int .i64) 1), .lf (.sl (.int .i64)), .lf (.int .i64), .lf (.int .i64)], [some (.box true [.many (.int .i64) 16]), some (.arr true (.int .i64))]⟩
abbrev o62_2 : Outs := [(.exit 2, ⟨[8], [.lf (.gr (.int .i64) 0)], [some (.arr true (.int .i64))]⟩)]
noncomputable def b62_2 (x : g62_2.D) : Option (outD ((.normal, g62_2) :: o62_2)) :=
  (if ((decide (x.2.2.1 < x.2.1)) = true) then (if ((0 : Int) ≤ x.2.2.1) then (if (x.2.2.1 < (((length x.1) : Nat) : Int)) then (if ((decide ((getD x.1 (Int.toNat x.2.2.1) (0 : Int)) > (0 : Int))) = true) then (if ((0 : Int) ≤ (getD x.1 (Int.toNat x.2.2.1) (0 : Int))) then (if ((getD x.1 (Int.toNat x.2.2.1) (0 : Int)) < (16 : Int)) then (if ((0 : Int) ≤ x.2.2.1) then (if (x.2.2.1 < (((length x.2.2.2.2.1) : Nat) : Int)) then (if ((0 : Int) ≤ (getD x.1 (Int.toNat x.2.2.1) (0 : Int))) then (if ((getD x.1 (Int.toNat x.2.2.1) (0 : Int)) < (16 : Int)) then (if ((0 : Int) ≤ (getD x.1 (Int.toNat x.2.2.1) (0 : Int))) then (if ((getD x.1 (Int.toNat x.2.2.1) (0 : Int)) < (16 : Int)) then (if ((length x.2.2.2.2.1) = (length (List.set x.2.2.2.2.1 (0 + (Int.toNat x.2.2.1)) (getD x.2.2.2.1 (Int.toNat (getD x.1 (Int.toNat x.2.2.1) (0 : Int))) (0 : Int))))) then (some (Sum.inl (x.1, x.2.1, (IntKind.wrap .i64 (x.2.2.1 + (1 : Int))), (List.set x.2.2.2.1 (Int.toNat (getD x.1 (Int.toNat x.2.2.1) (0 : Int))) (IntKind.wrap .i64 ((getD x.2.2.2.1 (Int.toNat (getD x.1 (Int.toNat x.2.2.1) (0 : Int))) (0 : Int)) + (1 : Int)))), (List.set x.2.2.2.2.1 (0 + (Int.toNat x.2.2.1)) (getD x.2.2.2.1 (Int.toNat (getD x.1 (Int.toNat x.2.2.1) (0 : Int))) (0 : Int))), ())))
 else none)
 else none)
 else none)
 else none)
 else none)
 else none)
 else none)
 else none)
 else none)
 else (if ((length x.2.2.2.2.1) = (length x.2.2.2.2.1)) then (some (Sum.inl (x.1, x.2.1, (IntKind.wrap .i64 (x.2.2.1 + (1 : Int))), x.2.2.2.1, x.2.2.2.2.1, ())))
 else none))
 else none)
 else none)
 else (if ((length x.2.2.2.2.1) = (length x.2.2.2.2.1)) then (some (Sum.inr (Sum.inl (x.2.2.2.2.1, ()))))
 else none))
theorem b62_2_eq (x : g62_2.D) : b62_2 x = evF P (T82.orc _) Try.f62.ntmps fx62 (Code.at [tt, tt, tt, tt, tt, tt, ff, tt, ff, ff] c62) (planAt 64 []) g62_2 x (injK fx62 ((.normal, g62_2) :: o62_2) some) := by kernel_rfl
noncomputable def l62_2 : g62_2.D → Option (outD o62_2) := loopN g62_2 o62_2 b62_2 18446744073709551616
theorem at62_2 : Code.at [tt, tt, tt, tt, tt, tt, ff, tt, ff] c62 = .loop (Code.at [tt, tt, tt, tt, tt, tt, ff, tt, ff, ff] c62) := by kernel_rfl
theorem s62_2_ok : SubOk P Try.f62.ntmps fx62 (Code.at [tt, tt, tt, tt, tt, tt, ff, tt, ff] c62) ⟨g62_2, o62_2, l62_2⟩ := by
  rw [at62_2]
  exact loop_ok (sub_ok (g := g62_2) (outs := ((.normal, g62_2) :: o62_2)) (f := b62_2) (Table.ok T82_ok _) hmix (planAt_ok (P := P) (n := Try.f62.ntmps) (fx := fx62) (c := (Code.at [tt, tt, tt, tt, tt, tt, ff, tt, ff, ff] c62)) (d := 64) (l := []) trivial) b62_2_eq) rfl _
abbrev g62_1 : Sg := ⟨[0, 4, 6, 7], [.lf (.sl (.int .i64)), .lf (.ptr 0 0), .lf (.ptr 1 0), .lf (.int .i64)], [some (.box true [.many (.int .i64) 16]), some (.box true [.many (.int .i64) 16])]⟩
abbrev o62_1 : Outs := [(.exit 0, ⟨[0, 6], [.lf (.sl (.int .i64)), .lf (.ptr 0 0)], [some (.box true [.many (.int .i64) 16])]⟩)]
noncomputable def b62_1 (x : g62_1.D) : Option (outD ((.normal, g62_1) :: o62_1)) :=
  (if ((decide (x.2.1 < (15 : Int))) = true) then (if ((0 : Int) ≤ x.2.1) then (if (x.2.1 < (16 : Int)) then (if ((0 : Int) ≤ x.2.1) then (if (x.2.1 < (16 : Int)) then (if ((0 : Int) ≤ (IntKind.wrap .i64 (x.2.1 + (1 : Int)))) then (if ((IntKind.wrap .i64 (x.2.1 + (1 : Int))) < (16 : Int)) then (some (Sum.inl (x.1, (IntKind.wrap .i64 (x.2.1 + (1 : Int))), x.2.2.1, (List.set x.2.2.2.1 (Int.toNat (IntKind.wrap .i64 (x.2.1 + (1 : Int)))) (IntKind.wrap .i64 ((IntKind.wrap .i64 ((getD x.2.2.2.1 (Int.toNat x.2.1) (0 : Int)) + (getD x.2.2.1 (Int.toNat x.2.1) (0 : Int)))) * (2 : Int)))), ())))
 else none)
 else none)
 else none)
 else none)
 else none)
 else none)
 else (some (Sum.inr (Sum.inl (x.1, x.2.2.2.1, ())))))
theorem b62_1_eq (x : g62_1.D) : b62_1 x = evF P (T82.orc _) Try.f62.ntmps fx62 (Code.at [tt, tt, tt, tt, ff, tt, ff, ff] c62) (planAt 64 []) g62_1 x (injK fx62 ((.normal, g62_1) :: o62_1) some) := by kernel_rfl
noncomputable def l62_1 : g62_1.D → Option (outD o62_1) := loopN g62_1 o62_1 b62_1 18446744073709551616
theorem at62_1 : Code.at [tt, tt, tt, tt, ff, tt, ff] c62 = .loop (Code.at [tt, tt, tt, tt, ff, tt, ff, ff] c62) := by kernel_rfl
theorem s62_1_ok : SubOk P Try.f62.ntmps fx62 (Code.at [tt, tt, tt, tt, ff, tt, ff] c62) ⟨g62_1, o62_1, l62_1⟩ := by
  rw [at62_1]
  exact loop_ok (sub_ok (g := g62_1) (outs := ((.normal, g62_1) :: o62_1)) (f := b62_1) (Table.ok T82_ok _) hmix (planAt_ok (P := P) (n := Try.f62.ntmps) (fx := fx62) (c := (Code.at [tt, tt, tt, tt, ff, tt, ff, ff] c62)) (d := 64) (l := []) trivial) b62_1_eq) rfl _
noncomputable def f62 (x : gi62.D) : Option go62.D :=
  (Option.bind (f82 (x.1, ())) (fun y1 => (if ((y1.2.1 != (0 : Int)) = true) then (some (y1.2.1, [], ()))
 else (Option.bind (l62_1 (x.1, (1 : Int), y1.1, (replicate 16 (0 : Int)), ())) (Sum.elim (fun y2 => (if ((((length y2.1) : Nat) : Int) ≤ (((length y2.1) : Nat) : Int)) then (if ((((length y2.1) : Nat) : Int) ≤ (35184372088832 : Int)) then (if ((Int.toNat (((length y2.1) : Nat) : Int)) = (length (replicate (Int.toNat (((length y2.1) : Nat) : Int)) (0 : Int)))) then (Option.bind (l62_2 (y2.1, (((length y2.1) : Nat) : Int), (0 : Int), y2.2.1, (replicate (Int.toNat (((length y2.1) : Nat) : Int)) (0 : Int)), ())) (Sum.elim (fun y3 => (if ((length y3.1) = (length y3.1)) then (some ((0 : Int), y3.1, ()))
 else none)) Empty.elim))
 else none)
 else none)
 else none)) Empty.elim)))))
theorem f62_eq (x : gi62.D) : f62 x = evF P (T82.orc _) Try.f62.ntmps fx62 c62 (planAt 64 [([tt, tt, tt, tt, ff, tt, ff], ⟨g62_1, o62_1, l62_1⟩), ([tt, tt, tt, tt, tt, tt, ff, tt, ff], ⟨g62_2, o62_2, l62_2⟩)]) gi62 x (fnK fx62 [go62]) := by kernel_rfl
theorem pf62 : AllSub P Try.f62.ntmps fx62 c62 [([tt, tt, tt, tt, ff, tt, ff], ⟨g62_1, o62_1, l62_1⟩), ([tt, tt, tt, tt, tt, tt, ff, tt, ff], ⟨g62_2, o62_2, l62_2⟩)] := And.intro s62_1_ok (And.intro s62_2_ok (trivial))
theorem qf62 : PlanOk P Try.f62.ntmps fx62 (planAt 64 [([tt, tt, tt, tt, ff, tt, ff], ⟨g62_1, o62_1, l62_1⟩), ([tt, tt, tt, tt, tt, tt, ff, tt, ff], ⟨g62_2, o62_2, l62_2⟩)]) c62 := planAt_ok pf62
theorem f62_ok : EntOk P 62 ⟨gi62, [go62], f62⟩ :=
  ent_ok (fn := Try.f62) (gi := gi62) (gos := [go62]) (f := f62) (c := c62) (fx := fx62) ⟨Try.func62, by kernel_rfl, rfl, by decide +kernel, rfl, rfl⟩ (by kernel_rfl) (Table.ok T82_ok _) hmix (qf62) f62_eq
noncomputable def T62 : Table := T82.add 62 [⟨gi62, [go62], f62⟩] []
theorem T62_ok : TableOk P T62 := Table.plus T82_ok (es := [⟨gi62, [go62], f62⟩]) ⟨f62_ok, trivial⟩ []

noncomputable def c63 : Code := Func.code Try.f63
abbrev gi63 : Sg := ⟨[0], [.lf (.sl (.int .i64))], []⟩
abbrev go63 : Sg := ⟨[2], [.lf (.gr (.int .i64) 0)], [some (.arr true (.int .i64))]⟩
def fx63 : List Bool := []
noncomputable def f63 (x : gi63.D) : Option go63.D :=
  (if ((length x.1) = 0) then (amb (Orc.eq (Table.orcE T62 (Sg.D go63) (Sg.eq go63) (Sg.eq_eq go63))) (some ([], ())) (if ((0 + (length x.1)) ≤ 17592186044416) then (if ((length ((take 0 (drop 0 (replicate 0 (0 : Int)))) ++ x.1)) = (length ((take 0 (drop 0 (replicate 0 (0 : Int)))) ++ x.1))) then (some (((take 0 (drop 0 (replicate 0 (0 : Int)))) ++ x.1), ()))
 else none)
 else none))
 else (if ((0 + (length x.1)) ≤ 17592186044416) then (if ((length ((take 0 (drop 0 (replicate 0 (0 : Int)))) ++ x.1)) = (length ((take 0 (drop 0 (replicate 0 (0 : Int)))) ++ x.1))) then (some (((take 0 (drop 0 (replicate 0 (0 : Int)))) ++ x.1), ()))
 else none)
 else none))
theorem f63_eq (x : gi63.D) : f63 x = evF P (T62.orcE go63.D go63.eq go63.eq_eq) Try.f63.ntmps fx63 c63 (planAt 64 []) gi63 x (fnK fx63 [go63]) := by kernel_rfl
theorem f63_ok : EntOk P 63 ⟨gi63, [go63], f63⟩ :=
  ent_ok (fn := Try.f63) (gi := gi63) (gos := [go63]) (f := f63) (c := c63) (fx := fx63) ⟨Try.func63, by kernel_rfl, rfl, by decide +kernel, rfl, rfl⟩ (by kernel_rfl) (Table.okE T62_ok _ _ _) hmix (planAt_ok (P := P) (n := Try.f63.ntmps) (fx := fx63) (c := c63) (d := 64) (l := []) trivial) f63_eq
noncomputable def T63 : Table := T62.add 63 [⟨gi63, [go63], f63⟩] []
theorem T63_ok : TableOk P T63 := Table.plus T62_ok (es := [⟨gi63, [go63], f63⟩]) ⟨f63_ok, trivial⟩ []

noncomputable def c32 : Code := Func.code Try.f32
abbrev gi32 : Sg := ⟨[0], [.lf (.sl (.int .i64))], []⟩
abbrev go32 : List Sg := [⟨[2, 3], [.lf .nilp, .lf (.int .i64)], []⟩, ⟨[2, 3], [.lf (.ptr 0 0), .lf (.int .i64)], [some (.box true [.many (.int .i64) 16, .lf (.sl (.int .i64)), .lf (.sl (.int .i64)), .lf (.gr (.int .i64) 1)]), some (.arr true (.int .i64))]⟩]
def fx32 : List Bool := []
abbrev g32_2 : Sg := ⟨[0, 6, 7, 8, 24, 27, 28, 29], [.lf (.sl (.int .i64)), .lf (.ptr 0 0), .lf (.int .i64), .lf (.int .i64), .lf (.int .i64), .lf (.sl (.int .i64)), .lf (.int .i64), .lf (.int .i64)], [some (.box true [.many (.int .i64) 16, .lf (.sl (.int .i64)), .lf (.sl (.int .i64)), .lf (.gr (.int .i64) 1)]), some (.arr true (.int .i64))]⟩
abbrev o32_2 : Outs := [(.exit 2, ⟨[0, 6, 7, 24], [.lf (.sl (.int .i64)), .lf (.ptr 0 0), .lf (.int .i64), .lf (.int .i64)], [some (.box true [.many (.int .i64) 16, .lf (.sl (.int .i64)), .lf (.sl (.int .i64)), .lf (.gr (.int .i64) 1)]), some (.arr true (.int .i64))]⟩)]
noncomputable def b32_2 (x : g32_2.D) : Option (outD ((.normal, g32_2) :: o32_2)) :=
  (if ((decide (x.2.2.2.2.2.2.1 < x.2.2.2.2.2.1)) = true) then (if ((0 : Int) ≤ x.2.2.2.2.2.2.1) then (if (x.2.2.2.2.2.2.1 < (((length x.2.2.2.2.1) : Nat) : Int)) then (if (((getD x.2.2.2.2.1 (Int.toNat x.2.2.2.2.2.2.1) (0 : Int)) == (IntKind.wrap .i64 (x.2.2.1 + (1 : Int)))) = true) then (if (((length (take (length x.2.2.2.2.2.2.2.2.2.2.1) (drop 0 x.2.2.2.2.2.2.2.2.2.2.1))) + (length (take 1 (drop 0 (List.set (replicate 1 (0 : Int)) 0 x.2.2.2.2.2.2.1))))) ≤ 17592186044416) then (if ((0 : Int) ≤ (getD x.2.2.2.2.1 (Int.toNat x.2.2.2.2.2.2.1) (0 : Int))) then (if ((getD x.2.2.2.2.1 (Int.toNat x.2.2.2.2.2.2.1) (0 : Int)) < (16 : Int)) then (if ((0 : Int) ≤ (getD x.2.2.2.2.1 (Int.toNat x.2.2.2.2.2.2.1) (0 : Int))) then (if ((getD x.2.2.2.2.1 (Int.toNat x.2.2.2.2.2.2.1) (0 : Int)) < (16 : Int)) then (if ((getD x.2.2.2.2.1 (Int.toNat x.2.2.2.2.2.2.1) (0 : Int)) < (0 : Int)) then none
 else (if ((length ((take (length x.2.2.2.2.2.2.2.2.2.2.1) (drop 0 x.2.2.2.2.2.2.2.2.2.2.1)) ++ (take 1 (drop 0 (List.set (replicate 1 (0 : Int)) 0 x.2.2.2.2.2.2.1))))) = (length ((take (length x.2.2.2.2.2.2.2.2.2.2.1) (drop 0 x.2.2.2.2.2.2.2.2.2.2.1)) ++ (take 1 (drop 0 (List.set (replicate 1 (0 : Int)) 0 x.2.2.2.2.2.2.1)))))) then (some (Sum.inl (x.1, (IntKind.wrap .i64 (x.2.1 + (Int.fdiv (32768 : Int) ((2 : Int) ^ (Min.min (Int.toNat (getD x.2.2.2.2.1 (Int.toNat x.2.2.2.2.2.2.1) (0 : Int))) 64))))), x.2.2.1, x.2.2.2.1, x.2.2.2.2.1, x.2.2.2.2.2.1, (IntKind.wrap .i64 (x.2.2.2.2.2.2.1 + (1 : Int))), (List.set x.2.2.2.2.2.2.2.1 (Int.toNat (getD x.2.2.2.2.1 (Int.toNat x.2.2.2.2.2.2.1) (0 : Int))) (IntKind.wrap .i64 ((getD x.2.2.2.2.2.2.2.1 (Int.toNat (getD x.2.2.2.2.1 (Int.toNat x.2.2.2.2.2.2.1) (0 : Int))) (0 : Int)) + (1 : Int)))), x.2.2.2.2.2.2.2.2.1, x.2.2.2.2.2.2.2.2.2.1, ((take (length x.2.2.2.2.2.2.2.2.2.2.1) (drop 0 x.2.2.2.2.2.2.2.2.2.2.1)) ++ (take 1 (drop 0 (List.set (replicate 1 (0 : Int)) 0 x.2.2.2.2.2.2.1)))), ())))
 else none))
 else none)
 else none)
 else none)
 else none)
 else none)
 else (if ((length x.2.2.2.2.2.2.2.2.2.2.1) = (length x.2.2.2.2.2.2.2.2.2.2.1)) then (some (Sum.inl (x.1, x.2.1, x.2.2.1, x.2.2.2.1, x.2.2.2.2.1, x.2.2.2.2.2.1, (IntKind.wrap .i64 (x.2.2.2.2.2.2.1 + (1 : Int))), x.2.2.2.2.2.2.2.1, x.2.2.2.2.2.2.2.2.1, x.2.2.2.2.2.2.2.2.2.1, x.2.2.2.2.2.2.2.2.2.2.1, ())))
 else none))
 else none)
 else none)
 else (if ((length x.2.2.2.2.2.2.2.2.2.2.1) = (length x.2.2.2.2.2.2.2.2.2.2.1)) then (some (Sum.inr (Sum.inl (x.1, x.2.1, x.2.2.2.1, x.2.2.2.2.2.2.2.1, x.2.2.2.2.2.2.2.2.1, x.2.2.2.2.2.2.2.2.2.1, x.2.2.2.2.2.2.2.2.2.2.1, ()))))
 else none))
theorem b32_2_eq (x : g32_2.D) : b32_2 x = evF P (T63.orc _) Try.f32.ntmps fx32 (Code.at [tt, tt, tt, tt, tt, ff, tt, ff, ff, tt, tt, ff, ff, tt, tt, ff, ff] c32) (planAt 64 []) g32_2 x (injK fx32 ((.normal, g32_2) :: o32_2) some) := by kernel_rfl
noncomputable def l32_2 : g32_2.D → Option (outD o32_2) := loopN g32_2 o32_2 b32_2 18446744073709551616
theorem at32_2 : Code.at [tt, tt, tt, tt, tt, ff, tt, ff, ff, tt, tt, ff, ff, tt, tt, ff] c32 = .loop (Code.at [tt, tt, tt, tt, tt, ff, tt, ff, ff, tt, tt, ff, ff, tt, tt, ff, ff] c32) := by kernel_rfl
theorem s32_2_ok : SubOk P Try.f32.ntmps fx32 (Code.at [tt, tt, tt, tt, tt, ff, tt, ff, ff, tt, tt, ff, ff, tt, tt, ff] c32) ⟨g32_2, o32_2, l32_2⟩ := by
  rw [at32_2]
  exact loop_ok (sub_ok (g := g32_2) (outs := ((.normal, g32_2) :: o32_2)) (f := b32_2) (Table.ok T63_ok _) hmix (planAt_ok (P := P) (n := Try.f32.ntmps) (fx := fx32) (c := (Code.at [tt, tt, tt, tt, tt, ff, tt, ff, ff, tt, tt, ff, ff, tt, tt, ff, ff] c32)) (d := 64) (l := []) trivial) b32_2_eq) rfl _
abbrev g32_1 : Sg := ⟨[0, 6, 7, 24], [.lf (.sl (.int .i64)), .lf (.ptr 0 0), .lf (.int .i64), .lf (.int .i64)], [some (.box true [.many (.int .i64) 16, .lf (.sl (.int .i64)), .lf (.sl (.int .i64)), .lf (.gr (.int .i64) 1)]), some (.arr true (.int .i64))]⟩
abbrev o32_1 : Outs := [(.exit 0, ⟨[6, 7], [.lf (.ptr 0 0), .lf (.int .i64)], [some (.box true [.many (.int .i64) 16, .lf (.sl (.int .i64)), .lf (.sl (.int .i64)), .lf (.gr (.int .i64) 1)]), some (.arr true (.int .i64))]⟩)]
noncomputable def b32_1 (x : g32_1.D) : Option (outD ((.normal, g32_1) :: o32_1)) :=
  (if ((decide (x.2.2.1 < (15 : Int))) = true) then (if ((length x.2.2.2.2.2.2.1) = (length x.2.2.2.2.2.2.1)) then (Option.bind (l32_2 (x.1, x.2.1, x.2.2.1, x.2.2.1, x.1, (((length x.1) : Nat) : Int), (0 : Int), x.2.2.2.1, x.2.2.2.2.1, x.2.2.2.2.2.1, x.2.2.2.2.2.2.1, ())) (Sum.elim (fun y1 => (if ((length y1.2.2.2.2.2.2.1) = (length y1.2.2.2.2.2.2.1)) then (some (Sum.inl (y1.1, y1.2.1, (IntKind.wrap .i64 (y1.2.2.1 + (1 : Int))), y1.2.2.2.1, y1.2.2.2.2.1, y1.2.2.2.2.2.1, y1.2.2.2.2.2.2.1, ())))
 else none)) Empty.elim))
 else none)
 else (if ((length x.2.2.2.2.2.2.1) = (length x.2.2.2.2.2.2.1)) then (some (Sum.inr (Sum.inl (x.2.1, x.2.2.2.1, x.2.2.2.2.1, x.2.2.2.2.2.1, x.2.2.2.2.2.2.1, ()))))
 else none))
theorem b32_1_eq (x : g32_1.D) : b32_1 x = evF P (T63.orc _) Try.f32.ntmps fx32 (Code.at [tt, tt, tt, tt, tt, ff, tt, ff, ff] c32) (planAt 64 [([tt, tt, ff, ff, tt, tt, ff], ⟨g32_2, o32_2, l32_2⟩)]) g32_1 x (injK fx32 ((.normal, g32_1) :: o32_1) some) := by kernel_rfl
noncomputable def l32_1 : g32_1.D → Option (outD o32_1) := loopN g32_1 o32_1 b32_1 18446744073709551616
theorem p32_1 : AllSub P Try.f32.ntmps fx32 (Code.at [tt, tt, tt, tt, tt, ff, tt, ff, ff] c32) [([tt, tt, ff, ff, tt, tt, ff], ⟨g32_2, o32_2, l32_2⟩)] := And.intro s32_2_ok (trivial)
theorem q32_1 : PlanOk P Try.f32.ntmps fx32 (planAt 64 [([tt, tt, ff, ff, tt, tt, ff], ⟨g32_2, o32_2, l32_2⟩)]) (Code.at [tt, tt, tt, tt, tt, ff, tt, ff, ff] c32) := planAt_ok p32_1
theorem at32_1 : Code.at [tt, tt, tt, tt, tt, ff, tt, ff] c32 = .loop (Code.at [tt, tt, tt, tt, tt, ff, tt, ff, ff] c32) := by kernel_rfl
theorem s32_1_ok : SubOk P Try.f32.ntmps fx32 (Code.at [tt, tt, tt, tt, tt, ff, tt, ff] c32) ⟨g32_1, o32_1, l32_1⟩ := by
  rw [at32_1]
  exact loop_ok (sub_ok (g := g32_1) (outs := ((.normal, g32_1) :: o32_1)) (f := b32_1) (Table.ok T63_ok _) hmix (q32_1) b32_1_eq) rfl _
noncomputable def f32 (x : gi32.D) : Option (alt go32) :=
  (Option.bind (f62 (x.1, ())) (fun y1 => (if ((y1.1 != (0 : Int)) = true) then (some (Sum.inl (y1.1, ())))
 else (Option.bind (f63 (x.1, ())) (fun y2 => (Option.bind (l32_1 (x.1, (0 : Int), (0 : Int), (replicate 16 (0 : Int)), (take (length y2.1) (drop 0 y2.1)), (take (length y1.2.1) (drop 0 y1.2.1)), [], ())) (Sum.elim (fun y3 => (if ((decide (y3.1 < (32768 : Int))) = true) then (if ((decide ((((length y3.2.2.2.2.1) : Nat) : Int) > (0 : Int))) = true) then (if ((decide ((((length y3.2.2.2.2.1) : Nat) : Int) > (1 : Int))) = true) then (some (Sum.inl ((4 : Int), ())))
 else (if (((getD y3.2.1 1 (0 : Int)) == (0 : Int)) = true) then (some (Sum.inl ((4 : Int), ())))
 else (if ((length y3.2.2.2.2.1) = (length y3.2.2.2.2.1)) then (some (Sum.inr ((0 : Int), y3.2.1, y3.2.2.1, y3.2.2.2.1, y3.2.2.2.2.1, ())))
 else none)))
 else (if ((length y3.2.2.2.2.1) = (length y3.2.2.2.2.1)) then (some (Sum.inr ((0 : Int), y3.2.1, y3.2.2.1, y3.2.2.2.1, y3.2.2.2.2.1, ())))
 else none))
 else (if ((length y3.2.2.2.2.1) = (length y3.2.2.2.2.1)) then (some (Sum.inr ((0 : Int), y3.2.1, y3.2.2.1, y3.2.2.2.1, y3.2.2.2.2.1, ())))
 else none))) Empty.elim)))))))
theorem f32_eq (x : gi32.D) : f32 x = evF P (T63.orc _) Try.f32.ntmps fx32 c32 (planAt 64 [([tt, tt, tt, tt, tt, ff, tt, ff], ⟨g32_1, o32_1, l32_1⟩)]) gi32 x (fnK fx32 go32) := by kernel_rfl
theorem pf32 : AllSub P Try.f32.ntmps fx32 c32 [([tt, tt, tt, tt, tt, ff, tt, ff], ⟨g32_1, o32_1, l32_1⟩)] := And.intro s32_1_ok (trivial)
theorem qf32 : PlanOk P Try.f32.ntmps fx32 (planAt 64 [([tt, tt, tt, tt, tt, ff, tt, ff], ⟨g32_1, o32_1, l32_1⟩)]) c32 := planAt_ok pf32
theorem f32_ok : EntOk P 32 ⟨gi32, go32, f32⟩ :=
  ent_ok (fn := Try.f32) (gi := gi32) (gos := go32) (f := f32) (c := c32) (fx := fx32) ⟨Try.func32, by kernel_rfl, rfl, by decide +kernel, rfl, rfl⟩ (by kernel_rfl) (Table.ok T63_ok _) hmix (qf32) f32_eq
noncomputable def T32 : Table := T63.add 32 [⟨gi32, go32, f32⟩] []
theorem T32_ok : TableOk P T32 := Table.plus T63_ok (es := [⟨gi32, go32, f32⟩]) ⟨f32_ok, trivial⟩ []

noncomputable def c35 : Code := Func.code Try.f35
abbrev gi35 : Sg := ⟨[], [], []⟩
abbrev go35 : Sg := ⟨[0], [.lf (.ptr 0 0)], [some (.box true [.lf (.gr (.int .u8) 1), .lf (.int .i64), .lf (.int .i64)]), some (.arr true (.int .u8))]⟩
def fx35 : List Bool := []
noncomputable def f35 (_ : gi35.D) : Option go35.D :=
  (some ((0 : Int), (0 : Int), [], ()))
theorem f35_eq (x : gi35.D) : f35 x = evF P (T32.orc _) Try.f35.ntmps fx35 c35 (planAt 64 []) gi35 x (fnK fx35 [go35]) := by kernel_rfl
theorem f35_ok : EntOk P 35 ⟨gi35, [go35], f35⟩ :=
  ent_ok (fn := Try.f35) (gi := gi35) (gos := [go35]) (f := f35) (c := c35) (fx := fx35) ⟨Try.func35, by kernel_rfl, rfl, by decide +kernel, rfl, rfl⟩ (by kernel_rfl) (Table.ok T32_ok _) hmix (planAt_ok (P := P) (n := Try.f35.ntmps) (fx := fx35) (c := c35) (d := 64) (l := []) trivial) f35_eq
noncomputable def T35 : Table := T32.add 35 [⟨gi35, [go35], f35⟩] []
theorem T35_ok : TableOk P T35 := Table.plus T32_ok (es := [⟨gi35, [go35], f35⟩]) ⟨f35_ok, trivial⟩ []

noncomputable def c36 : Code := Func.code Try.f36
abbrev gi36 : Sg := ⟨[0, 1, 2], [.lf (.ptr 0 0), .lf (.int .i64), .lf (.int .i64)], [some (.box true [.lf (.gr (.int .u8) 1), .lf (.int .i64), .lf (.int .i64)]), some (.arr true (.int .u8))]⟩
abbrev go36 : Sg := ⟨[6], [.lf (.int .i64)], [some (.box true [.lf (.gr (.int .u8) 2), .lf (.int .i64), .lf (.int .i64)]), none, some (.arr true (.int .u8))]⟩
def fx36 : List Bool := [tt, ff]
abbrev g36_1 : Sg := ⟨[0], [.lf (.ptr 0 0)], [some (.box true [.lf (.gr (.int .u8) 2), .lf (.int .i64), .lf (.int .i64)]), none, some (.arr true (.int .u8))]⟩
abbrev o36_1 : Outs := [(.exit 1, ⟨[], [], [some (.box true [.lf (.gr (.int .u8) 2), .lf (.int .i64), .lf (.int .i64)]), none, some (.arr true (.int .u8))]⟩)]
noncomputable def b36_1 (x : g36_1.D) : Option (outD ((.normal, g36_1) :: o36_1)) :=
  (if ((decide (x.2.1 ≥ (8 : Int))) = true) then (if (((length (take (length x.2.2.1) (drop 0 x.2.2.1))) + (length (take 1 (drop 0 (List.set (replicate 1 (0 : Int)) 0 (IntKind.wrap .u8 x.1)))))) ≤ 140737488355328) then (if ((length ((take (length x.2.2.1) (drop 0 x.2.2.1)) ++ (take 1 (drop 0 (List.set (replicate 1 (0 : Int)) 0 (IntKind.wrap .u8 x.1)))))) = (length ((take (length x.2.2.1) (drop 0 x.2.2.1)) ++ (take 1 (drop 0 (List.set (replicate 1 (0 : Int)) 0 (IntKind.wrap .u8 x.1))))))) then (some (Sum.inl ((Int.fdiv x.1 (256 : Int)), (IntKind.wrap .i64 (x.2.1 - (8 : Int))), ((take (length x.2.2.1) (drop 0 x.2.2.1)) ++ (take 1 (drop 0 (List.set (replicate 1 (0 : Int)) 0 (IntKind.wrap .u8 x.1))))), ())))
 else none)
 else none)
 else (if ((length x.2.2.1) = (length x.2.2.1)) then (some (Sum.inr (Sum.inl (x.1, x.2.1, x.2.2.1, ()))))
 else none))
theorem b36_1_eq (x : g36_1.D) : b36_1 x = evF P (T35.orc _) Try.f36.ntmps fx36 (Code.at [tt, tt, tt, ff, tt, ff, ff] c36) (planAt 64 []) g36_1 x (injK fx36 ((.normal, g36_1) :: o36_1) some) := by kernel_rfl
noncomputable def l36_1 : g36_1.D → Option (outD o36_1) := loopN g36_1 o36_1 b36_1 18446744073709551616
theorem at36_1 : Code.at [tt, tt, tt, ff, tt, ff] c36 = .loop (Code.at [tt, tt, tt, ff, tt, ff, ff] c36) := by kernel_rfl
theorem s36_1_ok : SubOk P Try.f36.ntmps fx36 (Code.at [tt, tt, tt, ff, tt, ff] c36) ⟨g36_1, o36_1, l36_1⟩ := by
  rw [at36_1]
  exact loop_ok (sub_ok (g := g36_1) (outs := ((.normal, g36_1) :: o36_1)) (f := b36_1) (Table.ok T35_ok _) hmix (planAt_ok (P := P) (n := Try.f36.ntmps) (fx := fx36) (c := (Code.at [tt, tt, tt, ff, tt, ff, ff] c36)) (d := 64) (l := []) trivial) b36_1_eq) rfl _
noncomputable def f36 (x : gi36.D) : Option go36.D :=
  (if ((decide (x.2.1 < (0 : Int))) = true) then (if ((length x.2.2.2.2.1) = (length x.2.2.2.2.1)) then (some ((1 : Int), x.2.2.1, x.2.2.2.1, x.2.2.2.2.1, ()))
 else none)
 else (if ((decide (x.2.1 > (24 : Int))) = true) then (if ((length x.2.2.2.2.1) = (length x.2.2.2.2.1)) then (some ((1 : Int), x.2.2.1, x.2.2.2.1, x.2.2.2.2.1, ()))
 else none)
 else (if ((decide (x.1 < (0 : Int))) = true) then (if ((length x.2.2.2.2.1) = (length x.2.2.2.2.1)) then (some ((1 : Int), x.2.2.1, x.2.2.2.1, x.2.2.2.2.1, ()))
 else none)
 else (if (x.2.1 < (0 : Int)) then none
 else (if (((Int.fdiv x.1 ((2 : Int) ^ (Min.min (Int.toNat x.2.1) 64))) != (0 : Int)) = true) then (if ((length x.2.2.2.2.1) = (length x.2.2.2.2.1)) then (some ((1 : Int), x.2.2.1, x.2.2.2.1, x.2.2.2.2.1, ()))
 else none)
 else (if (x.2.2.2.1 < (0 : Int)) then none
 else (if ((length x.2.2.2.2.1) = (length x.2.2.2.2.1)) then (Option.bind (l36_1 ((IntKind.wrap .i64 (((BitVec.toNat ((BitVec.ofInt 64 x.2.2.1) ||| (BitVec.ofInt 64 (IntKind.wrap .i64 (x.1 * ((2 : Int) ^ (Min.min (Int.toNat x.2.2.2.1) 64))))))) : Nat) : Int)), (IntKind.wrap .i64 (x.2.2.2.1 + x.2.1)), x.2.2.2.2.1, ())) (Sum.elim (fun y1 => (if ((length y1.2.2.1) = (length y1.2.2.1)) then (some ((0 : Int), y1.1, y1.2.1, y1.2.2.1, ()))
 else none)) Empty.elim))
 else none)))))))
theorem f36_eq (x : gi36.D) : f36 x = evF P (T35.orc _) Try.f36.ntmps fx36 c36 (planAt 64 [([tt, tt, tt, ff, tt, ff], ⟨g36_1, o36_1, l36_1⟩)]) gi36 x (fnK fx36 [go36]) := by kernel_rfl
theorem pf36 : AllSub P Try.f36.ntmps fx36 c36 [([tt, tt, tt, ff, tt, ff], ⟨g36_1, o36_1, l36_1⟩)] := And.intro s36_1_ok (trivial)
theorem qf36 : PlanOk P Try.f36.ntmps fx36 (planAt 64 [([tt, tt, tt, ff, tt, ff], ⟨g36_1, o36_1, l36_1⟩)]) c36 := planAt_ok pf36
theorem f36_ok : EntOk P 36 ⟨gi36, [go36], f36⟩ :=
  ent_ok (fn := Try.f36) (gi := gi36) (gos := [go36]) (f := f36) (c := c36) (fx := fx36) ⟨Try.func36, by kernel_rfl, rfl, by decide +kernel, rfl, rfl⟩ (by kernel_rfl) (Table.ok T35_ok _) hmix (qf36) f36_eq
noncomputable def T36 : Table := T35.add 36 [⟨gi36, [go36], f36⟩] []
theorem T36_ok : TableOk P T36 := Table.plus T35_ok (es := [⟨gi36, [go36], f36⟩]) ⟨f36_ok, trivial⟩ []

noncomputable def c39 : Code := Func.code Try.f39
abbrev gi39 : Sg := ⟨[], [], []⟩
abbrev go39 : Sg := ⟨[0], [.lf (.gr (.pair (.int .i64) (.pair (.int .i64) (.int .i64))) 0)], [some (.arr true (.pair (.int .i64) (.pair (.int .i64) (.int .i64))))]⟩
def fx39 : List Bool := []
abbrev g39_1 : Sg := ⟨[1, 2, 3], [.lf (.gr (.pair (.int .i64) (.pair (.int .i64) (.int .i64))) 0), .lf (.int .i64), .lf (.int .i64)], [some (.arr true (.pair (.int .i64) (.pair (.int .i64) (.int .i64))))]⟩
abbrev o39_1 : Outs := [(.exit 0, ⟨[1], [.lf (.gr (.pair (.int .i64) (.pair (.int .i64) (.int .i64))) 0)], [some (.arr true (.pair (.int .i64) (.pair (.int .i64) (.int .i64))))]⟩)]
noncomputable def b39_1 (x : g39_1.D) : Option (outD ((.normal, g39_1) :: o39_1)) :=
  (if ((decide (x.2.1 < (285 : Int))) = true) then (if (((length (take (length x.2.2.1) (drop 0 x.2.2.1))) + (length (take 1 (drop 0 (List.set (replicate 1 ((0 : Int), (0 : Int), (0 : Int))) 0 (x.2.1, x.1, (Max.max (IntKind.wrap .i64 (Int.tdiv (IntKind.wrap .i64 (x.2.1 - (261 : Int))) (4 : Int))) (0 : Int)))))))) ≤ 5864062014805) then (if ((Max.max (IntKind.wrap .i64 (Int.tdiv (IntKind.wrap .i64 (x.2.1 - (261 : Int))) (4 : Int))) (0 : Int)) < (0 : Int)) then none
 else (if ((length ((take (length x.2.2.1) (drop 0 x.2.2.1)) ++ (take 1 (drop 0 (List.set (replicate 1 ((0 : Int), (0 : Int), (0 : Int))) 0 (x.2.1, x.1, (Max.max (IntKind.wrap .i64 (Int.tdiv (IntKind.wrap .i64 (x.2.1 - (261 : Int))) (4 : Int))) (0 : Int)))))))) = (length ((take (length x.2.2.1) (drop 0 x.2.2.1)) ++ (take 1 (drop 0 (List.set (replicate 1 ((0 : Int), (0 : Int), (0 : Int))) 0 (x.2.1, x.1, (Max.max (IntKind.wrap .i64 (Int.tdiv (IntKind.wrap .i64 (x.2.1 - (261 : Int))) (4 : Int))) (0 : Int))))))))) then (some (Sum.inl ((IntKind.wrap .i64 (x.1 + (IntKind.wrap .i64 ((1 : Int) * ((2 : Int) ^ (Min.min (Int.toNat (Max.max (IntKind.wrap .i64 (Int.tdiv (IntKind.wrap .i64 (x.2.1 - (261 : Int))) (4 : Int))) (0 : Int))) 64)))))), (IntKind.wrap .i64 (x.2.1 + (1 : Int))), ((take (length x.2.2.1) (drop 0 x.2.2.1)) ++ (take 1 (drop 0 (List.set (replicate 1 ((0 : Int), (0 : Int), (0 : Int))) 0 (x.2.1, x.1, (Max.max (IntKind.wrap .i64 (Int.tdiv (IntKind.wrap .i64 (x.2.1 - (261 : Int))) (4 : Int))) (0 : Int))))))), ())))
 else none))
 else none)
 else (if ((length x.2.2.1) = (length x.2.2.1)) then (some (Sum.inr (Sum.inl (x.2.2.1, ()))))
 else none))
theorem b39_1_eq (x : g39_1.D) : b39_1 x = evF P (T36.orc _) Try.f39.ntmps fx39 (Code.at [tt, tt, tt, ff, tt, ff, ff] c39) (planAt 64 []) g39_1 x (injK fx39 ((.normal, g39_1) :: o39_1) some) := by kernel_rfl
noncomputable def l39_1 : g39_1.D → Option (outD o39_1) := loopN g39_1 o39_1 b39_1 18446744073709551616
theorem at39_1 : Code.at [tt, tt, tt, ff, tt, ff] c39 = .loop (Code.at [tt, tt, tt, ff, tt, ff, ff] c39) := by kernel_rfl
theorem s39_1_ok : SubOk P Try.f39.ntmps fx39 (Code.at [tt, tt, tt, ff, tt, ff] c39) ⟨g39_1, o39_1, l39_1⟩ := by
  rw [at39_1]
  exact loop_ok (sub_ok (g := g39_1) (outs := ((.normal, g39_1) :: o39_1)) (f := b39_1) (Table.ok T36_ok _) hmix (planAt_ok (P := P) (n := Try.f39.ntmps) (fx := fx39) (c := (Code.at [tt, tt, tt, ff, tt, ff, ff] c39)) (d := 64) (l := []) trivial) b39_1_eq) rfl _
noncomputable def f39 (_ : gi39.D) : Option go39.D :=
  (Option.bind (l39_1 ((3 : Int), (257 : Int), (replicate 0 ((0 : Int), (0 : Int), (0 : Int))), ())) (Sum.elim (fun y1 => (if (((length (take (length y1.1) (drop 0 y1.1))) + 1) ≤ 5864062014805) then (if ((length ((take (length y1.1) (drop 0 y1.1)) ++ (take 1 (drop 0 (List.set (replicate 1 ((0 : Int), (0 : Int), (0 : Int))) 0 ((285 : Int), (258 : Int), (0 : Int))))))) = (length ((take (length y1.1) (drop 0 y1.1)) ++ (take 1 (drop 0 (List.set (replicate 1 ((0 : Int), (0 : Int), (0 : Int))) 0 ((285 : Int), (258 : Int), (0 : Int)))))))) then (some (((take (length y1.1) (drop 0 y1.1)) ++ (take 1 (drop 0 (List.set (replicate 1 ((0 : Int), (0 : Int), (0 : Int))) 0 ((285 : Int), (258 : Int), (0 : Int)))))), ()))
 else none)
 else none)) Empty.elim))
theorem f39_eq (x : gi39.D) : f39 x = evF P (T36.orc _) Try.f39.ntmps fx39 c39 (planAt 64 [([tt, tt, tt, ff, tt, ff], ⟨g39_1, o39_1, l39_1⟩)]) gi39 x (fnK fx39 [go39]) := by kernel_rfl
theorem pf39 : AllSub P Try.f39.ntmps fx39 c39 [([tt, tt, tt, ff, tt, ff], ⟨g39_1, o39_1, l39_1⟩)] := And.intro s39_1_ok (trivial)
theorem qf39 : PlanOk P Try.f39.ntmps fx39 (planAt 64 [([tt, tt, tt, ff, tt, ff], ⟨g39_1, o39_1, l39_1⟩)]) c39 := planAt_ok pf39
theorem f39_ok : EntOk P 39 ⟨gi39, [go39], f39⟩ :=
  ent_ok (fn := Try.f39) (gi := gi39) (gos := [go39]) (f := f39) (c := c39) (fx := fx39) ⟨Try.func39, by kernel_rfl, rfl, by decide +kernel, rfl, rfl⟩ (by kernel_rfl) (Table.ok T36_ok _) hmix (qf39) f39_eq
noncomputable def T39 : Table := T36.add 39 [⟨gi39, [go39], f39⟩] []
theorem T39_ok : TableOk P T39 := Table.plus T36_ok (es := [⟨gi39, [go39], f39⟩]) ⟨f39_ok, trivial⟩ []

noncomputable def c40 : Code := Func.code Try.f40
abbrev gi40 : Sg := ⟨[], [], []⟩
abbrev go40 : Sg := ⟨[0], [.lf (.gr (.pair (.int .i64) (.pair (.int .i64) (.int .i64))) 0)], [some (.arr true (.pair (.int .i64) (.pair (.int .i64) (.int .i64))))]⟩
def fx40 : List Bool := []
abbrev g40_1 : Sg := ⟨[1, 2, 6], [.lf (.gr (.pair (.int .i64) (.pair (.int .i64) (.int .i64))) 0), .lf (.int .i64), .lf (.int .i64)], [some (.arr true (.pair (.int .i64) (.pair (.int .i64) (.int .i64))))]⟩
abbrev o40_1 : Outs := [(.exit 0, ⟨[1], [.lf (.gr (.pair (.int .i64) (.pair (.int .i64) (.int .i64))) 0)], [some (.arr true (.pair (.int .i64) (.pair (.int .i64) (.int .i64))))]⟩)]
noncomputable def b40_1 (x : g40_1.D) : Option (outD ((.normal, g40_1) :: o40_1)) :=
  (if ((decide (x.2.1 < (30 : Int))) = true) then (if (((length (take (length x.2.2.1) (drop 0 x.2.2.1))) + (length (take 1 (drop 0 (List.set (replicate 1 ((0 : Int), (0 : Int), (0 : Int))) 0 (x.2.1, x.1, (Max.max (IntKind.wrap .i64 (Int.tdiv (IntKind.wrap .i64 (x.2.1 - (2 : Int))) (2 : Int))) (0 : Int)))))))) ≤ 5864062014805) then (if ((Max.max (IntKind.wrap .i64 (Int.tdiv (IntKind.wrap .i64 (x.2.1 - (2 : Int))) (2 : Int))) (0 : Int)) < (0 : Int)) then none
 else (if ((length ((take (length x.2.2.1) (drop 0 x.2.2.1)) ++ (take 1 (drop 0 (List.set (replicate 1 ((0 : Int), (0 : Int), (0 : Int))) 0 (x.2.1, x.1, (Max.max (IntKind.wrap .i64 (Int.tdiv (IntKind.wrap .i64 (x.2.1 - (2 : Int))) (2 : Int))) (0 : Int)))))))) = (length ((take (length x.2.2.1) (drop 0 x.2.2.1)) ++ (take 1 (drop 0 (List.set (replicate 1 ((0 : Int), (0 : Int), (0 : Int))) 0 (x.2.1, x.1, (Max.max (IntKind.wrap .i64 (Int.tdiv (IntKind.wrap .i64 (x.2.1 - (2 : Int))) (2 : Int))) (0 : Int))))))))) then (some (Sum.inl ((IntKind.wrap .i64 (x.1 + (IntKind.wrap .i64 ((1 : Int) * ((2 : Int) ^ (Min.min (Int.toNat (Max.max (IntKind.wrap .i64 (Int.tdiv (IntKind.wrap .i64 (x.2.1 - (2 : Int))) (2 : Int))) (0 : Int))) 64)))))), (IntKind.wrap .i64 (x.2.1 + (1 : Int))), ((take (length x.2.2.1) (drop 0 x.2.2.1)) ++ (take 1 (drop 0 (List.set (replicate 1 ((0 : Int), (0 : Int), (0 : Int))) 0 (x.2.1, x.1, (Max.max (IntKind.wrap .i64 (Int.tdiv (IntKind.wrap .i64 (x.2.1 - (2 : Int))) (2 : Int))) (0 : Int))))))), ())))
 else none))
 else none)
 else (if ((length x.2.2.1) = (length x.2.2.1)) then (some (Sum.inr (Sum.inl (x.2.2.1, ()))))
 else none))
theorem b40_1_eq (x : g40_1.D) : b40_1 x = evF P (T39.orc _) Try.f40.ntmps fx40 (Code.at [tt, tt, tt, ff, tt, ff, ff] c40) (planAt 64 []) g40_1 x (injK fx40 ((.normal, g40_1) :: o40_1) some) := by kernel_rfl
noncomputable def l40_1 : g40_1.D → Option (outD o40_1) := loopN g40_1 o40_1 b40_1 18446744073709551616
theorem at40_1 : Code.at [tt, tt, tt, ff, tt, ff] c40 = .loop (Code.at [tt, tt, tt, ff, tt, ff, ff] c40) := by kernel_rfl
theorem s40_1_ok : SubOk P Try.f40.ntmps fx40 (Code.at [tt, tt, tt, ff, tt, ff] c40) ⟨g40_1, o40_1, l40_1⟩ := by
  rw [at40_1]
  exact loop_ok (sub_ok (g := g40_1) (outs := ((.normal, g40_1) :: o40_1)) (f := b40_1) (Table.ok T39_ok _) hmix (planAt_ok (P := P) (n := Try.f40.ntmps) (fx := fx40) (c := (Code.at [tt, tt, tt, ff, tt, ff, ff] c40)) (d := 64) (l := []) trivial) b40_1_eq) rfl _
noncomputable def f40 (_ : gi40.D) : Option go40.D :=
  (Option.bind (l40_1 ((1 : Int), (0 : Int), (replicate 0 ((0 : Int), (0 : Int), (0 : Int))), ())) (Sum.elim (fun y1 => (if ((length y1.1) = (length y1.1)) then (some (y1.1, ()))
 else none)) Empty.elim))
theorem f40_eq (x : gi40.D) : f40 x = evF P (T39.orc _) Try.f40.ntmps fx40 c40 (planAt 64 [([tt, tt, tt, ff, tt, ff], ⟨g40_1, o40_1, l40_1⟩)]) gi40 x (fnK fx40 [go40]) := by kernel_rfl
theorem pf40 : AllSub P Try.f40.ntmps fx40 c40 [([tt, tt, tt, ff, tt, ff], ⟨g40_1, o40_1, l40_1⟩)] := And.intro s40_1_ok (trivial)
theorem qf40 : PlanOk P Try.f40.ntmps fx40 (planAt 64 [([tt, tt, tt, ff, tt, ff], ⟨g40_1, o40_1, l40_1⟩)]) c40 := planAt_ok pf40
theorem f40_ok : EntOk P 40 ⟨gi40, [go40], f40⟩ :=
  ent_ok (fn := Try.f40) (gi := gi40) (gos := [go40]) (f := f40) (c := c40) (fx := fx40) ⟨Try.func40, by kernel_rfl, rfl, by decide +kernel, rfl, rfl⟩ (by kernel_rfl) (Table.ok T39_ok _) hmix (qf40) f40_eq
noncomputable def T40 : Table := T39.add 40 [⟨gi40, [go40], f40⟩] []
theorem T40_ok : TableOk P T40 := Table.plus T39_ok (es := [⟨gi40, [go40], f40⟩]) ⟨f40_ok, trivial⟩ []

noncomputable def c65 : Code := Func.code Try.f65
abbrev gi65 : Sg := ⟨[0, 1, 2], [.lf (.int .i64), .lf (.ptr 0 0), .lf (.ptr 3 0)], [some (.box true [.lf (.ptr 1 0)]), some (.box true [.many (.int .i64) 16, .lf (.sl (.int .i64)), .lf (.sl (.int .i64)), .lf (.gr (.int .i64) 2)]), some (.arr true (.int .i64)), some (.box true [.lf (.int .i64)])]⟩
abbrev go65 : Sg := ⟨[4], [.lf (.int .i64)], [some (.box true [.lf (.ptr 1 0)]), some (.box true [.many (.int .i64) 16, .lf (.sl (.int .i64)), .lf (.sl (.int .i64)), .lf (.gr (.int .i64) 2)]), some (.arr true (.int .i64)), some (.box true [.lf (.int .i64)])]⟩
def fx65 : List Bool := [tt, tt, tt, tt]
noncomputable def f65 (x : gi65.D) : Option go65.D :=
  (if ((0 : Int) ≤ x.2.2.2.2.2.1) then (if (x.2.2.2.2.2.1 < (((length x.2.2.2.1) : Nat) : Int)) then (if ((0 : Int) ≤ x.2.2.2.2.2.1) then (if (x.2.2.2.2.2.1 < (((length x.2.2.1) : Nat) : Int)) then (if ((IntKind.wrap .i64 ((IntKind.wrap .i64 ((getD x.2.2.1 (Int.toNat x.2.2.2.2.2.1) (0 : Int)) - (1 : Int))) - x.1)) < (0 : Int)) then none
 else (if ((length x.2.2.2.2.1) = (length x.2.2.2.2.1)) then (some ((IntKind.wrap .i64 (((BitVec.toNat ((BitVec.ofInt 64 (Int.fdiv (getD x.2.2.2.1 (Int.toNat x.2.2.2.2.2.1) (0 : Int)) ((2 : Int) ^ (Min.min (Int.toNat (IntKind.wrap .i64 ((IntKind.wrap .i64 ((getD x.2.2.1 (Int.toNat x.2.2.2.2.2.1) (0 : Int)) - (1 : Int))) - x.1))) 64)))) &&& (BitVec.ofInt 64 (1 : Int)))) : Nat) : Int)), x.2.1, x.2.2.1, x.2.2.2.1, x.2.2.2.2.1, x.2.2.2.2.2.1, ()))
 else none))
 else none)
 else none)
 else none)
 else none)
theorem f65_eq (x : gi65.D) : f65 x = evF P (T40.orc _) Try.f65.ntmps fx65 c65 (planAt 64 []) gi65 x (fnK fx65 [go65]) := by kernel_rfl
theorem f65_ok : EntOk P 65 ⟨gi65, [go65], f65⟩ :=
  ent_ok (fn := Try.f65) (gi := gi65) (gos := [go65]) (f := f65) (c := c65) (fx := fx65) ⟨Try.func65, by kernel_rfl, rfl, by decide +kernel, rfl, rfl⟩ (by kernel_rfl) (Table.ok T40_ok _) hmix (planAt_ok (P := P) (n := Try.f65.ntmps) (fx := fx65) (c := c65) (d := 64) (l := []) trivial) f65_eq
noncomputable def T65 : Table := T40.add 65 [⟨gi65, [go65], f65⟩] []
theorem T65_ok : TableOk P T65 := Table.plus T40_ok (es := [⟨gi65, [go65], f65⟩]) ⟨f65_ok, trivial⟩ []

noncomputable def c38 : Code := Func.code Try.f38
abbrev gi38 : Sg := ⟨[0, 1, 2], [.lf (.ptr 0 0), .lf (.ptr 2 0), .lf (.int .i64)], [some (.box true [.many (.int .i64) 16, .lf (.sl (.int .i64)), .lf (.sl (.int .i64)), .lf (.gr (.int .i64) 1)]), some (.arr true (.int .i64)), some (.box true [.lf (.gr (.int .u8) 3), .lf (.int .i64), .lf (.int .i64)]), some (.arr true (.int .u8))]⟩
abbrev go38 : Sg := ⟨[6], [.lf (.int .i64)], [some (.box true [.many (.int .i64) 16, .lf (.sl (.int .i64)), .lf (.sl (.int .i64)), .lf (.gr (.int .i64) 1)]), some (.arr true (.int .i64)), some (.box true [.lf (.gr (.int .u8) 4), .lf (.int .i64), .lf (.int .i64)]), none, some (.arr true (.int .u8))]⟩
def fx38 : List Bool := [tt, tt, tt, ff]
abbrev g38_1 : Sg := ⟨[1, 7, 46, 47], [.lf (.ptr 2 0), .lf (.fnc 65 [(.ptr 4 0), (.ptr 5 0)]), .lf (.int .i64), .lf (.int .i64)], [some (.box true [.many (.int .i64) 16, .lf (.sl (.int .i64)), .lf (.sl (.int .i64)), .lf (.gr (.int .i64) 1)]), some (.arr true (.int .i64)), some (.box true [.lf (.gr (.int .u8) 6), .lf (.int .i64), .lf (.int .i64)]), none, some (.box true [.lf (.ptr 0 0)]), some (.box true [.lf (.int .i64)]), some (.arr true (.int .u8))]⟩
abbrev o38_1 : Outs := [(.exit 1, ⟨[], [], [some (.box true [.many (.int .i64) 16, .lf (.sl (.int .i64)), .lf (.sl (.int .i64)), .lf (.gr (.int .i64) 1)]), some (.arr true (.int .i64)), some (.box true [.lf (.gr (.int .u8) 4), .lf (.int .i64), .lf (.int .i64)]), none, some (.arr true (.int .u8))]⟩), (.ret, ⟨[6], [.lf (.int .i64)], [some (.box true [.many (.int .i64) 16, .lf (.sl (.int .i64)), .lf (.sl (.int .i64)), .lf (.gr (.int .i64) 1)]), some (.arr true (.int .i64)), some (.box true [.lf (.gr (.int .u8) 4), .lf (.int .i64), .lf (.int .i64)]), none, some (.arr true (.int .u8))]⟩)]
noncomputable def b38_1 (x : g38_1.D) : Option (outD ((.normal, g38_1) :: o38_1)) :=
  (if ((decide (x.2.1 < x.1)) = true) then (if ((length x.2.2.2.2.2.1) = (length x.2.2.2.2.2.1)) then (Option.bind (f65 (x.2.1, x.2.2.1, x.2.2.2.1, x.2.2.2.2.1, x.2.2.2.2.2.1, x.2.2.2.2.2.2.2.2.1, ())) (fun y1 => (if ((length x.2.2.2.2.2.2.2.2.2.1) = (length x.2.2.2.2.2.2.2.2.2.1)) then (Option.bind (f36 (y1.1, (1 : Int), x.2.2.2.2.2.2.1, x.2.2.2.2.2.2.2.1, x.2.2.2.2.2.2.2.2.2.1, ())) (fun y2 => (if ((y2.1 != (0 : Int)) = true) then (if ((length y1.2.2.2.2.1) = (length y1.2.2.2.2.1)) then (if ((length y2.2.2.2.1) = (length y2.2.2.2.1)) then (some (Sum.inr (Sum.inr (Sum.inl (y2.1, y1.2.1, y1.2.2.1, y1.2.2.2.1, y1.2.2.2.2.1, y2.2.1, y2.2.2.1, y2.2.2.2.1, ())))))
 else none)
 else none)
 else (if ((length y1.2.2.2.2.1) = (length y1.2.2.2.2.1)) then (if ((length y2.2.2.2.1) = (length y2.2.2.2.1)) then (some (Sum.inl (x.1, (IntKind.wrap .i64 (x.2.1 + (1 : Int))), y1.2.1, y1.2.2.1, y1.2.2.2.1, y1.2.2.2.2.1, y2.2.1, y2.2.2.1, y1.2.2.2.2.2.1, y2.2.2.2.1, ())))
 else none)
 else none))))
 else none)))
 else none)
 else (if ((length x.2.2.2.2.2.1) = (length x.2.2.2.2.2.1)) then (if ((length x.2.2.2.2.2.2.2.2.2.1) = (length x.2.2.2.2.2.2.2.2.2.1)) then (some (Sum.inr (Sum.inl (x.2.2.1, x.2.2.2.1, x.2.2.2.2.1, x.2.2.2.2.2.1, x.2.2.2.2.2.2.1, x.2.2.2.2.2.2.2.1, x.2.2.2.2.2.2.2.2.2.1, ()))))
 else none)
 else none))
theorem b38_1_eq (x : g38_1.D) : b38_1 x = evF P (T65.orc _) Try.f38.ntmps fx38 (Code.at [tt, tt, tt, ff, tt, ff, ff] c38) (planAt 64 []) g38_1 x (injK fx38 ((.normal, g38_1) :: o38_1) some) := by kernel_rfl
noncomputable def l38_1 : g38_1.D → Option (outD o38_1) := loopN g38_1 o38_1 b38_1 18446744073709551616
theorem at38_1 : Code.at [tt, tt, tt, ff, tt, ff] c38 = .loop (Code.at [tt, tt, tt, ff, tt, ff, ff] c38) := by kernel_rfl
theorem s38_1_ok : SubOk P Try.f38.ntmps fx38 (Code.at [tt, tt, tt, ff, tt, ff] c38) ⟨g38_1, o38_1, l38_1⟩ := by
  rw [at38_1]
  exact loop_ok (sub_ok (g := g38_1) (outs := ((.normal, g38_1) :: o38_1)) (f := b38_1) (Table.ok T65_ok _) hmix (planAt_ok (P := P) (n := Try.f38.ntmps) (fx := fx38) (c := (Code.at [tt, tt, tt, ff, tt, ff, ff] c38)) (d := 64) (l := []) trivial) b38_1_eq) rfl _
noncomputable def f38 (x : gi38.D) : Option go38.D :=
  (if ((decide (x.1 < (0 : Int))) = true) then (if ((length x.2.2.2.2.1) = (length x.2.2.2.2.1)) then (if ((length x.2.2.2.2.2.2.2.1) = (length x.2.2.2.2.2.2.2.1)) then (some ((8 : Int), x.2.1, x.2.2.1, x.2.2.2.1, x.2.2.2.2.1, x.2.2.2.2.2.1, x.2.2.2.2.2.2.1, x.2.2.2.2.2.2.2.1, ()))
 else none)
 else none)
 else (if ((decide (x.1 ≥ (((length x.2.2.1) : Nat) : Int))) = true) then (if ((length x.2.2.2.2.1) = (length x.2.2.2.2.1)) then (if ((length x.2.2.2.2.2.2.2.1) = (length x.2.2.2.2.2.2.2.1)) then (some ((8 : Int), x.2.1, x.2.2.1, x.2.2.2.1, x.2.2.2.2.1, x.2.2.2.2.2.1, x.2.2.2.2.2.2.1, x.2.2.2.2.2.2.2.1, ()))
 else none)
 else none)
 else (if ((0 : Int) ≤ x.1) then (if (x.1 < (((length x.2.2.1) : Nat) : Int)) then (if (((getD x.2.2.1 (Int.toNat x.1) (0 : Int)) == (0 : Int)) = true) then (if ((length x.2.2.2.2.1) = (length x.2.2.2.2.1)) then (if ((length x.2.2.2.2.2.2.2.1) = (length x.2.2.2.2.2.2.2.1)) then (some ((8 : Int), x.2.1, x.2.2.1, x.2.2.2.1, x.2.2.2.2.1, x.2.2.2.2.2.1, x.2.2.2.2.2.2.1, x.2.2.2.2.2.2.2.1, ()))
 else none)
 else none)
 else (if ((0 : Int) ≤ x.1) then (if (x.1 < (((length x.2.2.1) : Nat) : Int)) then (if ((length x.2.2.2.2.1) = (length x.2.2.2.2.1)) then (if ((length x.2.2.2.2.2.2.2.1) = (length x.2.2.2.2.2.2.2.1)) then (Option.bind (l38_1 ((getD x.2.2.1 (Int.toNat x.1) (0 : Int)), (0 : Int), x.2.1, x.2.2.1, x.2.2.2.1, x.2.2.2.2.1, x.2.2.2.2.2.1, x.2.2.2.2.2.2.1, x.1, x.2.2.2.2.2.2.2.1, ())) (Sum.elim (fun y1 => (if ((length y1.2.2.2.1) = (length y1.2.2.2.1)) then (if ((length y1.2.2.2.2.2.2.1) = (length y1.2.2.2.2.2.2.1)) then (some ((0 : Int), y1.1, y1.2.1, y1.2.2.1, y1.2.2.2.1, y1.2.2.2.2.1, y1.2.2.2.2.2.1, y1.2.2.2.2.2.2.1, ()))
 else none)
 else none)) (Sum.elim (fun y1 => (if ((length y1.2.2.2.2.1) = (length y1.2.2.2.2.1)) then (if ((length y1.2.2.2.2.2.2.2.1) = (length y1.2.2.2.2.2.2.2.1)) then (some (y1.1, y1.2.1, y1.2.2.1, y1.2.2.2.1, y1.2.2.2.2.1, y1.2.2.2.2.2.1, y1.2.2.2.2.2.2.1, y1.2.2.2.2.2.2.2.1, ()))
 else none)
 else none)) Empty.elim)))
 else none)
 else none)
 else none)
 else none))
 else none)
 else none)))
theorem f38_eq (x : gi38.D) : f38 x = evF P (T65.orc _) Try.f38.ntmps fx38 c38 (planAt 64 [([tt, tt, tt, ff, tt, ff], ⟨g38_1, o38_1, l38_1⟩)]) gi38 x (fnK fx38 [go38]) := by kernel_rfl
theorem pf38 : AllSub P Try.f38.ntmps fx38 c38 [([tt, tt, tt, ff, tt, ff], ⟨g38_1, o38_1, l38_1⟩)] := And.intro s38_1_ok (trivial)
theorem qf38 : PlanOk P Try.f38.ntmps fx38 (planAt 64 [([tt, tt, tt, ff, tt, ff], ⟨g38_1, o38_1, l38_1⟩)]) c38 := planAt_ok pf38
theorem f38_ok : EntOk P 38 ⟨gi38, [go38], f38⟩ :=
  ent_ok (fn := Try.f38) (gi := gi38) (gos := [go38]) (f := f38) (c := c38) (fx := fx38) ⟨Try.func38, by kernel_rfl, rfl, by decide +kernel, rfl, rfl⟩ (by kernel_rfl) (Table.ok T65_ok _) hmix (qf38) f38_eq
noncomputable def T38 : Table := T65.add 38 [⟨gi38, [go38], f38⟩] []
theorem T38_ok : TableOk P T38 := Table.plus T65_ok (es := [⟨gi38, [go38], f38⟩]) ⟨f38_ok, trivial⟩ []

noncomputable def c37 : Code := Func.code Try.f37
abbrev gi37 : Sg := ⟨[0, 1, 2, 3], [.lf (.ptr 0 0), .lf (.sl (.pair (.int .i64) (.pair (.int .i64) (.int .i64)))), .lf (.int .i64), .lf (.ptr 2 0)], [some (.box true [.many (.int .i64) 16, .lf (.sl (.int .i64)), .lf (.sl (.int .i64)), .lf (.gr (.int .i64) 1)]), some (.arr true (.int .i64)), some (.box true [.lf (.ptr 3 0)]), some (.box true [.lf (.gr (.int .u8) 4), .lf (.int .i64), .lf (.int .i64)]), some (.arr true (.int .u8))]⟩
abbrev go37 : Sg := ⟨[], [], [some (.box true [.many (.int .i64) 16, .lf (.sl (.int .i64)), .lf (.sl (.int .i64)), .lf (.gr (.int .i64) 1)]), some (.arr true (.int .i64)), some (.box true [.lf (.ptr 3 0)]), some (.box true [.lf (.gr (.int .u8) 5), .lf (.int .i64), .lf (.int .i64)]), none, some (.arr true (.int .u8))]⟩
def fx37 : List Bool := [tt, tt, tt, tt, ff]
abbrev g37_1 : Sg := ⟨[0, 1, 2, 3, 7], [.lf (.ptr 0 0), .lf (.sl (.pair (.int .i64) (.pair (.int .i64) (.int .i64)))), .lf (.int .i64), .lf (.ptr 2 0), .lf (.int .i64)], [some (.box true [.many (.int .i64) 16, .lf (.sl (.int .i64)), .lf (.sl (.int .i64)), .lf (.gr (.int .i64) 1)]), some (.arr true (.int .i64)), some (.box true [.lf (.ptr 3 0)]), some (.box true [.lf (.gr (.int .u8) 5), .lf (.int .i64), .lf (.int .i64)]), none, some (.arr true (.int .u8))]⟩
abbrev o37_1 : Outs := [(.exit 0, ⟨[0, 1, 2, 3, 7], [.lf (.ptr 0 0), .lf (.sl (.pair (.int .i64) (.pair (.int .i64) (.int .i64)))), .lf (.int .i64), .lf (.ptr 2 0), .lf (.int .i64)], [some (.box true [.many (.int .i64) 16, .lf (.sl (.int .i64)), .lf (.sl (.int .i64)), .lf (.gr (.int .i64) 1)]), some (.arr true (.int .i64)), some (.box true [.lf (.ptr 3 0)]), some (.box true [.lf (.gr (.int .u8) 5), .lf (.int .i64), .lf (.int .i64)]), none, some (.arr true (.int .u8))]⟩)]
noncomputable def b37_1 (x : g37_1.D) : Option (outD ((.normal, g37_1) :: o37_1)) :=
  (if ((0 : Int) ≤ x.2.2.1) then (if (x.2.2.1 < (((length x.1) : Nat) : Int)) then (if ((decide ((getD x.1 (Int.toNat x.2.2.1) ((0 : Int), (0 : Int), (0 : Int))).2.1 > x.2.1)) = true) then (if ((length x.2.2.2.2.2.2.1) = (length x.2.2.2.2.2.2.1)) then (if ((length x.2.2.2.2.2.2.2.2.2.1) = (length x.2.2.2.2.2.2.2.2.2.1)) then (some (Sum.inl (x.1, x.2.1, (IntKind.wrap .i64 (x.2.2.1 - (1 : Int))), x.2.2.2.1, x.2.2.2.2.1, x.2.2.2.2.2.1, x.2.2.2.2.2.2.1, x.2.2.2.2.2.2.2.1, x.2.2.2.2.2.2.2.2.1, x.2.2.2.2.2.2.2.2.2.1, ())))
 else none)
 else none)
 else (if ((length x.2.2.2.2.2.2.1) = (length x.2.2.2.2.2.2.1)) then (if ((length x.2.2.2.2.2.2.2.2.2.1) = (length x.2.2.2.2.2.2.2.2.2.1)) then (some (Sum.inr (Sum.inl (x.1, x.2.1, x.2.2.1, x.2.2.2.1, x.2.2.2.2.1, x.2.2.2.2.2.1, x.2.2.2.2.2.2.1, x.2.2.2.2.2.2.2.1, x.2.2.2.2.2.2.2.2.1, x.2.2.2.2.2.2.2.2.2.1, ()))))
 else none)
 else none))
 else none)
 else none)
theorem b37_1_eq (x : g37_1.D) : b37_1 x = evF P (T38.orc _) Try.f37.ntmps fx37 (Code.at [tt, ff, ff, ff] c37) (planAt 64 []) g37_1 x (injK fx37 ((.normal, g37_1) :: o37_1) some) := by kernel_rfl
noncomputable def l37_1 : g37_1.D → Option (outD o37_1) := loopN g37_1 o37_1 b37_1 18446744073709551616
theorem at37_1 : Code.at [tt, ff, ff] c37 = .loop (Code.at [tt, ff, ff, ff] c37) := by kernel_rfl
theorem s37_1_ok : SubOk P Try.f37.ntmps fx37 (Code.at [tt, ff, ff] c37) ⟨g37_1, o37_1, l37_1⟩ := by
  rw [at37_1]
  exact loop_ok (sub_ok (g := g37_1) (outs := ((.normal, g37_1) :: o37_1)) (f := b37_1) (Table.ok T38_ok _) hmix (planAt_ok (P := P) (n := Try.f37.ntmps) (fx := fx37) (c := (Code.at [tt, ff, ff, ff] c37)) (d := 64) (l := []) trivial) b37_1_eq) rfl _
noncomputable def f37 (x : gi37.D) : Option go37.D :=
  (if ((length x.2.2.2.2.2.1) = (length x.2.2.2.2.2.1)) then (if ((length x.2.2.2.2.2.2.2.2.1) = (length x.2.2.2.2.2.2.2.2.1)) then (Option.bind (l37_1 (x.1, x.2.1, (IntKind.wrap .i64 ((((length x.1) : Nat) : Int) - (1 : Int))), x.2.2.1, x.2.2.2.1, x.2.2.2.2.1, x.2.2.2.2.2.1, x.2.2.2.2.2.2.1, x.2.2.2.2.2.2.2.1, x.2.2.2.2.2.2.2.2.1, ())) (Sum.elim (fun y1 => (if ((0 : Int) ≤ y1.2.2.1) then (if (y1.2.2.1 < (((length y1.1) : Nat) : Int)) then (if ((length y1.2.2.2.2.2.2.1) = (length y1.2.2.2.2.2.2.1)) then (if ((length y1.2.2.2.2.2.2.2.2.2.1) = (length y1.2.2.2.2.2.2.2.2.2.1)) then (Option.bind (f38 ((getD y1.1 (Int.toNat y1.2.2.1) ((0 : Int), (0 : Int), (0 : Int))).1, y1.2.2.2.1, y1.2.2.2.2.1, y1.2.2.2.2.2.1, y1.2.2.2.2.2.2.1, y1.2.2.2.2.2.2.2.1, y1.2.2.2.2.2.2.2.2.1, y1.2.2.2.2.2.2.2.2.2.1, ())) (fun y2 => (if ((0 : Int) ≤ y1.2.2.1) then (if (y1.2.2.1 < (((length y1.1) : Nat) : Int)) then (if ((0 : Int) ≤ y1.2.2.1) then (if (y1.2.2.1 < (((length y1.1) : Nat) : Int)) then (if ((length y2.2.2.2.2.2.2.2.1) = (length y2.2.2.2.2.2.2.2.1)) then (Option.bind (f36 ((IntKind.wrap .i64 (y1.2.1 - (getD y1.1 (Int.toNat y1.2.2.1) ((0 : Int), (0 : Int), (0 : Int))).2.1)), (getD y1.1 (Int.toNat y1.2.2.1) ((0 : Int), (0 : Int), (0 : Int))).2.2, y2.2.2.2.2.2.1, y2.2.2.2.2.2.2.1, y2.2.2.2.2.2.2.2.1, ())) (fun y3 => (if ((length y2.2.2.2.2.1) = (length y2.2.2.2.2.1)) then (if ((length y3.2.2.2.1) = (length y3.2.2.2.1)) then (some (y2.2.1, y2.2.2.1, y2.2.2.2.1, y2.2.2.2.2.1, y3.2.1, y3.2.2.1, y3.2.2.2.1, ()))
 else none)
 else none)))
 else none)
 else none)
 else none)
 else none)
 else none)))
 else none)
 else none)
 else none)
 else none)) Empty.elim))
 else none)
 else none)
theorem f37_eq (x : gi37.D) : f37 x = evF P (T38.orc _) Try.f37.ntmps fx37 c37 (planAt 64 [([tt, ff, ff], ⟨g37_1, o37_1, l37_1⟩)]) gi37 x (fnK fx37 [go37]) := by kernel_rfl
theorem pf37 : AllSub P Try.f37.ntmps fx37 c37 [([tt, ff, ff], ⟨g37_1, o37_1, l37_1⟩)] := And.intro s37_1_ok (trivial)
theorem qf37 : PlanOk P Try.f37.ntmps fx37 (planAt 64 [([tt, ff, ff], ⟨g37_1, o37_1, l37_1⟩)]) c37 := planAt_ok pf37
theorem f37_ok : EntOk P 37 ⟨gi37, [go37], f37⟩ :=
  ent_ok (fn := Try.f37) (gi := gi37) (gos := [go37]) (f := f37) (c := c37) (fx := fx37) ⟨Try.func37, by kernel_rfl, rfl, by decide +kernel, rfl, rfl⟩ (by kernel_rfl) (Table.ok T38_ok _) hmix (qf37) f37_eq
noncomputable def T37 : Table := T38.add 37 [⟨gi37, [go37], f37⟩] []
theorem T37_ok : TableOk P T37 := Table.plus T38_ok (es := [⟨gi37, [go37], f37⟩]) ⟨f37_ok, trivial⟩ []

noncomputable def c66 : Code := Func.code Try.f66
abbrev gi66 : Sg := ⟨[0], [.lf (.sl (.int .u8))], []⟩
abbrev go66 : Sg := ⟨[2], [.lf (.gr (.int .u8) 0)], [some (.arr true (.int .u8))]⟩
def fx66 : List Bool := []
noncomputable def f66 (x : gi66.D) : Option go66.D :=
  (if ((length x.1) = 0) then (amb (Orc.eq (Table.orcE T37 (Sg.D go66) (Sg.eq go66) (Sg.eq_eq go66))) (some ([], ())) (if ((0 + (length x.1)) ≤ 140737488355328) then (if ((length ((take 0 (drop 0 (replicate 0 (0 : Int)))) ++ x.1)) = (length ((take 0 (drop 0 (replicate 0 (0 : Int)))) ++ x.1))) then (some (((take 0 (drop 0 (replicate 0 (0 : Int)))) ++ x.1), ()))
 else none)
 else none))
 else (if ((0 + (length x.1)) ≤ 140737488355328) then (if ((length ((take 0 (drop 0 (replicate 0 (0 : Int)))) ++ x.1)) = (length ((take 0 (drop 0 (replicate 0 (0 : Int)))) ++ x.1))) then (some (((take 0 (drop 0 (replicate 0 (0 : Int)))) ++ x.1), ()))
 else none)
 else none))
theorem f66_eq (x : gi66.D) : f66 x = evF P (T37.orcE go66.D go66.eq go66.eq_eq) Try.f66.ntmps fx66 c66 (planAt 64 []) gi66 x (fnK fx66 [go66]) := by kernel_rfl
theorem f66_ok : EntOk P 66 ⟨gi66, [go66], f66⟩ :=
  ent_ok (fn := Try.f66) (gi := gi66) (gos := [go66]) (f := f66) (c := c66) (fx := fx66) ⟨Try.func66, by kernel_rfl, rfl, by decide +kernel, rfl, rfl⟩ (by kernel_rfl) (Table.okE T37_ok _ _ _) hmix (planAt_ok (P := P) (n := Try.f66.ntmps) (fx := fx66) (c := c66) (d := 64) (l := []) trivial) f66_eq
noncomputable def T66 : Table := T37.add 66 [⟨gi66, [go66], f66⟩] []
theorem T66_ok : TableOk P T66 := Table.plus T37_ok (es := [⟨gi66, [go66], f66⟩]) ⟨f66_ok, trivial⟩ []

noncomputable def c41 : Code := Func.code Try.f41
abbrev gi41 : Sg := ⟨[0], [.lf (.ptr 0 0)], [some (.box true [.lf (.gr (.int .u8) 1), .lf (.int .i64), .lf (.int .i64)]), some (.arr true (.int .u8))]⟩
abbrev go41 : Sg := ⟨[2], [.lf (.gr (.int .u8) 2)], [some (.box true [.lf (.gr (.int .u8) 1), .lf (.int .i64), .lf (.int .i64)]), some (.arr true (.int .u8)), some (.arr true (.int .u8))]⟩
def fx41 : List Bool := [tt, tt]
noncomputable def f41 (x : gi41.D) : Option go41.D :=
  (Option.bind (f66 ((take (length x.2.2.1) (drop 0 x.2.2.1)), ())) (fun y1 => (if ((decide (x.2.1 > (0 : Int))) = true) then (if (((length (take (length y1.1) (drop 0 y1.1))) + (length (take 1 (drop 0 (List.set (replicate 1 (0 : Int)) 0 (IntKind.wrap .u8 x.1)))))) ≤ 140737488355328) then (if ((length ((take (length y1.1) (drop 0 y1.1)) ++ (take 1 (drop 0 (List.set (replicate 1 (0 : Int)) 0 (IntKind.wrap .u8 x.1)))))) = (length ((take (length y1.1) (drop 0 y1.1)) ++ (take 1 (drop 0 (List.set (replicate 1 (0 : Int)) 0 (IntKind.wrap .u8 x.1))))))) then (if ((length x.2.2.1) = (length x.2.2.1)) then (some (x.1, x.2.1, x.2.2.1, ((take (length y1.1) (drop 0 y1.1)) ++ (take 1 (drop 0 (List.set (replicate 1 (0 : Int)) 0 (IntKind.wrap .u8 x.1))))), ()))
 else none)
 else none)
 else none)
 else (if ((length y1.1) = (length y1.1)) then (if ((length x.2.2.1) = (length x.2.2.1)) then (some (x.1, x.2.1, x.2.2.1, y1.1, ()))
 else none)
 else none))))
theorem f41_eq (x : gi41.D) : f41 x = evF P (T66.orc _) Try.f41.ntmps fx41 c41 (planAt 64 []) gi41 x (fnK fx41 [go41]) := by kernel_rfl
theorem f41_ok : EntOk P 41 ⟨gi41, [go41], f41⟩ :=
  ent_ok (fn := Try.f41) (gi := gi41) (gos := [go41]) (f := f41) (c := c41) (fx := fx41) ⟨Try.func41, by kernel_rfl, rfl, by decide +kernel, rfl, rfl⟩ (by kernel_rfl) (Table.ok T66_ok _) hmix (planAt_ok (P := P) (n := Try.f41.ntmps) (fx := fx41) (c := c41) (d := 64) (l := []) trivial) f41_eq
noncomputable def T41 : Table := T66.add 41 [⟨gi41, [go41], f41⟩] []
theorem T41_ok : TableOk P T41 := Table.plus T66_ok (es := [⟨gi41, [go41], f41⟩]) ⟨f41_ok, trivial⟩ []

noncomputable def c21 : Code := Func.code Try.f21
abbrev gi21 : Sg := ⟨[0], [.lf (.sl (.pair (.int .i64) (.pair (.int .i64) (.int .i64))))], []⟩
abbrev go21 : Sg := ⟨[2, 3], [.lf (.gr (.int .u8) 0), .lf (.int .i64)], [some (.arr true (.int .u8))]⟩
def fx21 : List Bool := []
abbrev g21_2 : Sg := ⟨[4, 6, 7, 8, 9, 10, 38, 39, 40], [.lf (.ptr 0 0), .lf (.ptr 1 0), .lf (.ptr 2 0), .lf (.fnc 37 [(.ptr 2 0)]), .lf (.sl (.pair (.int .i64) (.pair (.int .i64) (.int .i64)))), .lf (.sl (.pair (.int .i64) (.pair (.int .i64) (.int .i64)))), .lf (.sl (.pair (.int .i64) (.pair (.int .i64) (.int .i64)))), .lf (.int .i64), .lf (.int .i64)], [some (.box true [.many (.int .i64) 16, .lf (.sl (.int .i64)), .lf (.sl (.int .i64)), .lf (.gr (.int .i64) 3)]), some (.box true [.many (.int .i64) 16, .lf (.sl (.int .i64)), .lf (.sl (.int .i64)), .lf (.gr (.int .i64) 4)]), some (.box true [.lf (.ptr 5 0)]), some (.arr true (.int .i64)), some (.arr true (.int .i64)), some (.box true [.lf (.gr (.int .u8) 6), .lf (.int .i64), .lf (.int .i64)]), some (.arr true (.int .u8))]⟩
abbrev o21_2 : Outs := [(.exit 0, ⟨[4, 7], [.lf (.ptr 0 0), .lf (.ptr 1 0)], [some (.box true [.many (.int .i64) 16, .lf (.sl (.int .i64)), .lf (.sl (.int .i64)), .lf (.gr (.int .i64) 2)]), some (.box true [.lf (.ptr 3 0)]), some (.arr true (.int .i64)), some (.box true [.lf (.gr (.int .u8) 4), .lf (.int .i64), .lf (.int .i64)]), some (.arr true (.int .u8))]⟩)]
noncomputable def b21_2 (x : g21_2.D) : Option (outD ((.normal, g21_2) :: o21_2)) :=
  (if ((decide (x.2.2.2.2.1 < x.2.2.2.1)) = true) then (if ((0 : Int) ≤ x.2.2.2.2.1) then (if (x.2.2.2.2.1 < (((length x.2.2.1) : Nat) : Int)) then (if (((getD x.2.2.1 (Int.toNat x.2.2.2.2.1) ((0 : Int), (0 : Int), (0 : Int))).2.1 == (0 : Int)) = true) then (if ((length x.2.2.2.2.2.2.2.2.2.2.2.1) = (length x.2.2.2.2.2.2.2.2.2.2.2.1)) then (if ((length x.2.2.2.2.2.2.2.2.2.2.2.2.2.2.2.1) = (length x.2.2.2.2.2.2.2.2.2.2.2.2.2.2.2.1)) then (Option.bind (f38 ((getD x.2.2.1 (Int.toNat x.2.2.2.2.1) ((0 : Int), (0 : Int), (0 : Int))).1, x.2.2.2.2.2.1, x.2.2.2.2.2.2.1, x.2.2.2.2.2.2.2.1, x.2.2.2.2.2.2.2.2.2.2.2.1, x.2.2.2.2.2.2.2.2.2.2.2.2.2.1, x.2.2.2.2.2.2.2.2.2.2.2.2.2.2.1, x.2.2.2.2.2.2.2.2.2.2.2.2.2.2.2.1, ())) (fun y1 => (if ((length y1.2.2.2.2.1) = (length y1.2.2.2.2.1)) then (if ((length x.2.2.2.2.2.2.2.2.2.2.2.2.1) = (length x.2.2.2.2.2.2.2.2.2.2.2.2.1)) then (if ((length y1.2.2.2.2.2.2.2.1) = (length y1.2.2.2.2.2.2.2.1)) then (some (Sum.inl (x.1, x.2.1, x.2.2.1, x.2.2.2.1, (IntKind.wrap .i64 (x.2.2.2.2.1 + (1 : Int))), y1.2.1, y1.2.2.1, y1.2.2.2.1, x.2.2.2.2.2.2.2.2.1, x.2.2.2.2.2.2.2.2.2.1, x.2.2.2.2.2.2.2.2.2.2.1, y1.2.2.2.2.1, x.2.2.2.2.2.2.2.2.2.2.2.2.1, y1.2.2.2.2.2.1, y1.2.2.2.2.2.2.1, y1.2.2.2.2.2.2.2.1, ())))
 else none)
 else none)
 else none)))
 else none)
 else none)
 else (if ((length x.2.2.2.2.2.2.2.2.2.2.2.1) = (length x.2.2.2.2.2.2.2.2.2.2.2.1)) then (if ((length x.2.2.2.2.2.2.2.2.2.2.2.2.2.2.2.1) = (length x.2.2.2.2.2.2.2.2.2.2.2.2.2.2.2.1)) then (Option.bind (f37 (x.1, (getD x.2.2.1 (Int.toNat x.2.2.2.2.1) ((0 : Int), (0 : Int), (0 : Int))).2.1, x.2.2.2.2.2.1, x.2.2.2.2.2.2.1, x.2.2.2.2.2.2.2.1, x.2.2.2.2.2.2.2.2.2.2.2.1, x.2.2.2.2.2.2.2.2.2.2.2.2.2.1, x.2.2.2.2.2.2.2.2.2.2.2.2.2.2.1, x.2.2.2.2.2.2.2.2.2.2.2.2.2.2.2.1, ())) (fun y1 => (if ((length x.2.2.2.2.2.2.2.2.2.2.2.2.1) = (length x.2.2.2.2.2.2.2.2.2.2.2.2.1)) then (if ((length y1.2.2.2.2.2.2.1) = (length y1.2.2.2.2.2.2.1)) then (Option.bind (f37 (x.2.1, (getD x.2.2.1 (Int.toNat x.2.2.2.2.1) ((0 : Int), (0 : Int), (0 : Int))).2.2, x.2.2.2.2.2.2.2.2.1, x.2.2.2.2.2.2.2.2.2.1, x.2.2.2.2.2.2.2.2.2.2.1, x.2.2.2.2.2.2.2.2.2.2.2.2.1, y1.2.2.2.2.1, y1.2.2.2.2.2.1, y1.2.2.2.2.2.2.1, ())) (fun y2 => (if ((length y1.2.2.2.1) = (length y1.2.2.2.1)) then (if ((length y2.2.2.2.1) = (length y2.2.2.2.1)) then (if ((length y2.2.2.2.2.2.2.1) = (length y2.2.2.2.2.2.2.1)) then (some (Sum.inl (x.1, x.2.1, x.2.2.1, x.2.2.2.1, (IntKind.wrap .i64 (x.2.2.2.2.1 + (1 : Int))), y1.1, y1.2.1, y1.2.2.1, y2.1, y2.2.1, y2.2.2.1, y1.2.2.2.1, y2.2.2.2.1, y2.2.2.2.2.1, y2.2.2.2.2.2.1, y2.2.2.2.2.2.2.1, ())))
 else none)
 else none)
 else none)))
 else none)
 else none)))
 else none)
 else none))
 else none)
 else none)
 else (if ((length x.2.2.2.2.2.2.2.2.2.2.2.1) = (length x.2.2.2.2.2.2.2.2.2.2.2.1)) then (if ((length x.2.2.2.2.2.2.2.2.2.2.2.2.2.2.2.1) = (length x.2.2.2.2.2.2.2.2.2.2.2.2.2.2.2.1)) then (some (Sum.inr (Sum.inl (x.2.2.2.2.2.1, x.2.2.2.2.2.2.1, x.2.2.2.2.2.2.2.1, x.2.2.2.2.2.2.2.2.2.2.2.1, x.2.2.2.2.2.2.2.2.2.2.2.2.2.1, x.2.2.2.2.2.2.2.2.2.2.2.2.2.2.1, x.2.2.2.2.2.2.2.2.2.2.2.2.2.2.2.1, ()))))
 else none)
 else none))
theorem b21_2_eq (x : g21_2.D) : b21_2 x = evF P (T41.orc _) Try.f21.ntmps fx21 (Code.at [tt, tt, tt, tt, tt, tt, tt, tt, tt, tt, ff, tt, ff, ff] c21) (planAt 64 []) g21_2 x (injK fx21 ((.normal, g21_2) :: o21_2) some) := by kernel_rfl
noncomputable def l21_2 : g21_2.D → Option (outD o21_2) := loopN g21_2 o21_2 b21_2 18446744073709551616
theorem at21_2 : Code.at [tt, tt, tt, tt, tt, tt, tt, tt, tt, tt, ff, tt, ff] c21 = .loop (Code.at [tt, tt, tt, tt, tt, tt, tt, tt, tt, tt, ff, tt, ff, ff] c21) := by kernel_rfl
theorem s21_2_ok : SubOk P Try.f21.ntmps fx21 (Code.at [tt, tt, tt, tt, tt, tt, tt, tt, tt, tt, ff, tt, ff] c21) ⟨g21_2, o21_2, l21_2⟩ := by
  rw [at21_2]
  exact loop_ok (sub_ok (g := g21_2) (outs := ((.normal, g21_2) :: o21_2)) (f := b21_2) (Table.ok T41_ok _) hmix (planAt_ok (P := P) (n := Try.f21.ntmps) (fx := fx21) (c := (Code.at [tt, tt, tt, tt, tt, tt, tt, tt, tt, tt, ff, tt, ff, ff] c21)) (d := 64) (l := []) trivial) b21_2_eq) rfl _
abbrev g21_1 : Sg := ⟨[0], [.lf (.sl (.pair (.int .i64) (.pair (.int .i64) (.int .i64))))], []⟩
abbrev o21_1 : Outs := [(.normal, ⟨[0, 4, 5], [.lf (.sl (.pair (.int .i64) (.pair (.int .i64) (.int .i64)))), .lf .nilp, .lf (.int .i64)], []⟩), (.normal, ⟨[0, 4, 5], [.lf (.sl (.pair (.int .i64) (.pair (.int .i64) (.int .i64)))), .lf (.ptr 0 0), .lf (.int .i64)], [some (.box true [.many (.int .i64) 16, .lf (.sl (.int .i64)), .lf (.sl (.int .i64)), .lf (.gr (.int .i64) 1)]), some (.arr true (.int .i64))]⟩)]
noncomputable def b21_1 (x : g21_1.D) : Option (outD o21_1) :=
  (Option.bind (f33 ()) (fun y1 => (Option.bind (f32 ((take (length y1.1) (drop 0 y1.1)), ())) (Sum.elim (fun y2 => (some (Sum.inl (x.1, y2.1, ())))) (fun y2 => (if ((length y2.2.2.2.2.1) = (length y2.2.2.2.2.1)) then (some (Sum.inr (Sum.inl (x.1, y2.1, y2.2.1, y2.2.2.1, y2.2.2.2.1, y2.2.2.2.2.1, ()))))
 else none))))))
theorem b21_1_eq (x : g21_1.D) : b21_1 x = evF P (T41.orc _) Try.f21.ntmps fx21 (Code.at [tt, tt, ff] c21) (planAt 64 []) g21_1 x (injK fx21 o21_1 some) := by kernel_rfl
theorem s21_1_ok : SubOk P Try.f21.ntmps fx21 (Code.at [tt, tt, ff] c21) ⟨g21_1, o21_1, b21_1⟩ :=
  sub_ok (g := g21_1) (outs := o21_1) (f := b21_1) (Table.ok T41_ok _) hmix (planAt_ok (P := P) (n := Try.f21.ntmps) (fx := fx21) (c := (Code.at [tt, tt, ff] c21)) (d := 64) (l := []) trivial) b21_1_eq
noncomputable def f21 (x : gi21.D) : Option go21.D :=
  (Option.bind (f29 (x.1, ())) (fun y1 => (if (y1.1 = true) then (some ((1 : Int), [], ()))
 else (Option.bind (b21_1 (x.1, ())) (Sum.elim (fun y2 => (if ((y2.2.1 != (0 : Int)) = true) then (some (y2.2.1, [], ()))
 else (Option.bind (f34 ((take 1 (drop 0 (List.set (replicate 1 (0 : Int)) 0 (5 : Int)))), (32 : Int), ())) (fun y3 => (Option.bind (f32 ((take (length y3.1) (drop 0 y3.1)), ())) (Sum.elim (fun y4 => (if ((y4.1 != (0 : Int)) = true) then (some (y4.1, [], ()))
 else (Option.bind (f35 ()) (fun y5 => (if ((length y5.2.2.1) = (length y5.2.2.1)) then (Option.bind (f36 ((3 : Int), (3 : Int), y5.1, y5.2.1, y5.2.2.1, ())) (fun _ => (Option.bind (f39 ()) (fun _ => (Option.bind (f40 ()) (fun _ => none))))))
 else none))))) (fun y4 => (if ((y4.1 != (0 : Int)) = true) then (some (y4.1, [], ()))
 else (Option.bind (f35 ()) (fun y5 => (if ((length y5.2.2.1) = (length y5.2.2.1)) then (Option.bind (f36 ((3 : Int), (3 : Int), y5.1, y5.2.1, y5.2.2.1, ())) (fun _ => (Option.bind (f39 ()) (fun _ => (Option.bind (f40 ()) (fun _ => none))))))
 else none))))))))))) (Sum.elim (fun y2 => (if ((y2.2.1 != (0 : Int)) = true) then (some (y2.2.1, [], ()))
 else (Option.bind (f34 ((take 1 (drop 0 (List.set (replicate 1 (0 : Int)) 0 (5 : Int)))), (32 : Int), ())) (fun y3 => (Option.bind (f32 ((take (length y3.1) (drop 0 y3.1)), ())) (Sum.elim (fun y4 => (if ((y4.1 != (0 : Int)) = true) then (some (y4.1, [], ()))
 else (Option.bind (f35 ()) (fun y5 => (if ((length y5.2.2.1) = (length y5.2.2.1)) then (Option.bind (f36 ((3 : Int), (3 : Int), y5.1, y5.2.1, y5.2.2.1, ())) (fun _ => (Option.bind (f39 ()) (fun _ => (Option.bind (f40 ()) (fun _ => none))))))
 else none))))) (fun y4 => (if ((y4.1 != (0 : Int)) = true) then (some (y4.1, [], ()))
 else (Option.bind (f35 ()) (fun y5 => (if ((length y5.2.2.1) = (length y5.2.2.1)) then (Option.bind (f36 ((3 : Int), (3 : Int), y5.1, y5.2.1, y5.2.2.1, ())) (fun y6 => (Option.bind (f39 ()) (fun y7 => (Option.bind (f40 ()) (fun y8 => (if ((length y2.2.2.2.2.2.1) = (length y2.2.2.2.2.2.1)) then (if ((length y4.2.2.2.2.1) = (length y4.2.2.2.2.1)) then (if ((length y6.2.2.2.1) = (length y6.2.2.2.1)) then (Option.bind (l21_2 ((take (length y7.1) (drop 0 y7.1)), (take (length y8.1) (drop 0 y8.1)), y2.1, (((length y2.1) : Nat) : Int), (0 : Int), y2.2.2.1, y2.2.2.2.1, y2.2.2.2.2.1, y4.2.1, y4.2.2.1, y4.2.2.2.1, y2.2.2.2.2.2.1, y4.2.2.2.2.1, y6.2.1, y6.2.2.1, y6.2.2.2.1, ())) (Sum.elim (fun y9 => (if ((length y9.2.2.2.1) = (length y9.2.2.2.1)) then (if ((length y9.2.2.2.2.2.2.1) = (length y9.2.2.2.2.2.2.1)) then (Option.bind (f38 ((256 : Int), y9.1, y9.2.1, y9.2.2.1, y9.2.2.2.1, y9.2.2.2.2.1, y9.2.2.2.2.2.1, y9.2.2.2.2.2.2.1, ())) (fun y10 => (if ((length y10.2.2.2.2.2.2.2.1) = (length y10.2.2.2.2.2.2.2.1)) then (Option.bind (f41 (y10.2.2.2.2.2.1, y10.2.2.2.2.2.2.1, y10.2.2.2.2.2.2.2.1, ())) (fun y11 => (if ((length y11.2.2.2.1) = (length y11.2.2.2.1)) then (some ((0 : Int), y11.2.2.2.1, ()))
 else none)))
 else none)))
 else none)
 else none)) Empty.elim))
 else none)
 else none)
 else none)))))))
 else none))))))))))) Empty.elim))))))
theorem f21_eq (x : gi21.D) : f21 x = evF P (T41.orc _) Try.f21.ntmps fx21 c21 (planAt 64 [([tt, tt, ff], ⟨g21_1, o21_1, b21_1⟩), ([tt, tt, tt, tt, tt, tt, tt, tt, tt, tt, ff, tt, ff], ⟨g21_2, o21_2, l21_2⟩)]) gi21 x (fnK fx21 [go21]) := by kernel_rfl
theorem pf21 : AllSub P Try.f21.ntmps fx21 c21 [([tt, tt, ff], ⟨g21_1, o21_1, b21_1⟩), ([tt, tt, tt, tt, tt, tt, tt, tt, tt, tt, ff, tt, ff], ⟨g21_2, o21_2, l21_2⟩)] := And.intro s21_1_ok (And.intro s21_2_ok (trivial))
theorem qf21 : PlanOk P Try.f21.ntmps fx21 (planAt 64 [([tt, tt, ff], ⟨g21_1, o21_1, b21_1⟩), ([tt, tt, tt, tt, tt, tt, tt, tt, tt, tt, ff, tt, ff], ⟨g21_2, o21_2, l21_2⟩)]) c21 := planAt_ok pf21
theorem f21_ok : EntOk P 21 ⟨gi21, [go21], f21⟩ :=
  ent_ok (fn := Try.f21) (gi := gi21) (gos := [go21]) (f := f21) (c := c21) (fx := fx21) ⟨Try.func21, by kernel_rfl, rfl, by decide +kernel, rfl, rfl⟩ (by kernel_rfl) (Table.ok T41_ok _) hmix (qf21) f21_eq
noncomputable def T21 : Table := T41.add 21 [⟨gi21, [go21], f21⟩] []
theorem T21_ok : TableOk P T21 := Table.plus T41_ok (es := [⟨gi21, [go21], f21⟩]) ⟨f21_ok, trivial⟩ []

noncomputable def c15 : Code := Func.code Try.f15
abbrev gi15 : Sg := ⟨[0], [.lf (.sl (.int .u8))], []⟩
abbrev go15 : Sg := ⟨[2, 3], [.lf (.gr (.int .u8) 0), .lf (.int .i64)], [some (.arr true (.int .u8))]⟩
def fx15 : List Bool := []
noncomputable def f15 (x : gi15.D) : Option go15.D :=
  (Option.bind (f20 (x.1, ())) (fun y1 => (if ((y1.1 != (0 : Int)) = true) then (some (y1.1, [], ()))
 else (Option.bind (f21 ((take (length y1.2.1) (drop 0 y1.2.1)), ())) (fun y2 => (if ((length y2.2.1) = (length y2.2.1)) then (some (y2.1, y2.2.1, ()))
 else none))))))
theorem f15_eq (x : gi15.D) : f15 x = evF P (T21.orc _) Try.f15.ntmps fx15 c15 (planAt 64 []) gi15 x (fnK fx15 [go15]) := by kernel_rfl
theorem f15_ok : EntOk P 15 ⟨gi15, [go15], f15⟩ :=
  ent_ok (fn := Try.f15) (gi := gi15) (gos := [go15]) (f := f15) (c := c15) (fx := fx15) ⟨Try.func15, by kernel_rfl, rfl, by decide +kernel, rfl, rfl⟩ (by kernel_rfl) (Table.ok T21_ok _) hmix (planAt_ok (P := P) (n := Try.f15.ntmps) (fx := fx15) (c := c15) (d := 64) (l := []) trivial) f15_eq
noncomputable def T15 : Table := T21.add 15 [⟨gi15, [go15], f15⟩] []
theorem T15_ok : TableOk P T15 := Table.plus T21_ok (es := [⟨gi15, [go15], f15⟩]) ⟨f15_ok, trivial⟩ []

noncomputable def c10 : Code := Func.code Try.f10
abbrev gi10 : Sg := ⟨[0], [.lf (.sl (.int .u8))], []⟩
abbrev go10 : Sg := ⟨[2, 3], [.lf (.gr (.int .u8) 0), .lf (.int .i64)], [some (.arr true (.int .u8))]⟩
def fx10 : List Bool := []
abbrev g10_1 : Sg := ⟨[0, 4, 6, 18], [.lf (.sl (.int .u8)), .lf (.sl (.int .u8)), .lf (.gr (.int .u8) 0), .lf (.ptr 1 0)], [some (.arr true (.int .u8)), some .iter]⟩
abbrev o10_1 : Outs := [(.exit 0, ⟨[0, 4, 6], [.lf (.sl (.int .u8)), .lf (.sl (.int .u8)), .lf (.gr (.int .u8) 0)], [some (.arr true (.int .u8))]⟩)]
noncomputable def b10_1 (x : g10_1.D) : Option (outD ((.normal, g10_1) :: o10_1)) :=
  (if (x.2.2.2.2.1 < (ByteArray.size x.2.2.2.1)) then (if (((length (take (length x.2.2.1) (drop 0 x.2.2.1))) + (length (take 1 (drop 0 (List.set (replicate 1 (0 : Int)) 0 (IntKind.wrap .u8 (((Go.Utf8.decode x.2.2.2.1 x.2.2.2.2.1).1 : Nat) : Int))))))) ≤ 140737488355328) then (if ((length ((take (length x.2.2.1) (drop 0 x.2.2.1)) ++ (take 1 (drop 0 (List.set (replicate 1 (0 : Int)) 0 (IntKind.wrap .u8 (((Go.Utf8.decode x.2.2.2.1 x.2.2.2.2.1).1 : Nat) : Int))))))) = (length ((take (length x.2.2.1) (drop 0 x.2.2.1)) ++ (take 1 (drop 0 (List.set (replicate 1 (0 : Int)) 0 (IntKind.wrap .u8 (((Go.Utf8.decode x.2.2.2.1 x.2.2.2.2.1).1 : Nat) : Int)))))))) then (some (Sum.inl (x.1, x.2.1, ((take (length x.2.2.1) (drop 0 x.2.2.1)) ++ (take 1 (drop 0 (List.set (replicate 1 (0 : Int)) 0 (IntKind.wrap .u8 (((Go.Utf8.decode x.2.2.2.1 x.2.2.2.2.1).1 : Nat) : Int)))))), x.2.2.2.1, (x.2.2.2.2.1 + (Go.Utf8.decode x.2.2.2.1 x.2.2.2.2.1).2), ())))
 else none)
 else none)
 else (if ((length x.2.2.1) = (length x.2.2.1)) then (some (Sum.inr (Sum.inl (x.1, x.2.1, x.2.2.1, ()))))
 else none))
theorem b10_1_eq (x : g10_1.D) : b10_1 x = evF P (T15.orc _) Try.f10.ntmps fx10 (Code.at [tt, tt, tt, tt, ff, tt, ff, ff] c10) (planAt 64 []) g10_1 x (injK fx10 ((.normal, g10_1) :: o10_1) some) := by kernel_rfl
noncomputable def l10_1 : g10_1.D → Option (outD o10_1) := loopN g10_1 o10_1 b10_1 18446744073709551616
theorem at10_1 : Code.at [tt, tt, tt, tt, ff, tt, ff] c10 = .loop (Code.at [tt, tt, tt, tt, ff, tt, ff, ff] c10) := by kernel_rfl
theorem s10_1_ok : SubOk P Try.f10.ntmps fx10 (Code.at [tt, tt, tt, tt, ff, tt, ff] c10) ⟨g10_1, o10_1, l10_1⟩ := by
  rw [at10_1]
  exact loop_ok (sub_ok (g := g10_1) (outs := ((.normal, g10_1) :: o10_1)) (f := b10_1) (Table.ok T15_ok _) hmix (planAt_ok (P := P) (n := Try.f10.ntmps) (fx := fx10) (c := (Code.at [tt, tt, tt, tt, ff, tt, ff, ff] c10)) (d := 64) (l := []) trivial) b10_1_eq) rfl _
noncomputable def f10 (x : gi10.D) : Option go10.D :=
  (Option.bind (f15 (x.1, ())) (fun y1 => (if ((y1.1 != (0 : Int)) = true) then (some (y1.1, [], ()))
 else (Option.bind (l10_1 (x.1, (take (length y1.2.1) (drop 0 y1.2.1)), [], (ByteArray.mk #[120, 1]), 0, ())) (Sum.elim (fun y2 => (if (((length (take (length y2.2.2.1) (drop 0 y2.2.2.1))) + (length y2.2.1)) ≤ 140737488355328) then (Option.bind (f7 (y2.1, ())) (fun y3 => (if (((length (take (length ((take (length y2.2.2.1) (drop 0 y2.2.2.1)) ++ y2.2.1)) (drop 0 ((take (length y2.2.2.1) (drop 0 y2.2.2.1)) ++ y2.2.1)))) + (length (take 4 (drop 0 (List.set (List.set (List.set (List.set (replicate 4 (0 : Int)) 0 (IntKind.wrap .u8 (Int.fdiv y3.1 (16777216 : Int)))) 1 (IntKind.wrap .u8 (Int.fdiv y3.1 (65536 : Int)))) 2 (IntKind.wrap .u8 (Int.fdiv y3.1 (256 : Int)))) 3 (IntKind.wrap .u8 y3.1)))))) ≤ 140737488355328) then (if ((length ((take (length ((take (length y2.2.2.1) (drop 0 y2.2.2.1)) ++ y2.2.1)) (drop 0 ((take (length y2.2.2.1) (drop 0 y2.2.2.1)) ++ y2.2.1))) ++ (take 4 (drop 0 (List.set (List.set (List.set (List.set (replicate 4 (0 : Int)) 0 (IntKind.wrap .u8 (Int.fdiv y3.1 (16777216 : Int)))) 1 (IntKind.wrap .u8 (Int.fdiv y3.1 (65536 : Int)))) 2 (IntKind.wrap .u8 (Int.fdiv y3.1 (256 : Int)))) 3 (IntKind.wrap .u8 y3.1)))))) = (length ((take (length ((take (length y2.2.2.1) (drop 0 y2.2.2.1)) ++ y2.2.1)) (drop 0 ((take (length y2.2.2.1) (drop 0 y2.2.2.1)) ++ y2.2.1))) ++ (take 4 (drop 0 (List.set (List.set (List.set (List.set (replicate 4 (0 : Int)) 0 (IntKind.wrap .u8 (Int.fdiv y3.1 (16777216 : Int)))) 1 (IntKind.wrap .u8 (Int.fdiv y3.1 (65536 : Int)))) 2 (IntKind.wrap .u8 (Int.fdiv y3.1 (256 : Int)))) 3 (IntKind.wrap .u8 y3.1))))))) then (some ((0 : Int), ((take (length ((take (length y2.2.2.1) (drop 0 y2.2.2.1)) ++ y2.2.1)) (drop 0 ((take (length y2.2.2.1) (drop 0 y2.2.2.1)) ++ y2.2.1))) ++ (take 4 (drop 0 (List.set (List.set (List.set (List.set (replicate 4 (0 : Int)) 0 (IntKind.wrap .u8 (Int.fdiv y3.1 (16777216 : Int)))) 1 (IntKind.wrap .u8 (Int.fdiv y3.1 (65536 : Int)))) 2 (IntKind.wrap .u8 (Int.fdiv y3.1 (256 : Int)))) 3 (IntKind.wrap .u8 y3.1))))), ()))
 else none)
 else none)))
 else none)) Empty.elim)))))
theorem f10_eq (x : gi10.D) : f10 x = evF P (T15.orc _) Try.f10.ntmps fx10 c10 (planAt 64 [([tt, tt, tt, tt, ff, tt, ff], ⟨g10_1, o10_1, l10_1⟩)]) gi10 x (fnK fx10 [go10]) := by kernel_rfl
theorem pf10 : AllSub P Try.f10.ntmps fx10 c10 [([tt, tt, tt, tt, ff, tt, ff], ⟨g10_1, o10_1, l10_1⟩)] := And.intro s10_1_ok (trivial)
theorem qf10 : PlanOk P Try.f10.ntmps fx10 (planAt 64 [([tt, tt, tt, tt, ff, tt, ff], ⟨g10_1, o10_1, l10_1⟩)]) c10 := planAt_ok pf10
theorem f10_ok : EntOk P 10 ⟨gi10, [go10], f10⟩ :=
  ent_ok (fn := Try.f10) (gi := gi10) (gos := [go10]) (f := f10) (c := c10) (fx := fx10) ⟨Try.func10, by kernel_rfl, rfl, by decide +kernel, rfl, rfl⟩ (by kernel_rfl) (Table.ok T15_ok _) hmix (qf10) f10_eq
noncomputable def T10 : Table := T15.add 10 [⟨gi10, [go10], f10⟩] []
theorem T10_ok : TableOk P T10 := Table.plus T15_ok (es := [⟨gi10, [go10], f10⟩]) ⟨f10_ok, trivial⟩ []

noncomputable def c8 : Code := Func.code Try.f8
abbrev gi8 : Sg := ⟨[], [], []⟩
abbrev go8 : Sg := ⟨[0], [.lf .bool], []⟩
def fx8 : List Bool := []
noncomputable def f8 (_ : gi8.D) : Option go8.D :=
  (Option.bind (f10 ((take 3 (drop 0 (List.set (List.set (List.set (replicate 3 (0 : Int)) 0 (97 : Int)) 1 (98 : Int)) 2 (99 : Int)))), ())) (fun y1 => (Option.bind (f7 ([], ())) (fun y2 => (if ((y2.1 == (1 : Int)) = true) then (Option.bind (f7 ((take 3 (drop 0 (List.set (List.set (List.set (replicate 3 (0 : Int)) 0 (97 : Int)) 1 (98 : Int)) 2 (99 : Int)))), ())) (fun y3 => (if ((y3.1 == (38600999 : Int)) = true) then (if (((ByteArray.toList (ByteArray.mk (List.toArray (List.map (fun y4 => (UInt8.ofNat (Int.toNat y4))) (take (length y1.2.1) (drop 0 y1.2.1)))))) == (ByteArray.toList (ByteArray.mk #[120, 1, 75, 76, 74, 6, 0, 2, 77, 1, 39]))) = true) then (some ((y1.1 == (0 : Int)), ()))
 else (some (false, ())))
 else (some (false, ())))))
 else (some (false, ())))))))
theorem f8_eq (x : gi8.D) : f8 x = evF P (T10.orc _) Try.f8.ntmps fx8 c8 (planAt 64 []) gi8 x (fnK fx8 [go8]) := by kernel_rfl
theorem f8_ok : EntOk P 8 ⟨gi8, [go8], f8⟩ :=
  ent_ok (fn := Try.f8) (gi := gi8) (gos := [go8]) (f := f8) (c := c8) (fx := fx8) ⟨Try.func8, by kernel_rfl, rfl, by decide +kernel, rfl, rfl⟩ (by kernel_rfl) (Table.ok T10_ok _) hmix (planAt_ok (P := P) (n := Try.f8.ntmps) (fx := fx8) (c := c8) (d := 64) (l := []) trivial) f8_eq
noncomputable def T8 : Table := T10.add 8 [⟨gi8, [go8], f8⟩] []
theorem T8_ok : TableOk P T8 := Table.plus T10_ok (es := [⟨gi8, [go8], f8⟩]) ⟨f8_ok, trivial⟩ []

noncomputable def c9 : Code := Func.code Try.f9
abbrev gi9 : Sg := ⟨[0], [.lf (.sl (.int .u8))], []⟩
abbrev go9 : Sg := ⟨[2], [.lf (.gr (.int .u8) 0)], [some (.arr true (.int .u8))]⟩
def fx9 : List Bool := []
noncomputable def f9 (x : gi9.D) : Option go9.D :=
  (if ((0 + (length x.1)) ≤ 140737488355328) then (if ((0 < (0 + (length x.1))) ∨ ((0 = 0) ∧ (0 = 0))) then (if ((length ([] ++ x.1)) = (length ([] ++ x.1))) then (some (([] ++ x.1), ()))
 else none)
 else none)
 else none)
theorem f9_eq (x : gi9.D) : f9 x = evF P (T8.orc _) Try.f9.ntmps fx9 c9 (planAt 64 []) gi9 x (fnK fx9 [go9]) := by kernel_rfl
theorem f9_ok : EntOk P 9 ⟨gi9, [go9], f9⟩ :=
  ent_ok (fn := Try.f9) (gi := gi9) (gos := [go9]) (f := f9) (c := c9) (fx := fx9) ⟨Try.func9, by kernel_rfl, rfl, by decide +kernel, rfl, rfl⟩ (by kernel_rfl) (Table.ok T8_ok _) hmix (planAt_ok (P := P) (n := Try.f9.ntmps) (fx := fx9) (c := c9) (d := 64) (l := []) trivial) f9_eq
noncomputable def T9 : Table := T8.add 9 [⟨gi9, [go9], f9⟩] []
theorem T9_ok : TableOk P T9 := Table.plus T8_ok (es := [⟨gi9, [go9], f9⟩]) ⟨f9_ok, trivial⟩ []

noncomputable def c42 : Code := Func.code Try.f42
abbrev gi42 : Sg := ⟨[0, 1, 2], [.lf (.sl (.int .u8)), .lf (.int .i64), .lf (.int .i64)], []⟩
abbrev go42 : Sg := ⟨[6], [.lf (.int .i64)], []⟩
def fx42 : List Bool := []
abbrev g42_1 : Sg := ⟨[0, 1, 2, 7], [.lf (.sl (.int .u8)), .lf (.int .i64), .lf (.int .i64), .lf (.int .i64)], []⟩
abbrev o42_1 : Outs := [(.exit 0, ⟨[7], [.lf (.int .i64)], []⟩)]
noncomputable def b42_1 (x : g42_1.D) : Option (outD ((.normal, g42_1) :: o42_1)) :=
  (if ((decide (x.2.2.2.1 < (258 : Int))) = true) then (if ((decide ((IntKind.wrap .i64 (x.2.1 + x.2.2.2.1)) < (((length x.1) : Nat) : Int))) = true) then (if ((0 : Int) ≤ (IntKind.wrap .i64 (x.2.1 + x.2.2.2.1))) then (if ((IntKind.wrap .i64 (x.2.1 + x.2.2.2.1)) < (((length x.1) : Nat) : Int)) then (if ((0 : Int) ≤ (IntKind.wrap .i64 ((IntKind.wrap .i64 (x.2.1 + x.2.2.2.1)) - x.2.2.1))) then (if ((IntKind.wrap .i64 ((IntKind.wrap .i64 (x.2.1 + x.2.2.2.1)) - x.2.2.1)) < (((length x.1) : Nat) : Int)) then (if (((getD x.1 (Int.toNat (IntKind.wrap .i64 (x.2.1 + x.2.2.2.1))) (0 : Int)) == (getD x.1 (Int.toNat (IntKind.wrap .i64 ((IntKind.wrap .i64 (x.2.1 + x.2.2.2.1)) - x.2.2.1))) (0 : Int))) = true) then (some (Sum.inl (x.1, x.2.1, x.2.2.1, (IntKind.wrap .i64 (x.2.2.2.1 + (1 : Int))), ())))
 else (some (Sum.inr (Sum.inl (x.2.2.2.1, ())))))
 else none)
 else none)
 else none)
 else none)
 else (some (Sum.inr (Sum.inl (x.2.2.2.1, ())))))
 else (some (Sum.inr (Sum.inl (x.2.2.2.1, ())))))
theorem b42_1_eq (x : g42_1.D) : b42_1 x = evF P (T9.orc _) Try.f42.ntmps fx42 (Code.at [tt, tt, ff, ff, ff] c42) (planAt 64 []) g42_1 x (injK fx42 ((.normal, g42_1) :: o42_1) some) := by kernel_rfl
noncomputable def l42_1 : g42_1.D → Option (outD o42_1) := loopN g42_1 o42_1 b42_1 18446744073709551616
theorem at42_1 : Code.at [tt, tt, ff, ff] c42 = .loop (Code.at [tt, tt, ff, ff, ff] c42) := by kernel_rfl
theorem s42_1_ok : SubOk P Try.f42.ntmps fx42 (Code.at [tt, tt, ff, ff] c42) ⟨g42_1, o42_1, l42_1⟩ := by
  rw [at42_1]
  exact loop_ok (sub_ok (g := g42_1) (outs := ((.normal, g42_1) :: o42_1)) (f := b42_1) (Table.ok T9_ok _) hmix (planAt_ok (P := P) (n := Try.f42.ntmps) (fx := fx42) (c := (Code.at [tt, tt, ff, ff, ff] c42)) (d := 64) (l := []) trivial) b42_1_eq) rfl _
noncomputable def f42 (x : gi42.D) : Option go42.D :=
  (Option.bind (l42_1 (x.1, x.2.1, x.2.2.1, (0 : Int), ())) (Sum.elim (fun y1 => (some (y1.1, ()))) Empty.elim))
theorem f42_eq (x : gi42.D) : f42 x = evF P (T9.orc _) Try.f42.ntmps fx42 c42 (planAt 64 [([tt, tt, ff, ff], ⟨g42_1, o42_1, l42_1⟩)]) gi42 x (fnK fx42 [go42]) := by kernel_rfl
theorem pf42 : AllSub P Try.f42.ntmps fx42 c42 [([tt, tt, ff, ff], ⟨g42_1, o42_1, l42_1⟩)] := And.intro s42_1_ok (trivial)
theorem qf42 : PlanOk P Try.f42.ntmps fx42 (planAt 64 [([tt, tt, ff, ff], ⟨g42_1, o42_1, l42_1⟩)]) c42 := planAt_ok pf42
theorem f42_ok : EntOk P 42 ⟨gi42, [go42], f42⟩ :=
  ent_ok (fn := Try.f42) (gi := gi42) (gos := [go42]) (f := f42) (c := c42) (fx := fx42) ⟨Try.func42, by kernel_rfl, rfl, by decide +kernel, rfl, rfl⟩ (by kernel_rfl) (Table.ok T9_ok _) hmix (qf42) f42_eq
noncomputable def T42 : Table := T9.add 42 [⟨gi42, [go42], f42⟩] []
theorem T42_ok : TableOk P T42 := Table.plus T9_ok (es := [⟨gi42, [go42], f42⟩]) ⟨f42_ok, trivial⟩ []

noncomputable def c22 : Code := Func.code Try.f22
abbrev gi22 : Sg := ⟨[0], [.lf (.sl (.int .u8))], []⟩
abbrev go22 : Sg := ⟨[2, 3], [.lf (.gr (.pair (.int .i64) (.pair (.int .i64) (.int .i64))) 0), .lf (.int .i64)], [some (.arr true (.pair (.int .i64) (.pair (.int .i64) (.int .i64))))]⟩
def fx22 : List Bool := []
abbrev g22_2 : Sg := ⟨[0, 4, 5, 6, 7, 8], [.lf (.sl (.int .u8)), .lf (.gr (.pair (.int .i64) (.pair (.int .i64) (.int .i64))) 0), .lf (.int .i64), .lf (.int .i64), .lf (.int .i64), .lf (.int .i64)], [some (.arr true (.pair (.int .i64) (.pair (.int .i64) (.int .i64))))]⟩
abbrev o22_2 : Outs := [(.exit 2, ⟨[0, 4, 5, 6, 7], [.lf (.sl (.int .u8)), .lf (.gr (.pair (.int .i64) (.pair (.int .i64) (.int .i64))) 0), .lf (.int .i64), .lf (.int .i64), .lf (.int .i64)], [some (.arr true (.pair (.int .i64) (.pair (.int .i64) (.int .i64))))]⟩)]
noncomputable def b22_2 (x : g22_2.D) : Option (outD ((.normal, g22_2) :: o22_2)) :=
  (if ((decide (x.2.2.2.2.1 ≤ (1024 : Int))) = true) then (if ((decide (x.2.2.2.2.1 ≤ x.2.1)) = true) then (Option.bind (f42 (x.1, x.2.1, x.2.2.2.2.1, ())) (fun y1 => (if ((decide (y1.1 > x.2.2.1)) = true) then (if ((length x.2.2.2.2.2.1) = (length x.2.2.2.2.2.1)) then (some (Sum.inl (x.1, x.2.1, y1.1, x.2.2.2.2.1, (IntKind.wrap .i64 (x.2.2.2.2.1 + (1 : Int))), x.2.2.2.2.2.1, ())))
 else none)
 else (if ((length x.2.2.2.2.2.1) = (length x.2.2.2.2.2.1)) then (some (Sum.inl (x.1, x.2.1, x.2.2.1, x.2.2.2.1, (IntKind.wrap .i64 (x.2.2.2.2.1 + (1 : Int))), x.2.2.2.2.2.1, ())))
 else none))))
 else (if ((length x.2.2.2.2.2.1) = (length x.2.2.2.2.2.1)) then (some (Sum.inr (Sum.inl (x.1, x.2.1, x.2.2.1, x.2.2.2.1, x.2.2.2.2.2.1, ()))))
 else none))
 else (if ((length x.2.2.2.2.2.1) = (length x.2.2.2.2.2.1)) then (some (Sum.inr (Sum.inl (x.1, x.2.1, x.2.2.1, x.2.2.2.1, x.2.2.2.2.2.1, ()))))
 else none))
theorem b22_2_eq (x : g22_2.D) : b22_2 x = evF P (T42.orc _) Try.f22.ntmps fx22 (Code.at [tt, tt, tt, tt, ff, ff, ff, tt, ff, tt, tt, ff, tt, ff, ff] c22) (planAt 64 []) g22_2 x (injK fx22 ((.normal, g22_2) :: o22_2) some) := by kernel_rfl
noncomputable def l22_2 : g22_2.D → Option (outD o22_2) := loopN g22_2 o22_2 b22_2 18446744073709551616
theorem at22_2 : Code.at [tt, tt, tt, tt, ff, ff, ff, tt, ff, tt, tt, ff, tt, ff] c22 = .loop (Code.at [tt, tt, tt, tt, ff, ff, ff, tt, ff, tt, tt, ff, tt, ff, ff] c22) := by kernel_rfl
theorem s22_2_ok : SubOk P Try.f22.ntmps fx22 (Code.at [tt, tt, tt, tt, ff, ff, ff, tt, ff, tt, tt, ff, tt, ff] c22) ⟨g22_2, o22_2, l22_2⟩ := by
  rw [at22_2]
  exact loop_ok (sub_ok (g := g22_2) (outs := ((.normal, g22_2) :: o22_2)) (f := b22_2) (Table.ok T42_ok _) hmix (planAt_ok (P := P) (n := Try.f22.ntmps) (fx := fx22) (c := (Code.at [tt, tt, tt, tt, ff, ff, ff, tt, ff, tt, tt, ff, tt, ff, ff] c22)) (d := 64) (l := []) trivial) b22_2_eq) rfl _
abbrev g22_1 : Sg := ⟨[0, 4, 5], [.lf (.sl (.int .u8)), .lf (.gr (.pair (.int .i64) (.pair (.int .i64) (.int .i64))) 0), .lf (.int .i64)], [some (.arr true (.pair (.int .i64) (.pair (.int .i64) (.int .i64))))]⟩
abbrev o22_1 : Outs := [(.exit 0, ⟨[4], [.lf (.gr (.pair (.int .i64) (.pair (.int .i64) (.int .i64))) 0)], [some (.arr true (.pair (.int .i64) (.pair (.int .i64) (.int .i64))))]⟩)]
noncomputable def b22_1 (x : g22_1.D) : Option (outD ((.normal, g22_1) :: o22_1)) :=
  (if ((decide (x.2.1 < (((length x.1) : Nat) : Int))) = true) then (if ((length x.2.2.1) = (length x.2.2.1)) then (Option.bind (l22_2 (x.1, x.2.1, (0 : Int), (0 : Int), (1 : Int), x.2.2.1, ())) (Sum.elim (fun y1 => (if ((decide (y1.2.2.1 ≥ (3 : Int))) = true) then (if (((length (take (length y1.2.2.2.2.1) (drop 0 y1.2.2.2.2.1))) + (length (take 1 (drop 0 (List.set (replicate 1 ((0 : Int), (0 : Int), (0 : Int))) 0 ((0 : Int), y1.2.2.1, y1.2.2.2.1)))))) ≤ 5864062014805) then (if ((length ((take (length y1.2.2.2.2.1) (drop 0 y1.2.2.2.2.1)) ++ (take 1 (drop 0 (List.set (replicate 1 ((0 : Int), (0 : Int), (0 : Int))) 0 ((0 : Int), y1.2.2.1, y1.2.2.2.1)))))) = (length ((take (length y1.2.2.2.2.1) (drop 0 y1.2.2.2.2.1)) ++ (take 1 (drop 0 (List.set (replicate 1 ((0 : Int), (0 : Int), (0 : Int))) 0 ((0 : Int), y1.2.2.1, y1.2.2.2.1))))))) then (some (Sum.inl (y1.1, (IntKind.wrap .i64 (y1.2.1 + y1.2.2.1)), ((take (length y1.2.2.2.2.1) (drop 0 y1.2.2.2.2.1)) ++ (take 1 (drop 0 (List.set (replicate 1 ((0 : Int), (0 : Int), (0 : Int))) 0 ((0 : Int), y1.2.2.1, y1.2.2.2.1))))), ())))
 else none)
 else none)
 else (if ((0 : Int) ≤ y1.2.1) then (if (y1.2.1 < (((length y1.1) : Nat) : Int)) then (if (((length (take (length y1.2.2.2.2.1) (drop 0 y1.2.2.2.2.1))) + (length (take 1 (drop 0 (List.set (replicate 1 ((0 : Int), (0 : Int), (0 : Int))) 0 ((IntKind.wrap .i64 (getD y1.1 (Int.toNat y1.2.1) (0 : Int))), (0 : Int), (0 : Int))))))) ≤ 5864062014805) then (if ((length ((take (length y1.2.2.2.2.1) (drop 0 y1.2.2.2.2.1)) ++ (take 1 (drop 0 (List.set (replicate 1 ((0 : Int), (0 : Int), (0 : Int))) 0 ((IntKind.wrap .i64 (getD y1.1 (Int.toNat y1.2.1) (0 : Int))), (0 : Int), (0 : Int))))))) = (length ((take (length y1.2.2.2.2.1) (drop 0 y1.2.2.2.2.1)) ++ (take 1 (drop 0 (List.set (replicate 1 ((0 : Int), (0 : Int), (0 : Int))) 0 ((IntKind.wrap .i64 (getD y1.1 (Int.toNat y1.2.1) (0 : Int))), (0 : Int), (0 : Int)))))))) then (some (Sum.inl (y1.1, (IntKind.wrap .i64 (y1.2.1 + (1 : Int))), ((take (length y1.2.2.2.2.1) (drop 0 y1.2.2.2.2.1)) ++ (take 1 (drop 0 (List.set (replicate 1 ((0 : Int), (0 : Int), (0 : Int))) 0 ((IntKind.wrap .i64 (getD y1.1 (Int.toNat y1.2.1) (0 : Int))), (0 : Int), (0 : Int)))))), ())))
 else none)
 else none)
 else none)
 else none))) Empty.elim))
 else none)
 else (if ((length x.2.2.1) = (length x.2.2.1)) then (some (Sum.inr (Sum.inl (x.2.2.1, ()))))
 else none))
theorem b22_1_eq (x : g22_1.D) : b22_1 x = evF P (T42.orc _) Try.f22.ntmps fx22 (Code.at [tt, tt, tt, tt, ff, ff, ff] c22) (planAt 64 [([tt, ff, tt, tt, ff, tt, ff], ⟨g22_2, o22_2, l22_2⟩)]) g22_1 x (injK fx22 ((.normal, g22_1) :: o22_1) some) := by kernel_rfl
noncomputable def l22_1 : g22_1.D → Option (outD o22_1) := loopN g22_1 o22_1 b22_1 18446744073709551616
theorem p22_1 : AllSub P Try.f22.ntmps fx22 (Code.at [tt, tt, tt, tt, ff, ff, ff] c22) [([tt, ff, tt, tt, ff, tt, ff], ⟨g22_2, o22_2, l22_2⟩)] := And.intro s22_2_ok (trivial)
theorem q22_1 : PlanOk P Try.f22.ntmps fx22 (planAt 64 [([tt, ff, tt, tt, ff, tt, ff], ⟨g22_2, o22_2, l22_2⟩)]) (Code.at [tt, tt, tt, tt, ff, ff, ff] c22) := planAt_ok p22_1
theorem at22_1 : Code.at [tt, tt, tt, tt, ff, ff] c22 = .loop (Code.at [tt, tt, tt, tt, ff, ff, ff] c22) := by kernel_rfl
theorem s22_1_ok : SubOk P Try.f22.ntmps fx22 (Code.at [tt, tt, tt, tt, ff, ff] c22) ⟨g22_1, o22_1, l22_1⟩ := by
  rw [at22_1]
  exact loop_ok (sub_ok (g := g22_1) (outs := ((.normal, g22_1) :: o22_1)) (f := b22_1) (Table.ok T42_ok _) hmix (q22_1) b22_1_eq) rfl _
noncomputable def f22 (x : gi22.D) : Option go22.D :=
  (if ((decide ((((length x.1) : Nat) : Int) > (1048576 : Int))) = true) then (some ((2 : Int), [], ()))
 else (Option.bind (l22_1 (x.1, (0 : Int), [], ())) (Sum.elim (fun y1 => (if ((length y1.1) = (length y1.1)) then (some ((0 : Int), y1.1, ()))
 else none)) Empty.elim)))
theorem f22_eq (x : gi22.D) : f22 x = evF P (T42.orc _) Try.f22.ntmps fx22 c22 (planAt 64 [([tt, tt, tt, tt, ff, ff], ⟨g22_1, o22_1, l22_1⟩)]) gi22 x (fnK fx22 [go22]) := by kernel_rfl
theorem pf22 : AllSub P Try.f22.ntmps fx22 c22 [([tt, tt, tt, tt, ff, ff], ⟨g22_1, o22_1, l22_1⟩)] := And.intro s22_1_ok (trivial)
theorem qf22 : PlanOk P Try.f22.ntmps fx22 (planAt 64 [([tt, tt, tt, tt, ff, ff], ⟨g22_1, o22_1, l22_1⟩)]) c22 := planAt_ok pf22
theorem f22_ok : EntOk P 22 ⟨gi22, [go22], f22⟩ :=
  ent_ok (fn := Try.f22) (gi := gi22) (gos := [go22]) (f := f22) (c := c22) (fx := fx22) ⟨Try.func22, by kernel_rfl, rfl, by decide +kernel, rfl, rfl⟩ (by kernel_rfl) (Table.ok T42_ok _) hmix (qf22) f22_eq
noncomputable def T22 : Table := T42.add 22 [⟨gi22, [go22], f22⟩] []
theorem T22_ok : TableOk P T22 := Table.plus T42_ok (es := [⟨gi22, [go22], f22⟩]) ⟨f22_ok, trivial⟩ []

noncomputable def c43 : Code := Func.code Try.f43
abbrev gi43 : Sg := ⟨[], [], []⟩
abbrev go43 : Sg := ⟨[0], [.lf (.gr (.int .i64) 0)], [some (.arr true (.int .i64))]⟩
def fx43 : List Bool := []
abbrev g43_2 : Sg := ⟨[1, 2, 3], [.lf (.gr (.int .i64) 0), .lf (.int .i64), .lf (.int .i64)], [some (.arr true (.int .i64))]⟩
abbrev o43_2 : Outs := [(.normal, ⟨[1, 2, 3], [.lf (.gr (.int .i64) 0), .lf (.int .i64), .lf (.int .i64)], [some (.arr true (.int .i64))]⟩)]
noncomputable def b43_2 (x : g43_2.D) : Option (outD o43_2) :=
  (if ((decide (x.1 > (143 : Int))) = true) then (if ((decide (x.1 < (256 : Int))) = true) then (if ((length x.2.2.1) = (length x.2.2.1)) then (some (Sum.inl (x.1, (9 : Int), x.2.2.1, ())))
 else none)
 else (if ((length x.2.2.1) = (length x.2.2.1)) then (some (Sum.inl (x.1, x.2.1, x.2.2.1, ())))
 else none))
 else (if ((length x.2.2.1) = (length x.2.2.1)) then (some (Sum.inl (x.1, x.2.1, x.2.2.1, ())))
 else none))
theorem b43_2_eq (x : g43_2.D) : b43_2 x = evF P (T22.orc _) Try.f43.ntmps fx43 (Code.at [tt, tt, ff, tt, ff, ff, tt, ff, ff, tt, ff] c43) (planAt 64 []) g43_2 x (injK fx43 o43_2 some) := by kernel_rfl
theorem s43_2_ok : SubOk P Try.f43.ntmps fx43 (Code.at [tt, tt, ff, tt, ff, ff, tt, ff, ff, tt, ff] c43) ⟨g43_2, o43_2, b43_2⟩ :=
  sub_ok (g := g43_2) (outs := o43_2) (f := b43_2) (Table.ok T22_ok _) hmix (planAt_ok (P := P) (n := Try.f43.ntmps) (fx := fx43) (c := (Code.at [tt, tt, ff, tt, ff, ff, tt, ff, ff, tt, ff] c43)) (d := 64) (l := []) trivial) b43_2_eq
abbrev g43_1 : Sg := ⟨[1, 2], [.lf (.gr (.int .i64) 0), .lf (.int .i64)], [some (.arr true (.int .i64))]⟩
abbrev o43_1 : Outs := [(.exit 0, ⟨[1], [.lf (.gr (.int .i64) 0)], [some (.arr true (.int .i64))]⟩)]
noncomputable def b43_1 (x : g43_1.D) : Option (outD ((.normal, g43_1) :: o43_1)) :=
  (if ((decide (x.1 < (288 : Int))) = true) then (if ((length x.2.1) = (length x.2.1)) then (Option.bind (b43_2 (x.1, (8 : Int), x.2.1, ())) (Sum.elim (fun y1 => (if ((decide (y1.1 > (255 : Int))) = true) then (if ((decide (y1.1 < (280 : Int))) = true) then (if (((length (take (length y1.2.2.1) (drop 0 y1.2.2.1))) + 1) ≤ 17592186044416) then (if ((length ((take (length y1.2.2.1) (drop 0 y1.2.2.1)) ++ (take 1 (drop 0 (List.set (replicate 1 (0 : Int)) 0 (7 : Int)))))) = (length ((take (length y1.2.2.1) (drop 0 y1.2.2.1)) ++ (take 1 (drop 0 (List.set (replicate 1 (0 : Int)) 0 (7 : Int))))))) then (some (Sum.inl ((IntKind.wrap .i64 (y1.1 + (1 : Int))), ((take (length y1.2.2.1) (drop 0 y1.2.2.1)) ++ (take 1 (drop 0 (List.set (replicate 1 (0 : Int)) 0 (7 : Int))))), ())))
 else none)
 else none)
 else (if (((length (take (length y1.2.2.1) (drop 0 y1.2.2.1))) + (length (take 1 (drop 0 (List.set (replicate 1 (0 : Int)) 0 y1.2.1))))) ≤ 17592186044416) then (if ((length ((take (length y1.2.2.1) (drop 0 y1.2.2.1)) ++ (take 1 (drop 0 (List.set (replicate 1 (0 : Int)) 0 y1.2.1))))) = (length ((take (length y1.2.2.1) (drop 0 y1.2.2.1)) ++ (take 1 (drop 0 (List.set (replicate 1 (0 : Int)) 0 y1.2.1)))))) then (some (Sum.inl ((IntKind.wrap .i64 (y1.1 + (1 : Int))), ((take (length y1.2.2.1) (drop 0 y1.2.2.1)) ++ (take 1 (drop 0 (List.set (replicate 1 (0 : Int)) 0 y1.2.1)))), ())))
 else none)
 else none))
 else (if (((length (take (length y1.2.2.1) (drop 0 y1.2.2.1))) + (length (take 1 (drop 0 (List.set (replicate 1 (0 : Int)) 0 y1.2.1))))) ≤ 17592186044416) then (if ((length ((take (length y1.2.2.1) (drop 0 y1.2.2.1)) ++ (take 1 (drop 0 (List.set (replicate 1 (0 : Int)) 0 y1.2.1))))) = (length ((take (length y1.2.2.1) (drop 0 y1.2.2.1)) ++ (take 1 (drop 0 (List.set (replicate 1 (0 : Int)) 0 y1.2.1)))))) then (some (Sum.inl ((IntKind.wrap .i64 (y1.1 + (1 : Int))), ((take (length y1.2.2.1) (drop 0 y1.2.2.1)) ++ (take 1 (drop 0 (List.set (replicate 1 (0 : Int)) 0 y1.2.1)))), ())))
 else none)
 else none))) Empty.elim))
 else none)
 else (if ((length x.2.1) = (length x.2.1)) then (some (Sum.inr (Sum.inl (x.2.1, ()))))
 else none))
theorem b43_1_eq (x : g43_1.D) : b43_1 x = evF P (T22.orc _) Try.f43.ntmps fx43 (Code.at [tt, tt, ff, tt, ff, ff] c43) (planAt 64 [([tt, ff, ff, tt, ff], ⟨g43_2, o43_2, b43_2⟩)]) g43_1 x (injK fx43 ((.normal, g43_1) :: o43_1) some) := by kernel_rfl
noncomputable def l43_1 : g43_1.D → Option (outD o43_1) := loopN g43_1 o43_1 b43_1 18446744073709551616
theorem p43_1 : AllSub P Try.f43.ntmps fx43 (Code.at [tt, tt, ff, tt, ff, ff] c43) [([tt, ff, ff, tt, ff], ⟨g43_2, o43_2, b43_2⟩)] := And.intro s43_2_ok (trivial)
theorem q43_1 : PlanOk P Try.f43.ntmps fx43 (planAt 64 [([tt, ff, ff, tt, ff], ⟨g43_2, o43_2, b43_2⟩)]) (Code.at [tt, tt, ff, tt, ff, ff] c43) := planAt_ok p43_1
theorem at43_1 : Code.at [tt, tt, ff, tt, ff] c43 = .loop (Code.at [tt, tt, ff, tt, ff, ff] c43) := by kernel_rfl
theorem s43_1_ok : SubOk P Try.f43.ntmps fx43 (Code.at [tt, tt, ff, tt, ff] c43) ⟨g43_1, o43_1, l43_1⟩ := by
  rw [at43_1]
  exact loop_ok (sub_ok (g := g43_1) (outs := ((.normal, g43_1) :: o43_1)) (f := b43_1) (Table.ok T22_ok _) hmix (q43_1) b43_1_eq) rfl _
noncomputable def f43 (_ : gi43.D) : Option go43.D :=
  (Option.bind (l43_1 ((0 : Int), [], ())) (Sum.elim (fun y1 => (if ((length y1.1) = (length y1.1)) then (some (y1.1, ()))
 else none)) Empty.elim))
theorem f43_eq (x : gi43.D) : f43 x = evF P (T22.orc _) Try.f43.ntmps fx43 c43 (planAt 64 [([tt, tt, ff, tt, ff], ⟨g43_1, o43_1, l43_1⟩)]) gi43 x (fnK fx43 [go43]) := by kernel_rfl
theorem pf43 : AllSub P Try.f43.ntmps fx43 c43 [([tt, tt, ff, tt, ff], ⟨g43_1, o43_1, l43_1⟩)] := And.intro s43_1_ok (trivial)
theorem qf43 : PlanOk P Try.f43.ntmps fx43 (planAt 64 [([tt, tt, ff, tt, ff], ⟨g43_1, o43_1, l43_1⟩)]) c43 := planAt_ok pf43
theorem f43_ok : EntOk P 43 ⟨gi43, [go43], f43⟩ :=
  ent_ok (fn := Try.f43) (gi := gi43) (gos := [go43]) (f := f43) (c := c43) (fx := fx43) ⟨Try.func43, by kernel_rfl, rfl, by decide +kernel, rfl, rfl⟩ (by kernel_rfl) (Table.ok T22_ok _) hmix (qf43) f43_eq
noncomputable def T43 : Table := T22.add 43 [⟨gi43, [go43], f43⟩] []
theorem T43_ok : TableOk P T43 := Table.plus T22_ok (es := [⟨gi43, [go43], f43⟩]) ⟨f43_ok, trivial⟩ []

noncomputable def c44 : Code := Func.code Try.f44
abbrev gi44 : Sg := ⟨[0], [.agg [.lf (.int .i64), .lf (.int .i64), .lf (.int .i64)]], []⟩
abbrev go44 : Sg := ⟨[2], [.lf .bool], []⟩
def fx44 : List Bool := []
abbrev g44_1 : Sg := ⟨[1], [.lf (.ptr 0 0)], [some (.box true [.lf (.int .i64), .lf (.int .i64), .lf (.int .i64)])]⟩
abbrev o44_1 : Outs := [(.normal, ⟨[2], [.lf .bool], []⟩)]
noncomputable def b44_1 (x : g44_1.D) : Option (outD o44_1) :=
  (if ((x.2.2.1 == (0 : Int)) = true) then (if ((decide (x.1 ≥ (0 : Int))) = true) then (some (Sum.inl ((decide (x.1 ≤ (255 : Int))), ())))
 else (some (Sum.inl (false, ()))))
 else (some (Sum.inl (false, ()))))
theorem b44_1_eq (x : g44_1.D) : b44_1 x = evF P (T43.orc _) Try.f44.ntmps fx44 (Code.at [tt, ff, tt, ff, ff] c44) (planAt 64 []) g44_1 x (injK fx44 o44_1 some) := by kernel_rfl
theorem s44_1_ok : SubOk P Try.f44.ntmps fx44 (Code.at [tt, ff, tt, ff, ff] c44) ⟨g44_1, o44_1, b44_1⟩ :=
  sub_ok (g := g44_1) (outs := o44_1) (f := b44_1) (Table.ok T43_ok _) hmix (planAt_ok (P := P) (n := Try.f44.ntmps) (fx := fx44) (c := (Code.at [tt, ff, tt, ff, ff] c44)) (d := 64) (l := []) trivial) b44_1_eq
noncomputable def f44 (x : gi44.D) : Option go44.D :=
  (if ((x.2.1 == (0 : Int)) = true) then (Option.bind (b44_1 (x.1, x.2.1, x.2.2.1, ())) (Sum.elim (fun y1 => (some (y1.1, ()))) Empty.elim))
 else (if ((decide (x.2.1 ≥ (3 : Int))) = true) then (if ((decide (x.2.1 ≤ (258 : Int))) = true) then (if ((decide (x.2.2.1 ≥ (1 : Int))) = true) then (if ((decide (x.2.2.1 ≤ (32768 : Int))) = true) then (some ((x.1 == (0 : Int)), ()))
 else (some (false, ())))
 else (some (false, ())))
 else (some (false, ())))
 else (some (false, ()))))
theorem f44_eq (x : gi44.D) : f44 x = evF P (T43.orc _) Try.f44.ntmps fx44 c44 (planAt 64 [([tt, ff, tt, ff, ff], ⟨g44_1, o44_1, b44_1⟩)]) gi44 x (fnK fx44 [go44]) := by kernel_rfl
theorem pf44 : AllSub P Try.f44.ntmps fx44 c44 [([tt, ff, tt, ff, ff], ⟨g44_1, o44_1, b44_1⟩)] := And.intro s44_1_ok (trivial)
theorem qf44 : PlanOk P Try.f44.ntmps fx44 (planAt 64 [([tt, ff, tt, ff, ff], ⟨g44_1, o44_1, b44_1⟩)]) c44 := planAt_ok pf44
theorem f44_ok : EntOk P 44 ⟨gi44, [go44], f44⟩ :=
  ent_ok (fn := Try.f44) (gi := gi44) (gos := [go44]) (f := f44) (c := c44) (fx := fx44) ⟨Try.func44, by kernel_rfl, rfl, by decide +kernel, rfl, rfl⟩ (by kernel_rfl) (Table.ok T43_ok _) hmix (qf44) f44_eq
noncomputable def T44 : Table := T43.add 44 [⟨gi44, [go44], f44⟩] []
theorem T44_ok : TableOk P T44 := Table.plus T43_ok (es := [⟨gi44, [go44], f44⟩]) ⟨f44_ok, trivial⟩ []

noncomputable def c96 : Code := Func.code Try.f96
abbrev gi96 : Sg := ⟨[0], [.lf (.int .i64)], []⟩
abbrev go96 : Sg := ⟨[2], [.lf (.int .i64)], []⟩
def fx96 : List Bool := []
abbrev g96_1 : Sg := ⟨[0, 3, 4], [.lf (.int .i64), .lf (.int .i64), .lf (.int .i64)], []⟩
abbrev o96_1 : Outs := [(.exit 0, ⟨[3], [.lf (.int .i64)], []⟩)]
noncomputable def b96_1 (x : g96_1.D) : Option (outD ((.normal, g96_1) :: o96_1)) :=
  (if ((decide (x.2.2.1 < x.1)) = true) then (some (Sum.inl (x.1, (IntKind.wrap .i64 ((2 : Int) * x.2.1)), (IntKind.wrap .i64 (x.2.2.1 + (1 : Int))), ())))
 else (some (Sum.inr (Sum.inl (x.2.1, ())))))
theorem b96_1_eq (x : g96_1.D) : b96_1 x = evF P (T44.orc _) Try.f96.ntmps fx96 (Code.at [tt, tt, ff, tt, ff, ff] c96) (planAt 64 []) g96_1 x (injK fx96 ((.normal, g96_1) :: o96_1) some) := by kernel_rfl
noncomputable def l96_1 : g96_1.D → Option (outD o96_1) := loopN g96_1 o96_1 b96_1 18446744073709551616
theorem at96_1 : Code.at [tt, tt, ff, tt, ff] c96 = .loop (Code.at [tt, tt, ff, tt, ff, ff] c96) := by kernel_rfl
theorem s96_1_ok : SubOk P Try.f96.ntmps fx96 (Code.at [tt, tt, ff, tt, ff] c96) ⟨g96_1, o96_1, l96_1⟩ := by
  rw [at96_1]
  exact loop_ok (sub_ok (g := g96_1) (outs := ((.normal, g96_1) :: o96_1)) (f := b96_1) (Table.ok T44_ok _) hmix (planAt_ok (P := P) (n := Try.f96.ntmps) (fx := fx96) (c := (Code.at [tt, tt, ff, tt, ff, ff] c96)) (d := 64) (l := []) trivial) b96_1_eq) rfl _
noncomputable def f96 (x : gi96.D) : Option go96.D :=
  (Option.bind (l96_1 (x.1, (1 : Int), (0 : Int), ())) (Sum.elim (fun y1 => (some (y1.1, ()))) Empty.elim))
theorem f96_eq (x : gi96.D) : f96 x = evF P (T44.orc _) Try.f96.ntmps fx96 c96 (planAt 64 [([tt, tt, ff, tt, ff], ⟨g96_1, o96_1, l96_1⟩)]) gi96 x (fnK fx96 [go96]) := by kernel_rfl
theorem pf96 : AllSub P Try.f96.ntmps fx96 c96 [([tt, tt, ff, tt, ff], ⟨g96_1, o96_1, l96_1⟩)] := And.intro s96_1_ok (trivial)
theorem qf96 : PlanOk P Try.f96.ntmps fx96 (planAt 64 [([tt, tt, ff, tt, ff], ⟨g96_1, o96_1, l96_1⟩)]) c96 := planAt_ok pf96
theorem f96_ok : EntOk P 96 ⟨gi96, [go96], f96⟩ :=
  ent_ok (fn := Try.f96) (gi := gi96) (gos := [go96]) (f := f96) (c := c96) (fx := fx96) ⟨Try.func96, by kernel_rfl, rfl, by decide +kernel, rfl, rfl⟩ (by kernel_rfl) (Table.ok T44_ok _) hmix (qf96) f96_eq
noncomputable def T96 : Table := T44.add 96 [⟨gi96, [go96], f96⟩] []
theorem T96_ok : TableOk P T96 := Table.plus T44_ok (es := [⟨gi96, [go96], f96⟩]) ⟨f96_ok, trivial⟩ []

noncomputable def c85 : Code := Func.code Try.f85
abbrev gi85 : Sg := ⟨[0], [.lf (.sl (.int .i64))], []⟩
abbrev go85 : Sg := ⟨[2], [.lf (.int .i64)], []⟩
def fx85 : List Bool := []
abbrev g85_1 : Sg := ⟨[0, 3, 4], [.lf (.sl (.int .i64)), .lf (.int .i64), .lf (.int .i64)], []⟩
abbrev o85_1 : Outs := [(.exit 0, ⟨[3], [.lf (.int .i64)], []⟩), (.ret, ⟨[2], [.lf (.int .i64)], []⟩)]
noncomputable def b85_1 (x : g85_1.D) : Option (outD ((.normal, g85_1) :: o85_1)) :=
  (if ((decide (x.2.2.1 < (((length x.1) : Nat) : Int))) = true) then (if ((0 : Int) ≤ x.2.2.1) then (if (x.2.2.1 < (((length x.1) : Nat) : Int)) then (if ((decide ((getD x.1 (Int.toNat x.2.2.1) (0 : Int)) < (0 : Int))) = true) then (some (Sum.inr (Sum.inr (Sum.inl ((-1 : Int), ())))))
 else (if ((0 : Int) ≤ x.2.2.1) then (if (x.2.2.1 < (((length x.1) : Nat) : Int)) then (if ((decide ((getD x.1 (Int.toNat x.2.2.1) (0 : Int)) > (15 : Int))) = true) then (some (Sum.inr (Sum.inr (Sum.inl ((-1 : Int), ())))))
 else (if ((0 : Int) ≤ x.2.2.1) then (if (x.2.2.1 < (((length x.1) : Nat) : Int)) then (if ((decide ((getD x.1 (Int.toNat x.2.2.1) (0 : Int)) > (0 : Int))) = true) then (if ((0 : Int) ≤ x.2.2.1) then (if (x.2.2.1 < (((length x.1) : Nat) : Int)) then (Option.bind (f96 ((IntKind.wrap .i64 ((15 : Int) - (getD x.1 (Int.toNat x.2.2.1) (0 : Int)))), ())) (fun y1 => (some (Sum.inl (x.1, (IntKind.wrap .i64 (x.2.1 + y1.1)), (IntKind.wrap .i64 (x.2.2.1 + (1 : Int))), ())))))
 else none)
 else none)
 else (some (Sum.inl (x.1, x.2.1, (IntKind.wrap .i64 (x.2.2.1 + (1 : Int))), ()))))
 else none)
 else none))
 else none)
 else none))
 else none)
 else none)
 else (some (Sum.inr (Sum.inl (x.2.1, ())))))
theorem b85_1_eq (x : g85_1.D) : b85_1 x = evF P (T96.orc _) Try.f85.ntmps fx85 (Code.at [tt, tt, tt, ff, tt, ff, ff] c85) (planAt 64 []) g85_1 x (injK fx85 ((.normal, g85_1) :: o85_1) some) := by kernel_rfl
noncomputable def l85_1 : g85_1.D → Option (outD o85_1) := loopN g85_1 o85_1 b85_1 18446744073709551616
theorem at85_1 : Code.at [tt, tt, tt, ff, tt, ff] c85 = .loop (Code.at [tt, tt, tt, ff, tt, ff, ff] c85) := by kernel_rfl
theorem s85_1_ok : SubOk P Try.f85.ntmps fx85 (Code.at [tt, tt, tt, ff, tt, ff] c85) ⟨g85_1, o85_1, l85_1⟩ := by
  rw [at85_1]
  exact loop_ok (sub_ok (g := g85_1) (outs := ((.normal, g85_1) :: o85_1)) (f := b85_1) (Table.ok T96_ok _) hmix (planAt_ok (P := P) (n := Try.f85.ntmps) (fx := fx85) (c := (Code.at [tt, tt, tt, ff, tt, ff, ff] c85)) (d := 64) (l := []) trivial) b85_1_eq) rfl _
noncomputable def f85 (x : gi85.D) : Option go85.D :=
  (if ((decide ((((length x.1) : Nat) : Int) > (320 : Int))) = true) then (some ((-1 : Int), ()))
 else (Option.bind (l85_1 (x.1, (0 : Int), (0 : Int), ())) (Sum.elim (fun y1 => (some (y1.1, ()))) (Sum.elim (fun y1 => (some (y1.1, ()))) Empty.elim))))
theorem f85_eq (x : gi85.D) : f85 x = evF P (T96.orc _) Try.f85.ntmps fx85 c85 (planAt 64 [([tt, tt, tt, ff, tt, ff], ⟨g85_1, o85_1, l85_1⟩)]) gi85 x (fnK fx85 [go85]) := by kernel_rfl
theorem pf85 : AllSub P Try.f85.ntmps fx85 c85 [([tt, tt, tt, ff, tt, ff], ⟨g85_1, o85_1, l85_1⟩)] := And.intro s85_1_ok (trivial)
theorem qf85 : PlanOk P Try.f85.ntmps fx85 (planAt 64 [([tt, tt, tt, ff, tt, ff], ⟨g85_1, o85_1, l85_1⟩)]) c85 := planAt_ok pf85
theorem f85_ok : EntOk P 85 ⟨gi85, [go85], f85⟩ :=
  ent_ok (fn := Try.f85) (gi := gi85) (gos := [go85]) (f := f85) (c := c85) (fx := fx85) ⟨Try.func85, by kernel_rfl, rfl, by decide +kernel, rfl, rfl⟩ (by kernel_rfl) (Table.ok T96_ok _) hmix (qf85) f85_eq
noncomputable def T85 : Table := T96.add 85 [⟨gi85, [go85], f85⟩] []
theorem T85_ok : TableOk P T85 := Table.plus T96_ok (es := [⟨gi85, [go85], f85⟩]) ⟨f85_ok, trivial⟩ []

noncomputable def c67 : Code := Func.code Try.f67
abbrev gi67 : Sg := ⟨[0], [.lf (.sl (.int .i64))], []⟩
abbrev go67 : Sg := ⟨[2, 3], [.lf (.gr (.int .i64) 0), .lf (.int .i64)], [some (.arr true (.int .i64))]⟩
def fx67 : List Bool := []
abbrev g67_2 : Sg := ⟨[0, 5, 6, 7, 8], [.lf (.sl (.int .i64)), .lf (.gr (.int .i64) 0), .lf (.int .i64), .lf (.int .i64), .lf (.int .i64)], [some (.arr true (.int .i64))]⟩
abbrev o67_2 : Outs := [(.exit 2, ⟨[0, 5, 6, 7], [.lf (.sl (.int .i64)), .lf (.gr (.int .i64) 0), .lf (.int .i64), .lf (.int .i64)], [some (.arr true (.int .i64))]⟩)]
noncomputable def b67_2 (x : g67_2.D) : Option (outD ((.normal, g67_2) :: o67_2)) :=
  (if ((decide (x.2.2.2.1 < (((length x.1) : Nat) : Int))) = true) then (if ((0 : Int) ≤ x.2.2.2.1) then (if (x.2.2.2.1 < (((length x.1) : Nat) : Int)) then (if (((getD x.1 (Int.toNat x.2.2.2.1) (0 : Int)) == x.2.2.1) = true) then (if ((0 : Int) ≤ x.2.2.2.1) then (if (x.2.2.2.1 < (((length x.2.2.2.2.1) : Nat) : Int)) then (if ((length x.2.2.2.2.1) = (length (List.set x.2.2.2.2.1 (0 + (Int.toNat x.2.2.2.1)) x.2.1))) then (some (Sum.inl (x.1, (IntKind.wrap .i64 (x.2.1 + (1 : Int))), x.2.2.1, (IntKind.wrap .i64 (x.2.2.2.1 + (1 : Int))), (List.set x.2.2.2.2.1 (0 + (Int.toNat x.2.2.2.1)) x.2.1), ())))
 else none)
 else none)
 else none)
 else (if ((length x.2.2.2.2.1) = (length x.2.2.2.2.1)) then (some (Sum.inl (x.1, x.2.1, x.2.2.1, (IntKind.wrap .i64 (x.2.2.2.1 + (1 : Int))), x.2.2.2.2.1, ())))
 else none))
 else none)
 else none)
 else (if ((length x.2.2.2.2.1) = (length x.2.2.2.2.1)) then (some (Sum.inr (Sum.inl (x.1, x.2.1, x.2.2.1, x.2.2.2.2.1, ()))))
 else none))
theorem b67_2_eq (x : g67_2.D) : b67_2 x = evF P (T85.orc _) Try.f67.ntmps fx67 (Code.at [tt, tt, tt, tt, tt, tt, ff, tt, ff, ff, tt, ff, ff, tt, tt, ff, ff] c67) (planAt 64 []) g67_2 x (injK fx67 ((.normal, g67_2) :: o67_2) some) := by kernel_rfl
noncomputable def l67_2 : g67_2.D → Option (outD o67_2) := loopN g67_2 o67_2 b67_2 18446744073709551616
theorem at67_2 : Code.at [tt, tt, tt, tt, tt, tt, ff, tt, ff, ff, tt, ff, ff, tt, tt, ff] c67 = .loop (Code.at [tt, tt, tt, tt, tt, tt, ff, tt, ff, ff, tt, ff, ff, tt, tt, ff, ff] c67) := by kernel_rfl
theorem s67_2_ok : SubOk P Try.f67.ntmps fx67 (Code.at [tt, tt, tt, tt, tt, tt, ff, tt, ff, ff, tt, ff, ff, tt, tt, ff] c67) ⟨g67_2, o67_2, l67_2⟩ := by
  rw [at67_2]
  exact loop_ok (sub_ok (g := g67_2) (outs := ((.normal, g67_2) :: o67_2)) (f := b67_2) (Table.ok T85_ok _) hmix (planAt_ok (P := P) (n := Try.f67.ntmps) (fx := fx67) (c := (Code.at [tt, tt, tt, tt, tt, tt, ff, tt, ff, ff, tt, ff, ff, tt, tt, ff, ff] c67)) (d := 64) (l := []) trivial) b67_2_eq) rfl _
abbrev g67_1 : Sg := ⟨[0, 5, 6, 7], [.lf (.sl (.int .i64)), .lf (.gr (.int .i64) 0), .lf (.int .i64), .lf (.int .i64)], [some (.arr true (.int .i64))]⟩
abbrev o67_1 : Outs := [(.exit 0, ⟨[5], [.lf (.gr (.int .i64) 0)], [some (.arr true (.int .i64))]⟩)]
noncomputable def b67_1 (x : g67_1.D) : Option (outD ((.normal, g67_1) :: o67_1)) :=
  (if ((decide (x.2.2.1 ≤ (15 : Int))) = true) then (if ((length x.2.2.2.1) = (length x.2.2.2.1)) then (Option.bind (l67_2 (x.1, (IntKind.wrap .i64 ((2 : Int) * x.2.1)), x.2.2.1, (0 : Int), x.2.2.2.1, ())) (Sum.elim (fun y1 => (if ((length y1.2.2.2.1) = (length y1.2.2.2.1)) then (some (Sum.inl (y1.1, y1.2.1, (IntKind.wrap .i64 (y1.2.2.1 + (1 : Int))), y1.2.2.2.1, ())))
 else none)) Empty.elim))
 else none)
 else (if ((length x.2.2.2.1) = (length x.2.2.2.1)) then (some (Sum.inr (Sum.inl (x.2.2.2.1, ()))))
 else none))
theorem b67_1_eq (x : g67_1.D) : b67_1 x = evF P (T85.orc _) Try.f67.ntmps fx67 (Code.at [tt, tt, tt, tt, tt, tt, ff, tt, ff, ff] c67) (planAt 64 [([tt, ff, ff, tt, tt, ff], ⟨g67_2, o67_2, l67_2⟩)]) g67_1 x (injK fx67 ((.normal, g67_1) :: o67_1) some) := by kernel_rfl
noncomputable def l67_1 : g67_1.D → Option (outD o67_1) := loopN g67_1 o67_1 b67_1 18446744073709551616
theorem p67_1 : AllSub P Try.f67.ntmps fx67 (Code.at [tt, tt, tt, tt, tt, tt, ff, tt, ff, ff] c67) [([tt, ff, ff, tt, tt, ff], ⟨g67_2, o67_2, l67_2⟩)] := And.intro s67_2_ok (trivial)
theorem q67_1 : PlanOk P Try.f67.ntmps fx67 (planAt 64 [([tt, ff, ff, tt, tt, ff], ⟨g67_2, o67_2, l67_2⟩)]) (Code.at [tt, tt, tt, tt, tt, tt, ff, tt, ff, ff] c67) := planAt_ok p67_1
theorem at67_1 : Code.at [tt, tt, tt, tt, tt, tt, ff, tt, ff] c67 = .loop (Code.at [tt, tt, tt, tt, tt, tt, ff, tt, ff, ff] c67) := by kernel_rfl
theorem s67_1_ok : SubOk P Try.f67.ntmps fx67 (Code.at [tt, tt, tt, tt, tt, tt, ff, tt, ff] c67) ⟨g67_1, o67_1, l67_1⟩ := by
  rw [at67_1]
  exact loop_ok (sub_ok (g := g67_1) (outs := ((.normal, g67_1) :: o67_1)) (f := b67_1) (Table.ok T85_ok _) hmix (q67_1) b67_1_eq) rfl _
noncomputable def f67 (x : gi67.D) : Option go67.D :=
  (Option.bind (f85 (x.1, ())) (fun y1 => (if ((decide (y1.1 < (0 : Int))) = true) then (some ((1 : Int), [], ()))
 else (if ((decide (y1.1 > (32768 : Int))) = true) then (some ((4 : Int), [], ()))
 else (if ((((length x.1) : Nat) : Int) ≤ (((length x.1) : Nat) : Int)) then (if ((((length x.1) : Nat) : Int) ≤ (35184372088832 : Int)) then (if ((Int.toNat (((length x.1) : Nat) : Int)) = (length (replicate (Int.toNat (((length x.1) : Nat) : Int)) (0 : Int)))) then (Option.bind (l67_1 (x.1, (0 : Int), (1 : Int), (replicate (Int.toNat (((length x.1) : Nat) : Int)) (0 : Int)), ())) (Sum.elim (fun y2 => (if ((length y2.1) = (length y2.1)) then (some ((0 : Int), y2.1, ()))
 else none)) Empty.elim))
 else none)
 else none)
 else none)))))
theorem f67_eq (x : gi67.D) : f67 x = evF P (T85.orc _) Try.f67.ntmps fx67 c67 (planAt 64 [([tt, tt, tt, tt, tt, tt, ff, tt, ff], ⟨g67_1, o67_1, l67_1⟩)]) gi67 x (fnK fx67 [go67]) := by kernel_rfl
theorem pf67 : AllSub P Try.f67.ntmps fx67 c67 [([tt, tt, tt, tt, tt, tt, ff, tt, ff], ⟨g67_1, o67_1, l67_1⟩)] := And.intro s67_1_ok (trivial)
theorem qf67 : PlanOk P Try.f67.ntmps fx67 (planAt 64 [([tt, tt, tt, tt, tt, tt, ff, tt, ff], ⟨g67_1, o67_1, l67_1⟩)]) c67 := planAt_ok pf67
theorem f67_ok : EntOk P 67 ⟨gi67, [go67], f67⟩ :=
  ent_ok (fn := Try.f67) (gi := gi67) (gos := [go67]) (f := f67) (c := c67) (fx := fx67) ⟨Try.func67, by kernel_rfl, rfl, by decide +kernel, rfl, rfl⟩ (by kernel_rfl) (Table.ok T85_ok _) hmix (qf67) f67_eq
noncomputable def T67 : Table := T85.add 67 [⟨gi67, [go67], f67⟩] []
theorem T67_ok : TableOk P T67 := Table.plus T85_ok (es := [⟨gi67, [go67], f67⟩]) ⟨f67_ok, trivial⟩ []

noncomputable def c45 : Code := Func.code Try.f45
abbrev gi45 : Sg := ⟨[0, 1], [.lf (.sl (.int .i64)), .lf (.int .i64)], []⟩
abbrev go45 : Sg := ⟨[4], [.lf (.gr .bool 0)], [some (.arr true .bool)]⟩
def fx45 : List Bool := []
abbrev g45_1 : Sg := ⟨[7, 8, 9], [.lf (.gr .bool 0), .lf (.int .i64), .lf (.int .i64)], [some (.arr true .bool)]⟩
abbrev o45_1 : Outs := [(.exit 0, ⟨[7], [.lf (.gr .bool 0)], [some (.arr true .bool)]⟩)]
noncomputable def b45_1 (x : g45_1.D) : Option (outD ((.normal, g45_1) :: o45_1)) :=
  (if ((decide (x.2.1 ≥ (0 : Int))) = true) then (if ((0 : Int) ≤ x.2.1) then (if (x.2.1 < (((length x.2.2.1) : Nat) : Int)) then (if ((length x.2.2.1) = (length (List.set x.2.2.1 (0 + (Int.toNat x.2.1)) ((Int.tmod x.1 (2 : Int)) == (1 : Int))))) then (some (Sum.inl ((IntKind.wrap .i64 (Int.tdiv x.1 (2 : Int))), (IntKind.wrap .i64 (x.2.1 - (1 : Int))), (List.set x.2.2.1 (0 + (Int.toNat x.2.1)) ((Int.tmod x.1 (2 : Int)) == (1 : Int))), ())))
 else none)
 else none)
 else none)
 else (if ((length x.2.2.1) = (length x.2.2.1)) then (some (Sum.inr (Sum.inl (x.2.2.1, ()))))
 else none))
theorem b45_1_eq (x : g45_1.D) : b45_1 x = evF P (T67.orc _) Try.f45.ntmps fx45 (Code.at [tt, tt, tt, tt, tt, ff, tt, ff, ff] c45) (planAt 64 []) g45_1 x (injK fx45 ((.normal, g45_1) :: o45_1) some) := by kernel_rfl
noncomputable def l45_1 : g45_1.D → Option (outD o45_1) := loopN g45_1 o45_1 b45_1 18446744073709551616
theorem at45_1 : Code.at [tt, tt, tt, tt, tt, ff, tt, ff] c45 = .loop (Code.at [tt, tt, tt, tt, tt, ff, tt, ff, ff] c45) := by kernel_rfl
theorem s45_1_ok : SubOk P Try.f45.ntmps fx45 (Code.at [tt, tt, tt, tt, tt, ff, tt, ff] c45) ⟨g45_1, o45_1, l45_1⟩ := by
  rw [at45_1]
  exact loop_ok (sub_ok (g := g45_1) (outs := ((.normal, g45_1) :: o45_1)) (f := b45_1) (Table.ok T67_ok _) hmix (planAt_ok (P := P) (n := Try.f45.ntmps) (fx := fx45) (c := (Code.at [tt, tt, tt, tt, tt, ff, tt, ff, ff] c45)) (d := 64) (l := []) trivial) b45_1_eq) rfl _
noncomputable def f45 (x : gi45.D) : Option go45.D :=
  (if ((decide (x.2.1 < (0 : Int))) = true) then (some ([], ()))
 else (if ((decide (x.2.1 ≥ (((length x.1) : Nat) : Int))) = true) then (some ([], ()))
 else (if ((0 : Int) ≤ x.2.1) then (if (x.2.1 < (((length x.1) : Nat) : Int)) then (if (((getD x.1 (Int.toNat x.2.1) (0 : Int)) == (0 : Int)) = true) then (some ([], ()))
 else (Option.bind (f67 (x.1, ())) (fun y1 => (if ((0 : Int) ≤ x.2.1) then (if (x.2.1 < (((length x.1) : Nat) : Int)) then (if ((0 : Int) ≤ (getD x.1 (Int.toNat x.2.1) (0 : Int))) then (if ((getD x.1 (Int.toNat x.2.1) (0 : Int)) ≤ (getD x.1 (Int.toNat x.2.1) (0 : Int))) then (if ((getD x.1 (Int.toNat x.2.1) (0 : Int)) ≤ (281474976710656 : Int)) then (if ((0 : Int) ≤ x.2.1) then (if (x.2.1 < (((length y1.2.1) : Nat) : Int)) then (if ((0 : Int) ≤ x.2.1) then (if (x.2.1 < (((length x.1) : Nat) : Int)) then (if ((Int.toNat (getD x.1 (Int.toNat x.2.1) (0 : Int))) = (length (replicate (Int.toNat (getD x.1 (Int.toNat x.2.1) (0 : Int))) false))) then (Option.bind (l45_1 ((getD y1.2.1 (0 + (Int.toNat x.2.1)) (0 : Int)), (IntKind.wrap .i64 ((getD x.1 (Int.toNat x.2.1) (0 : Int)) - (1 : Int))), (replicate (Int.toNat (getD x.1 (Int.toNat x.2.1) (0 : Int))) false), ())) (Sum.elim (fun y2 => (if ((length y2.1) = (length y2.1)) then (some (y2.1, ()))
 else none)) Empty.elim))
 else none)
 else none)
 else none)
 else none)
 else none)
 else none)
 else none)
 else none)
 else none)
 else none))))
 else none)
 else none)))
theorem f45_eq (x : gi45.D) : f45 x = evF P (T67.orc _) Try.f45.ntmps fx45 c45 (planAt 64 [([tt, tt, tt, tt, tt, ff, tt, ff], ⟨g45_1, o45_1, l45_1⟩)]) gi45 x (fnK fx45 [go45]) := by kernel_rfl
theorem pf45 : AllSub P Try.f45.ntmps fx45 c45 [([tt, tt, tt, tt, tt, ff, tt, ff], ⟨g45_1, o45_1, l45_1⟩)] := And.intro s45_1_ok (trivial)
theorem qf45 : PlanOk P Try.f45.ntmps fx45 (planAt 64 [([tt, tt, tt, tt, tt, ff, tt, ff], ⟨g45_1, o45_1, l45_1⟩)]) c45 := planAt_ok pf45
theorem f45_ok : EntOk P 45 ⟨gi45, [go45], f45⟩ :=
  ent_ok (fn := Try.f45) (gi := gi45) (gos := [go45]) (f := f45) (c := c45) (fx := fx45) ⟨Try.func45, by kernel_rfl, rfl, by decide +kernel, rfl, rfl⟩ (by kernel_rfl) (Table.ok T67_ok _) hmix (qf45) f45_eq
noncomputable def T45 : Table := T67.add 45 [⟨gi45, [go45], f45⟩] []
theorem T45_ok : TableOk P T45 := Table.plus T67_ok (es := [⟨gi45, [go45], f45⟩]) ⟨f45_ok, trivial⟩ []

noncomputable def c69 : Code := Func.code Try.f69
abbrev gi69 : Sg := ⟨[0], [.lf (.int .i64)], []⟩
abbrev go69 : Sg := ⟨[2], [.lf (.int .i64)], []⟩
def fx69 : List Bool := []
noncomputable def f69 (x : gi69.D) : Option go69.D :=
  (if ((decide (x.1 < (265 : Int))) = true) then (some ((0 : Int), ()))
 else (some ((IntKind.wrap .i64 (Int.tdiv (IntKind.wrap .i64 (x.1 - (261 : Int))) (4 : Int))), ())))
theorem f69_eq (x : gi69.D) : f69 x = evF P (T45.orc _) Try.f69.ntmps fx69 c69 (planAt 64 []) gi69 x (fnK fx69 [go69]) := by kernel_rfl
theorem f69_ok : EntOk P 69 ⟨gi69, [go69], f69⟩ :=
  ent_ok (fn := Try.f69) (gi := gi69) (gos := [go69]) (f := f69) (c := c69) (fx := fx69) ⟨Try.func69, by kernel_rfl, rfl, by decide +kernel, rfl, rfl⟩ (by kernel_rfl) (Table.ok T45_ok _) hmix (planAt_ok (P := P) (n := Try.f69.ntmps) (fx := fx69) (c := c69) (d := 64) (l := []) trivial) f69_eq
noncomputable def T69 : Table := T45.add 69 [⟨gi69, [go69], f69⟩] []
theorem T69_ok : TableOk P T69 := Table.plus T45_ok (es := [⟨gi69, [go69], f69⟩]) ⟨f69_ok, trivial⟩ []

noncomputable def c68 : Code := Func.code Try.f68
abbrev gi68 : Sg := ⟨[0], [.lf (.int .i64)], []⟩
abbrev go68 : Sg := ⟨[2], [.lf (.int .i64)], []⟩
def fx68 : List Bool := []
abbrev g68_1 : Sg := ⟨[0, 3, 4], [.lf (.int .i64), .lf (.int .i64), .lf (.int .i64)], []⟩
abbrev o68_1 : Outs := [(.exit 0, ⟨[3], [.lf (.int .i64)], []⟩)]
noncomputable def b68_1 (x : g68_1.D) : Option (outD ((.normal, g68_1) :: o68_1)) :=
  (if ((decide (x.2.2.1 < x.1)) = true) then (some (Sum.inl (x.1, (IntKind.wrap .i64 ((2 : Int) * x.2.1)), (IntKind.wrap .i64 (x.2.2.1 + (1 : Int))), ())))
 else (some (Sum.inr (Sum.inl (x.2.1, ())))))
theorem b68_1_eq (x : g68_1.D) : b68_1 x = evF P (T69.orc _) Try.f68.ntmps fx68 (Code.at [tt, tt, ff, tt, ff, ff] c68) (planAt 64 []) g68_1 x (injK fx68 ((.normal, g68_1) :: o68_1) some) := by kernel_rfl
noncomputable def l68_1 : g68_1.D → Option (outD o68_1) := loopN g68_1 o68_1 b68_1 18446744073709551616
theorem at68_1 : Code.at [tt, tt, ff, tt, ff] c68 = .loop (Code.at [tt, tt, ff, tt, ff, ff] c68) := by kernel_rfl
theorem s68_1_ok : SubOk P Try.f68.ntmps fx68 (Code.at [tt, tt, ff, tt, ff] c68) ⟨g68_1, o68_1, l68_1⟩ := by
  rw [at68_1]
  exact loop_ok (sub_ok (g := g68_1) (outs := ((.normal, g68_1) :: o68_1)) (f := b68_1) (Table.ok T69_ok _) hmix (planAt_ok (P := P) (n := Try.f68.ntmps) (fx := fx68) (c := (Code.at [tt, tt, ff, tt, ff, ff] c68)) (d := 64) (l := []) trivial) b68_1_eq) rfl _
noncomputable def f68 (x : gi68.D) : Option go68.D :=
  (Option.bind (l68_1 (x.1, (1 : Int), (0 : Int), ())) (Sum.elim (fun y1 => (some (y1.1, ()))) Empty.elim))
theorem f68_eq (x : gi68.D) : f68 x = evF P (T69.orc _) Try.f68.ntmps fx68 c68 (planAt 64 [([tt, tt, ff, tt, ff], ⟨g68_1, o68_1, l68_1⟩)]) gi68 x (fnK fx68 [go68]) := by kernel_rfl
theorem pf68 : AllSub P Try.f68.ntmps fx68 c68 [([tt, tt, ff, tt, ff], ⟨g68_1, o68_1, l68_1⟩)] := And.intro s68_1_ok (trivial)
theorem qf68 : PlanOk P Try.f68.ntmps fx68 (planAt 64 [([tt, tt, ff, tt, ff], ⟨g68_1, o68_1, l68_1⟩)]) c68 := planAt_ok pf68
theorem f68_ok : EntOk P 68 ⟨gi68, [go68], f68⟩ :=
  ent_ok (fn := Try.f68) (gi := gi68) (gos := [go68]) (f := f68) (c := c68) (fx := fx68) ⟨Try.func68, by kernel_rfl, rfl, by decide +kernel, rfl, rfl⟩ (by kernel_rfl) (Table.ok T69_ok _) hmix (qf68) f68_eq
noncomputable def T68 : Table := T69.add 68 [⟨gi68, [go68], f68⟩] []
theorem T68_ok : TableOk P T68 := Table.plus T69_ok (es := [⟨gi68, [go68], f68⟩]) ⟨f68_ok, trivial⟩ []

noncomputable def c46 : Code := Func.code Try.f46
abbrev gi46 : Sg := ⟨[0], [.lf (.int .i64)], []⟩
abbrev go46 : Sg := ⟨[2, 3], [.lf (.int .i64), .lf (.int .i64)], []⟩
def fx46 : List Bool := []
abbrev g46_1 : Sg := ⟨[0, 4, 5], [.lf (.int .i64), .lf (.int .i64), .lf (.int .i64)], []⟩
abbrev o46_1 : Outs := [(.exit 0, ⟨[0, 4], [.lf (.int .i64), .lf (.int .i64)], []⟩)]
noncomputable def b46_1 (x : g46_1.D) : Option (outD ((.normal, g46_1) :: o46_1)) :=
  (if ((decide (x.2.2.1 < x.1)) = true) then (Option.bind (f69 (x.2.2.1, ())) (fun y1 => (Option.bind (f68 (y1.1, ())) (fun y2 => (some (Sum.inl (x.1, (IntKind.wrap .i64 (x.2.1 + y2.1)), (IntKind.wrap .i64 (x.2.2.1 + (1 : Int))), ())))))))
 else (some (Sum.inr (Sum.inl (x.1, x.2.1, ())))))
theorem b46_1_eq (x : g46_1.D) : b46_1 x = evF P (T68.orc _) Try.f46.ntmps fx46 (Code.at [tt, tt, tt, ff, tt, ff, ff] c46) (planAt 64 []) g46_1 x (injK fx46 ((.normal, g46_1) :: o46_1) some) := by kernel_rfl
noncomputable def l46_1 : g46_1.D → Option (outD o46_1) := loopN g46_1 o46_1 b46_1 18446744073709551616
theorem at46_1 : Code.at [tt, tt, tt, ff, tt, ff] c46 = .loop (Code.at [tt, tt, tt, ff, tt, ff, ff] c46) := by kernel_rfl
theorem s46_1_ok : SubOk P Try.f46.ntmps fx46 (Code.at [tt, tt, tt, ff, tt, ff] c46) ⟨g46_1, o46_1, l46_1⟩ := by
  rw [at46_1]
  exact loop_ok (sub_ok (g := g46_1) (outs := ((.normal, g46_1) :: o46_1)) (f := b46_1) (Table.ok T68_ok _) hmix (planAt_ok (P := P) (n := Try.f46.ntmps) (fx := fx46) (c := (Code.at [tt, tt, tt, ff, tt, ff, ff] c46)) (d := 64) (l := []) trivial) b46_1_eq) rfl _
noncomputable def f46 (x : gi46.D) : Option go46.D :=
  (if ((x.1 == (285 : Int)) = true) then (some ((258 : Int), (0 : Int), ()))
 else (Option.bind (l46_1 (x.1, (3 : Int), (257 : Int), ())) (Sum.elim (fun y1 => (Option.bind (f69 (y1.1, ())) (fun y2 => (some (y1.2.1, y2.1, ()))))) Empty.elim)))
theorem f46_eq (x : gi46.D) : f46 x = evF P (T68.orc _) Try.f46.ntmps fx46 c46 (planAt 64 [([tt, tt, tt, ff, tt, ff], ⟨g46_1, o46_1, l46_1⟩)]) gi46 x (fnK fx46 [go46]) := by kernel_rfl
theorem pf46 : AllSub P Try.f46.ntmps fx46 c46 [([tt, tt, tt, ff, tt, ff], ⟨g46_1, o46_1, l46_1⟩)] := And.intro s46_1_ok (trivial)
theorem qf46 : PlanOk P Try.f46.ntmps fx46 (planAt 64 [([tt, tt, tt, ff, tt, ff], ⟨g46_1, o46_1, l46_1⟩)]) c46 := planAt_ok pf46
theorem f46_ok : EntOk P 46 ⟨gi46, [go46], f46⟩ :=
  ent_ok (fn := Try.f46) (gi := gi46) (gos := [go46]) (f := f46) (c := c46) (fx := fx46) ⟨Try.func46, by kernel_rfl, rfl, by decide +kernel, rfl, rfl⟩ (by kernel_rfl) (Table.ok T68_ok _) hmix (qf46) f46_eq
noncomputable def T46 : Table := T68.add 46 [⟨gi46, [go46], f46⟩] []
theorem T46_ok : TableOk P T46 := Table.plus T68_ok (es := [⟨gi46, [go46], f46⟩]) ⟨f46_ok, trivial⟩ []

noncomputable def c70 : Code := Func.code Try.f70
abbrev gi70 : Sg := ⟨[0, 1, 2], [.lf (.gr .bool 0), .lf (.int .i64), .lf (.int .i64)], [some (.arr true .bool)]⟩
abbrev go70 : Sg := ⟨[6, 7], [.lf (.gr .bool 1), .lf (.int .i64)], [none, some (.arr true .bool)]⟩
def fx70 : List Bool := [ff]
abbrev g70_1 : Sg := ⟨[0, 1, 2, 8, 9], [.lf (.gr .bool 1), .lf (.int .i64), .lf (.int .i64), .lf (.gr .bool 2), .lf (.int .i64)], [none, some (.arr true .bool), some (.arr true .bool)]⟩
abbrev o70_1 : Outs := [(.exit 0, ⟨[0, 1, 8], [.lf (.gr .bool 1), .lf (.int .i64), .lf (.gr .bool 2)], [none, some (.arr true .bool), some (.arr true .bool)]⟩)]
noncomputable def b70_1 (x : g70_1.D) : Option (outD ((.normal, g70_1) :: o70_1)) :=
  (if ((decide (x.2.2.1 < x.2.1)) = true) then (if (((length (take (length x.2.2.2.2.1) (drop 0 x.2.2.2.2.1))) + (length (take 1 (drop 0 (List.set (replicate 1 false) 0 ((Int.tmod x.1 (2 : Int)) == (1 : Int))))))) ≤ 140737488355328) then (if ((length x.2.2.2.1) = (length x.2.2.2.1)) then (if ((length ((take (length x.2.2.2.2.1) (drop 0 x.2.2.2.2.1)) ++ (take 1 (drop 0 (List.set (replicate 1 false) 0 ((Int.tmod x.1 (2 : Int)) == (1 : Int))))))) = (length ((take (length x.2.2.2.2.1) (drop 0 x.2.2.2.2.1)) ++ (take 1 (drop 0 (List.set (replicate 1 false) 0 ((Int.tmod x.1 (2 : Int)) == (1 : Int)))))))) then (some (Sum.inl ((IntKind.wrap .i64 (Int.tdiv x.1 (2 : Int))), x.2.1, (IntKind.wrap .i64 (x.2.2.1 + (1 : Int))), x.2.2.2.1, ((take (length x.2.2.2.2.1) (drop 0 x.2.2.2.2.1)) ++ (take 1 (drop 0 (List.set (replicate 1 false) 0 ((Int.tmod x.1 (2 : Int)) == (1 : Int)))))), ())))
 else none)
 else none)
 else none)
 else (if ((length x.2.2.2.1) = (length x.2.2.2.1)) then (if ((length x.2.2.2.2.1) = (length x.2.2.2.2.1)) then (some (Sum.inr (Sum.inl (x.1, x.2.2.2.1, x.2.2.2.2.1, ()))))
 else none)
 else none))
theorem b70_1_eq (x : g70_1.D) : b70_1 x = evF P (T46.orc _) Try.f70.ntmps fx70 (Code.at [tt, tt, tt, ff, tt, ff, ff] c70) (planAt 64 []) g70_1 x (injK fx70 ((.normal, g70_1) :: o70_1) some) := by kernel_rfl
noncomputable def l70_1 : g70_1.D → Option (outD o70_1) := loopN g70_1 o70_1 b70_1 18446744073709551616
theorem at70_1 : Code.at [tt, tt, tt, ff, tt, ff] c70 = .loop (Code.at [tt, tt, tt, ff, tt, ff, ff] c70) := by kernel_rfl
theorem s70_1_ok : SubOk P Try.f70.ntmps fx70 (Code.at [tt, tt, tt, ff, tt, ff] c70) ⟨g70_1, o70_1, l70_1⟩ := by
  rw [at70_1]
  exact loop_ok (sub_ok (g := g70_1) (outs := ((.normal, g70_1) :: o70_1)) (f := b70_1) (Table.ok T46_ok _) hmix (planAt_ok (P := P) (n := Try.f70.ntmps) (fx := fx70) (c := (Code.at [tt, tt, tt, ff, tt, ff, ff] c70)) (d := 64) (l := []) trivial) b70_1_eq) rfl _
noncomputable def f70 (x : gi70.D) : Option go70.D :=
  (if ((decide (x.2.1 < (0 : Int))) = true) then (if ((length x.2.2.1) = (length x.2.2.1)) then (some ((1 : Int), x.2.2.1, ()))
 else none)
 else (if ((decide (x.2.1 > (24 : Int))) = true) then (if ((length x.2.2.1) = (length x.2.2.1)) then (some ((1 : Int), x.2.2.1, ()))
 else none)
 else (if ((decide (x.1 < (0 : Int))) = true) then (if ((length x.2.2.1) = (length x.2.2.1)) then (some ((1 : Int), x.2.2.1, ()))
 else none)
 else (if ((length x.2.2.1) = (length x.2.2.1)) then (Option.bind (l70_1 (x.1, x.2.1, (0 : Int), x.2.2.1, [], ())) (Sum.elim (fun y1 => (if ((decide (y1.1 > (0 : Int))) = true) then (if ((length y1.2.1) = (length y1.2.1)) then (some ((1 : Int), y1.2.1, ()))
 else none)
 else (if (((length (take (length y1.2.1) (drop 0 y1.2.1))) + (length (take (length y1.2.2.1) (drop 0 y1.2.2.1)))) ≤ 140737488355328) then (if ((length ((take (length y1.2.1) (drop 0 y1.2.1)) ++ (take (length y1.2.2.1) (drop 0 y1.2.2.1)))) = (length ((take (length y1.2.1) (drop 0 y1.2.1)) ++ (take (length y1.2.2.1) (drop 0 y1.2.2.1))))) then (some ((0 : Int), ((take (length y1.2.1) (drop 0 y1.2.1)) ++ (take (length y1.2.2.1) (drop 0 y1.2.2.1))), ()))
 else none)
 else none))) Empty.elim))
 else none))))
theorem f70_eq (x : gi70.D) : f70 x = evF P (T46.orc _) Try.f70.ntmps fx70 c70 (planAt 64 [([tt, tt, tt, ff, tt, ff], ⟨g70_1, o70_1, l70_1⟩)]) gi70 x (fnK fx70 [go70]) := by kernel_rfl
theorem pf70 : AllSub P Try.f70.ntmps fx70 c70 [([tt, tt, tt, ff, tt, ff], ⟨g70_1, o70_1, l70_1⟩)] := And.intro s70_1_ok (trivial)
theorem qf70 : PlanOk P Try.f70.ntmps fx70 (planAt 64 [([tt, tt, tt, ff, tt, ff], ⟨g70_1, o70_1, l70_1⟩)]) c70 := planAt_ok pf70
theorem f70_ok : EntOk P 70 ⟨gi70, [go70], f70⟩ :=
  ent_ok (fn := Try.f70) (gi := gi70) (gos := [go70]) (f := f70) (c := c70) (fx := fx70) ⟨Try.func70, by kernel_rfl, rfl, by decide +kernel, rfl, rfl⟩ (by kernel_rfl) (Table.ok T46_ok _) hmix (qf70) f70_eq
noncomputable def T70 : Table := T46.add 70 [⟨gi70, [go70], f70⟩] [tt, ff, ff]
theorem T70_ok : TableOk P T70 := Table.plus T46_ok (es := [⟨gi70, [go70], f70⟩]) ⟨f70_ok, trivial⟩ [tt, ff, ff]

noncomputable def c47 : Code := Func.code Try.f47
abbrev gi47 : Sg := ⟨[0, 1, 2], [.lf (.gr .bool 0), .lf (.int .i64), .lf (.int .i64)], [some (.arr true .bool)]⟩
abbrev go47 : Sg := ⟨[6], [.lf (.gr .bool 1)], [none, some (.arr true .bool)]⟩
def fx47 : List Bool := [ff]
noncomputable def f47 (x : gi47.D) : Option go47.D :=
  (if ((length x.2.2.1) = (length x.2.2.1)) then (Option.bind (f70 (x.1, x.2.1, x.2.2.1, ())) (fun y1 => (if ((length y1.2.1) = (length y1.2.1)) then (some (y1.2.1, ()))
 else none)))
 else none)
theorem f47_eq (x : gi47.D) : f47 x = evF P (T70.orc _) Try.f47.ntmps fx47 c47 (planAt 64 []) gi47 x (fnK fx47 [go47]) := by kernel_rfl
theorem f47_ok : EntOk P 47 ⟨gi47, [go47], f47⟩ :=
  ent_ok (fn := Try.f47) (gi := gi47) (gos := [go47]) (f := f47) (c := c47) (fx := fx47) ⟨Try.func47, by kernel_rfl, rfl, by decide +kernel, rfl, rfl⟩ (by kernel_rfl) (Table.ok T70_ok _) hmix (planAt_ok (P := P) (n := Try.f47.ntmps) (fx := fx47) (c := c47) (d := 64) (l := []) trivial) f47_eq
noncomputable def T47 : Table := T70.add 47 [⟨gi47, [go47], f47⟩] [tt, ff, ff]
theorem T47_ok : TableOk P T47 := Table.plus T70_ok (es := [⟨gi47, [go47], f47⟩]) ⟨f47_ok, trivial⟩ [tt, ff, ff]

noncomputable def c71 : Code := Func.code Try.f71
abbrev gi71 : Sg := ⟨[0], [.lf (.int .i64)], []⟩
abbrev go71 : Sg := ⟨[2], [.lf (.int .i64)], []⟩
def fx71 : List Bool := []
noncomputable def f71 (x : gi71.D) : Option go71.D :=
  (if ((decide (x.1 < (4 : Int))) = true) then (some ((0 : Int), ()))
 else (some ((IntKind.wrap .i64 (Int.tdiv (IntKind.wrap .i64 (x.1 - (2 : Int))) (2 : Int))), ())))
theorem f71_eq (x : gi71.D) : f71 x = evF P (T47.orc _) Try.f71.ntmps fx71 c71 (planAt 64 []) gi71 x (fnK fx71 [go71]) := by kernel_rfl
theorem f71_ok : EntOk P 71 ⟨gi71, [go71], f71⟩ :=
  ent_ok (fn := Try.f71) (gi := gi71) (gos := [go71]) (f := f71) (c := c71) (fx := fx71) ⟨Try.func71, by kernel_rfl, rfl, by decide +kernel, rfl, rfl⟩ (by kernel_rfl) (Table.ok T47_ok _) hmix (planAt_ok (P := P) (n := Try.f71.ntmps) (fx := fx71) (c := c71) (d := 64) (l := []) trivial) f71_eq
noncomputable def T71 : Table := T47.add 71 [⟨gi71, [go71], f71⟩] []
theorem T71_ok : TableOk P T71 := Table.plus T47_ok (es := [⟨gi71, [go71], f71⟩]) ⟨f71_ok, trivial⟩ []

noncomputable def c48 : Code := Func.code Try.f48
abbrev gi48 : Sg := ⟨[0], [.lf (.int .i64)], []⟩
abbrev go48 : Sg := ⟨[2, 3], [.lf (.int .i64), .lf (.int .i64)], []⟩
def fx48 : List Bool := []
abbrev g48_1 : Sg := ⟨[0, 4, 5], [.lf (.int .i64), .lf (.int .i64), .lf (.int .i64)], []⟩
abbrev o48_1 : Outs := [(.exit 0, ⟨[0, 4], [.lf (.int .i64), .lf (.int .i64)], []⟩)]
noncomputable def b48_1 (x : g48_1.D) : Option (outD ((.normal, g48_1) :: o48_1)) :=
  (if ((decide (x.2.2.1 < x.1)) = true) then (Option.bind (f71 (x.2.2.1, ())) (fun y1 => (Option.bind (f68 (y1.1, ())) (fun y2 => (some (Sum.inl (x.1, (IntKind.wrap .i64 (x.2.1 + y2.1)), (IntKind.wrap .i64 (x.2.2.1 + (1 : Int))), ())))))))
 else (some (Sum.inr (Sum.inl (x.1, x.2.1, ())))))
theorem b48_1_eq (x : g48_1.D) : b48_1 x = evF P (T71.orc _) Try.f48.ntmps fx48 (Code.at [tt, tt, ff, tt, ff, ff] c48) (planAt 64 []) g48_1 x (injK fx48 ((.normal, g48_1) :: o48_1) some) := by kernel_rfl
noncomputable def l48_1 : g48_1.D → Option (outD o48_1) := loopN g48_1 o48_1 b48_1 18446744073709551616
theorem at48_1 : Code.at [tt, tt, ff, tt, ff] c48 = .loop (Code.at [tt, tt, ff, tt, ff, ff] c48) := by kernel_rfl
theorem s48_1_ok : SubOk P Try.f48.ntmps fx48 (Code.at [tt, tt, ff, tt, ff] c48) ⟨g48_1, o48_1, l48_1⟩ := by
  rw [at48_1]
  exact loop_ok (sub_ok (g := g48_1) (outs := ((.normal, g48_1) :: o48_1)) (f := b48_1) (Table.ok T71_ok _) hmix (planAt_ok (P := P) (n := Try.f48.ntmps) (fx := fx48) (c := (Code.at [tt, tt, ff, tt, ff, ff] c48)) (d := 64) (l := []) trivial) b48_1_eq) rfl _
noncomputable def f48 (x : gi48.D) : Option go48.D :=
  (Option.bind (l48_1 (x.1, (1 : Int), (0 : Int), ())) (Sum.elim (fun y1 => (Option.bind (f71 (y1.1, ())) (fun y2 => (some (y1.2.1, y2.1, ()))))) Empty.elim))
theorem f48_eq (x : gi48.D) : f48 x = evF P (T71.orc _) Try.f48.ntmps fx48 c48 (planAt 64 [([tt, tt, ff, tt, ff], ⟨g48_1, o48_1, l48_1⟩)]) gi48 x (fnK fx48 [go48]) := by kernel_rfl
theorem pf48 : AllSub P Try.f48.ntmps fx48 c48 [([tt, tt, ff, tt, ff], ⟨g48_1, o48_1, l48_1⟩)] := And.intro s48_1_ok (trivial)
theorem qf48 : PlanOk P Try.f48.ntmps fx48 (planAt 64 [([tt, tt, ff, tt, ff], ⟨g48_1, o48_1, l48_1⟩)]) c48 := planAt_ok pf48
theorem f48_ok : EntOk P 48 ⟨gi48, [go48], f48⟩ :=
  ent_ok (fn := Try.f48) (gi := gi48) (gos := [go48]) (f := f48) (c := c48) (fx := fx48) ⟨Try.func48, by kernel_rfl, rfl, by decide +kernel, rfl, rfl⟩ (by kernel_rfl) (Table.ok T71_ok _) hmix (qf48) f48_eq
noncomputable def T48 : Table := T71.add 48 [⟨gi48, [go48], f48⟩] []
theorem T48_ok : TableOk P T48 := Table.plus T71_ok (es := [⟨gi48, [go48], f48⟩]) ⟨f48_ok, trivial⟩ []

noncomputable def c49 : Code := Func.code Try.f49
abbrev gi49 : Sg := ⟨[0], [.lf (.sl .bool)], []⟩
abbrev go49 : Sg := ⟨[2], [.lf (.gr (.int .u8) 0)], [some (.arr true (.int .u8))]⟩
def fx49 : List Bool := []
abbrev g49_2 : Sg := ⟨[0, 3, 4, 5, 6], [.lf (.sl .bool), .lf (.gr (.int .u8) 0), .lf (.int .i64), .lf (.int .i64), .lf (.int .i64)], [some (.arr true (.int .u8))]⟩
abbrev o49_2 : Outs := [(.exit 2, ⟨[0, 3, 4, 5], [.lf (.sl .bool), .lf (.gr (.int .u8) 0), .lf (.int .i64), .lf (.int .i64)], [some (.arr true (.int .u8))]⟩)]
noncomputable def b49_2 (x : g49_2.D) : Option (outD ((.normal, g49_2) :: o49_2)) :=
  (if ((decide (x.2.2.2.1 < (Int.tmod x.2.1 (8 : Int)))) = true) then (if ((length x.2.2.2.2.1) = (length x.2.2.2.2.1)) then (some (Sum.inl (x.1, x.2.1, (IntKind.wrap .i64 ((2 : Int) * x.2.2.1)), (IntKind.wrap .i64 (x.2.2.2.1 + (1 : Int))), x.2.2.2.2.1, ())))
 else none)
 else (if ((length x.2.2.2.2.1) = (length x.2.2.2.2.1)) then (some (Sum.inr (Sum.inl (x.1, x.2.1, x.2.2.1, x.2.2.2.2.1, ()))))
 else none))
theorem b49_2_eq (x : g49_2.D) : b49_2 x = evF P (T48.orc _) Try.f49.ntmps fx49 (Code.at [tt, tt, ff, tt, ff, ff, tt, ff, ff, tt, ff, tt, ff, tt, ff, ff] c49) (planAt 64 []) g49_2 x (injK fx49 ((.normal, g49_2) :: o49_2) some) := by kernel_rfl
noncomputable def l49_2 : g49_2.D → Option (outD o49_2) := loopN g49_2 o49_2 b49_2 18446744073709551616
theorem at49_2 : Code.at [tt, tt, ff, tt, ff, ff, tt, ff, ff, tt, ff, tt, ff, tt, ff] c49 = .loop (Code.at [tt, tt, ff, tt, ff, ff, tt, ff, ff, tt, ff, tt, ff, tt, ff, ff] c49) := by kernel_rfl
theorem s49_2_ok : SubOk P Try.f49.ntmps fx49 (Code.at [tt, tt, ff, tt, ff, ff, tt, ff, ff, tt, ff, tt, ff, tt, ff] c49) ⟨g49_2, o49_2, l49_2⟩ := by
  rw [at49_2]
  exact loop_ok (sub_ok (g := g49_2) (outs := ((.normal, g49_2) :: o49_2)) (f := b49_2) (Table.ok T48_ok _) hmix (planAt_ok (P := P) (n := Try.f49.ntmps) (fx := fx49) (c := (Code.at [tt, tt, ff, tt, ff, ff, tt, ff, ff, tt, ff, tt, ff, tt, ff, ff] c49)) (d := 64) (l := []) trivial) b49_2_eq) rfl _
abbrev g49_1 : Sg := ⟨[0, 3, 4], [.lf (.sl .bool), .lf (.gr (.int .u8) 0), .lf (.int .i64)], [some (.arr true (.int .u8))]⟩
abbrev o49_1 : Outs := [(.exit 0, ⟨[3], [.lf (.gr (.int .u8) 0)], [some (.arr true (.int .u8))]⟩)]
noncomputable def b49_1 (x : g49_1.D) : Option (outD ((.normal, g49_1) :: o49_1)) :=
  (if ((decide (x.2.1 ≥ (0 : Int))) = true) then (if ((0 : Int) ≤ x.2.1) then (if (x.2.1 < (((length x.1) : Nat) : Int)) then (if ((getD x.1 (Int.toNat x.2.1) false) = true) then (if ((length x.2.2.1) = (length x.2.2.1)) then (Option.bind (l49_2 (x.1, x.2.1, (1 : Int), (0 : Int), x.2.2.1, ())) (Sum.elim (fun y1 => (if ((0 : Int) ≤ (IntKind.wrap .i64 (Int.tdiv y1.2.1 (8 : Int)))) then (if ((IntKind.wrap .i64 (Int.tdiv y1.2.1 (8 : Int))) < (((length y1.2.2.2.1) : Nat) : Int)) then (if ((0 : Int) ≤ (IntKind.wrap .i64 (Int.tdiv y1.2.1 (8 : Int)))) then (if ((IntKind.wrap .i64 (Int.tdiv y1.2.1 (8 : Int))) < (((length y1.2.2.2.1) : Nat) : Int)) then (if ((length y1.2.2.2.1) = (length (List.set y1.2.2.2.1 (0 + (Int.toNat (IntKind.wrap .i64 (Int.tdiv y1.2.1 (8 : Int))))) (IntKind.wrap .u8 ((getD y1.2.2.2.1 (0 + (Int.toNat (IntKind.wrap .i64 (Int.tdiv y1.2.1 (8 : Int))))) (0 : Int)) + (IntKind.wrap .u8 y1.2.2.1)))))) then (some (Sum.inl (y1.1, (IntKind.wrap .i64 (y1.2.1 - (1 : Int))), (List.set y1.2.2.2.1 (0 + (Int.toNat (IntKind.wrap .i64 (Int.tdiv y1.2.1 (8 : Int))))) (IntKind.wrap .u8 ((getD y1.2.2.2.1 (0 + (Int.toNat (IntKind.wrap .i64 (Int.tdiv y1.2.1 (8 : Int))))) (0 : Int)) + (IntKind.wrap .u8 y1.2.2.1)))), ())))
 else none)
 else none)
 else none)
 else none)
 else none)) Empty.elim))
 else none)
 else (if ((length x.2.2.1) = (length x.2.2.1)) then (some (Sum.inl (x.1, (IntKind.wrap .i64 (x.2.1 - (1 : Int))), x.2.2.1, ())))
 else none))
 else none)
 else none)
 else (if ((length x.2.2.1) = (length x.2.2.1)) then (some (Sum.inr (Sum.inl (x.2.2.1, ()))))
 else none))
theorem b49_1_eq (x : g49_1.D) : b49_1 x = evF P (T48.orc _) Try.f49.ntmps fx49 (Code.at [tt, tt, ff, tt, ff, ff] c49) (planAt 64 [([tt, ff, ff, tt, ff, tt, ff, tt, ff], ⟨g49_2, o49_2, l49_2⟩)]) g49_1 x (injK fx49 ((.normal, g49_1) :: o49_1) some) := by kernel_rfl
noncomputable def l49_1 : g49_1.D → Option (outD o49_1) := loopN g49_1 o49_1 b49_1 18446744073709551616
theorem p49_1 : AllSub P Try.f49.ntmps fx49 (Code.at [tt, tt, ff, tt, ff, ff] c49) [([tt, ff, ff, tt, ff, tt, ff, tt, ff], ⟨g49_2, o49_2, l49_2⟩)] := And.intro s49_2_ok (trivial)
theorem q49_1 : PlanOk P Try.f49.ntmps fx49 (planAt 64 [([tt, ff, ff, tt, ff, tt, ff, tt, ff], ⟨g49_2, o49_2, l49_2⟩)]) (Code.at [tt, tt, ff, tt, ff, ff] c49) := planAt_ok p49_1
theorem at49_1 : Code.at [tt, tt, ff, tt, ff] c49 = .loop (Code.at [tt, tt, ff, tt, ff, ff] c49) := by kernel_rfl
theorem s49_1_ok : SubOk P Try.f49.ntmps fx49 (Code.at [tt, tt, ff, tt, ff] c49) ⟨g49_1, o49_1, l49_1⟩ := by
  rw [at49_1]
  exact loop_ok (sub_ok (g := g49_1) (outs := ((.normal, g49_1) :: o49_1)) (f := b49_1) (Table.ok T48_ok _) hmix (q49_1) b49_1_eq) rfl _
noncomputable def f49 (x : gi49.D) : Option go49.D :=
  (if ((0 : Int) ≤ (IntKind.wrap .i64 (Int.tdiv (IntKind.wrap .i64 ((((length x.1) : Nat) : Int) + (7 : Int))) (8 : Int)))) then (if ((IntKind.wrap .i64 (Int.tdiv (IntKind.wrap .i64 ((((length x.1) : Nat) : Int) + (7 : Int))) (8 : Int))) ≤ (IntKind.wrap .i64 (Int.tdiv (IntKind.wrap .i64 ((((length x.1) : Nat) : Int) + (7 : Int))) (8 : Int)))) then (if ((IntKind.wrap .i64 (Int.tdiv (IntKind.wrap .i64 ((((length x.1) : Nat) : Int) + (7 : Int))) (8 : Int))) ≤ (281474976710656 : Int)) then (if ((Int.toNat (IntKind.wrap .i64 (Int.tdiv (IntKind.wrap .i64 ((((length x.1) : Nat) : Int) + (7 : Int))) (8 : Int)))) = (length (replicate (Int.toNat (IntKind.wrap .i64 (Int.tdiv (IntKind.wrap .i64 ((((length x.1) : Nat) : Int) + (7 : Int))) (8 : Int)))) (0 : Int)))) then (Option.bind (l49_1 (x.1, (IntKind.wrap .i64 ((((length x.1) : Nat) : Int) - (1 : Int))), (replicate (Int.toNat (IntKind.wrap .i64 (Int.tdiv (IntKind.wrap .i64 ((((length x.1) : Nat) : Int) + (7 : Int))) (8 : Int)))) (0 : Int)), ())) (Sum.elim (fun y1 => (if ((length y1.1) = (length y1.1)) then (some (y1.1, ()))
 else none)) Empty.elim))
 else none)
 else none)
 else none)
 else none)
theorem f49_eq (x : gi49.D) : f49 x = evF P (T48.orc _) Try.f49.ntmps fx49 c49 (planAt 64 [([tt, tt, ff, tt, ff], ⟨g49_1, o49_1, l49_1⟩)]) gi49 x (fnK fx49 [go49]) := by kernel_rfl
theorem pf49 : AllSub P Try.f49.ntmps fx49 c49 [([tt, tt, ff, tt, ff], ⟨g49_1, o49_1, l49_1⟩)] := And.intro s49_1_ok (trivial)
theorem qf49 : PlanOk P Try.f49.ntmps fx49 (planAt 64 [([tt, tt, ff, tt, ff], ⟨g49_1, o49_1, l49_1⟩)]) c49 := planAt_ok pf49
theorem f49_ok : EntOk P 49 ⟨gi49, [go49], f49⟩ :=
  ent_ok (fn := Try.f49) (gi := gi49) (gos := [go49]) (f := f49) (c := c49) (fx := fx49) ⟨Try.func49, by kernel_rfl, rfl, by decide +kernel, rfl, rfl⟩ (by kernel_rfl) (Table.ok T48_ok _) hmix (qf49) f49_eq
noncomputable def T49 : Table := T48.add 49 [⟨gi49, [go49], f49⟩] []
theorem T49_ok : TableOk P T49 := Table.plus T48_ok (es := [⟨gi49, [go49], f49⟩]) ⟨f49_ok, trivial⟩ []

noncomputable def c23 : Code := Func.code Try.f23
abbrev gi23 : Sg := ⟨[0], [.lf (.sl (.pair (.int .i64) (.pair (.int .i64) (.int .i64))))], []⟩
abbrev go23 : Sg := ⟨[2, 3], [.lf (.sl (.int .u8)), .lf (.int .i64)], []⟩
def fx23 : List Bool := []
abbrev g23_4 : Sg := ⟨[0, 4, 6, 7, 8, 9, 10, 11, 12], [.lf (.sl (.pair (.int .i64) (.pair (.int .i64) (.int .i64)))), .lf (.gr (.int .i64) 0), .lf (.sl (.int .i64)), .lf (.gr .bool 1), .lf (.int .i64), .lf (.ptr 2 0), .lf (.int .i64), .lf (.int .i64), .lf (.int .i64)], [some (.arr true (.int .i64)), some (.arr true .bool), some (.box true [.lf (.int .i64), .lf (.int .i64), .lf (.int .i64)])]⟩
abbrev o23_4 : Outs := [(.exit 6, ⟨[0, 4, 6, 7, 8, 9, 10, 11, 12], [.lf (.sl (.pair (.int .i64) (.pair (.int .i64) (.int .i64)))), .lf (.gr (.int .i64) 0), .lf (.sl (.int .i64)), .lf (.gr .bool 1), .lf (.int .i64), .lf (.ptr 2 0), .lf (.int .i64), .lf (.int .i64), .lf (.int .i64)], [some (.arr true (.int .i64)), some (.arr true .bool), some (.box true [.lf (.int .i64), .lf (.int .i64), .lf (.int .i64)])]⟩)]
noncomputable def b23_4 (x : g23_4.D) : Option (outD ((.normal, g23_4) :: o23_4)) :=
  (if ((decide (x.2.2.2.2.1 > x.2.2.2.2.2.2.2.2.2.2.1)) = true) then (Option.bind (f48 ((IntKind.wrap .i64 (x.2.2.2.1 - (1 : Int))), ())) (fun y1 => (if ((length x.2.2.2.2.2.2.1) = (length x.2.2.2.2.2.2.1)) then (if ((length x.2.2.2.2.2.2.2.1) = (length x.2.2.2.2.2.2.2.1)) then (some (Sum.inl (x.1, x.2.1, x.2.2.1, (IntKind.wrap .i64 (x.2.2.2.1 - (1 : Int))), y1.1, y1.2.1, x.2.2.2.2.2.2.1, x.2.2.2.2.2.2.2.1, x.2.2.2.2.2.2.2.2.1, x.2.2.2.2.2.2.2.2.2.1, x.2.2.2.2.2.2.2.2.2.2.1, ())))
 else none)
 else none)))
 else (if ((length x.2.2.2.2.2.2.1) = (length x.2.2.2.2.2.2.1)) then (if ((length x.2.2.2.2.2.2.2.1) = (length x.2.2.2.2.2.2.2.1)) then (some (Sum.inr (Sum.inl (x.1, x.2.1, x.2.2.1, x.2.2.2.1, x.2.2.2.2.1, x.2.2.2.2.2.1, x.2.2.2.2.2.2.1, x.2.2.2.2.2.2.2.1, x.2.2.2.2.2.2.2.2.1, x.2.2.2.2.2.2.2.2.2.1, x.2.2.2.2.2.2.2.2.2.2.1, ()))))
 else none)
 else none))
theorem b23_4_eq (x : g23_4.D) : b23_4 x = evF P (T49.orc _) Try.f23.ntmps fx23 (Code.at [tt, tt, tt, tt, tt, tt, ff, tt, ff, ff, tt, ff, ff, tt, tt, tt, tt, tt, tt, tt, tt, tt, tt, ff, ff, ff] c23) (planAt 64 []) g23_4 x (injK fx23 ((.normal, g23_4) :: o23_4) some) := by kernel_rfl
noncomputable def l23_4 : g23_4.D → Option (outD o23_4) := loopN g23_4 o23_4 b23_4 18446744073709551616
theorem at23_4 : Code.at [tt, tt, tt, tt, tt, tt, ff, tt, ff, ff, tt, ff, ff, tt, tt, tt, tt, tt, tt, tt, tt, tt, tt, ff, ff] c23 = .loop (Code.at [tt, tt, tt, tt, tt, tt, ff, tt, ff, ff, tt, ff, ff, tt, tt, tt, tt, tt, tt, tt, tt, tt, tt, ff, ff, ff] c23) := by kernel_rfl
theorem s23_4_ok : SubOk P Try.f23.ntmps fx23 (Code.at [tt, tt, tt, tt, tt, tt, ff, tt, ff, ff, tt, ff, ff, tt, tt, tt, tt, tt, tt, tt, tt, tt, tt, ff, ff] c23) ⟨g23_4, o23_4, l23_4⟩ := by
  rw [at23_4]
  exact loop_ok (sub_ok (g := g23_4) (outs := ((.normal, g23_4) :: o23_4)) (f := b23_4) (Table.ok T49_ok _) hmix (planAt_ok (P := P) (n := Try.f23.ntmps) (fx := fx23) (c := (Code.at [tt, tt, tt, tt, tt, tt, ff, tt, ff, ff, tt, ff, ff, tt, tt, tt, tt, tt, tt, tt, tt, tt, tt, ff, ff, ff] c23)) (d := 64) (l := []) trivial) b23_4_eq) rfl _
abbrev g23_3 : Sg := ⟨[0, 4, 6, 7, 8, 9, 10, 11, 12], [.lf (.sl (.pair (.int .i64) (.pair (.int .i64) (.int .i64)))), .lf (.gr (.int .i64) 0), .lf (.sl (.int .i64)), .lf (.gr .bool 1), .lf (.int .i64), .lf (.ptr 2 0), .lf (.int .i64), .lf (.int .i64), .lf (.int .i64)], [some (.arr true (.int .i64)), some (.arr true .bool), some (.box true [.lf (.int .i64), .lf (.int .i64), .lf (.int .i64)])]⟩
abbrev o23_3 : Outs := [(.exit 4, ⟨[0, 4, 6, 7, 8, 9, 10, 11, 12], [.lf (.sl (.pair (.int .i64) (.pair (.int .i64) (.int .i64)))), .lf (.gr (.int .i64) 0), .lf (.sl (.int .i64)), .lf (.gr .bool 1), .lf (.int .i64), .lf (.ptr 2 0), .lf (.int .i64), .lf (.int .i64), .lf (.int .i64)], [some (.arr true (.int .i64)), some (.arr true .bool), some (.box true [.lf (.int .i64), .lf (.int .i64), .lf (.int .i64)])]⟩)]
noncomputable def b23_3 (x : g23_3.D) : Option (outD ((.normal, g23_3) :: o23_3)) :=
  (if ((decide (x.2.2.2.2.1 > x.2.2.2.2.2.2.2.2.2.1)) = true) then (Option.bind (f46 ((IntKind.wrap .i64 (x.2.2.2.1 - (1 : Int))), ())) (fun y1 => (if ((length x.2.2.2.2.2.2.1) = (length x.2.2.2.2.2.2.1)) then (if ((length x.2.2.2.2.2.2.2.1) = (length x.2.2.2.2.2.2.2.1)) then (some (Sum.inl (x.1, x.2.1, x.2.2.1, (IntKind.wrap .i64 (x.2.2.2.1 - (1 : Int))), y1.1, y1.2.1, x.2.2.2.2.2.2.1, x.2.2.2.2.2.2.2.1, x.2.2.2.2.2.2.2.2.1, x.2.2.2.2.2.2.2.2.2.1, x.2.2.2.2.2.2.2.2.2.2.1, ())))
 else none)
 else none)))
 else (if ((length x.2.2.2.2.2.2.1) = (length x.2.2.2.2.2.2.1)) then (if ((length x.2.2.2.2.2.2.2.1) = (length x.2.2.2.2.2.2.2.1)) then (some (Sum.inr (Sum.inl (x.1, x.2.1, x.2.2.1, x.2.2.2.1, x.2.2.2.2.1, x.2.2.2.2.2.1, x.2.2.2.2.2.2.1, x.2.2.2.2.2.2.2.1, x.2.2.2.2.2.2.2.2.1, x.2.2.2.2.2.2.2.2.2.1, x.2.2.2.2.2.2.2.2.2.2.1, ()))))
 else none)
 else none))
theorem b23_3_eq (x : g23_3.D) : b23_3 x = evF P (T49.orc _) Try.f23.ntmps fx23 (Code.at [tt, tt, tt, tt, tt, tt, ff, tt, ff, ff, tt, ff, ff, tt, tt, tt, tt, tt, ff, ff, ff] c23) (planAt 64 []) g23_3 x (injK fx23 ((.normal, g23_3) :: o23_3) some) := by kernel_rfl
noncomputable def l23_3 : g23_3.D → Option (outD o23_3) := loopN g23_3 o23_3 b23_3 18446744073709551616
theorem at23_3 : Code.at [tt, tt, tt, tt, tt, tt, ff, tt, ff, ff, tt, ff, ff, tt, tt, tt, tt, tt, ff, ff] c23 = .loop (Code.at [tt, tt, tt, tt, tt, tt, ff, tt, ff, ff, tt, ff, ff, tt, tt, tt, tt, tt, ff, ff, ff] c23) := by kernel_rfl
theorem s23_3_ok : SubOk P Try.f23.ntmps fx23 (Code.at [tt, tt, tt, tt, tt, tt, ff, tt, ff, ff, tt, ff, ff, tt, tt, tt, tt, tt, ff, ff] c23) ⟨g23_3, o23_3, l23_3⟩ := by
  rw [at23_3]
  exact loop_ok (sub_ok (g := g23_3) (outs := ((.normal, g23_3) :: o23_3)) (f := b23_3) (Table.ok T49_ok _) hmix (planAt_ok (P := P) (n := Try.f23.ntmps) (fx := fx23) (c := (Code.at [tt, tt, tt, tt, tt, tt, ff, tt, ff, ff, tt, ff, ff, tt, tt, tt, tt, tt, ff, ff, ff] c23)) (d := 64) (l := []) trivial) b23_3_eq) rfl _
abbrev g23_2 : Sg := ⟨[0, 4, 6, 7, 8], [.lf (.sl (.pair (.int .i64) (.pair (.int .i64) (.int .i64)))), .lf (.gr (.int .i64) 0), .lf (.sl (.int .i64)), .lf (.gr .bool 1), .lf (.int .i64)], [some (.arr true (.int .i64)), some (.arr true .bool)]⟩
abbrev o23_2 : Outs := [(.exit 2, ⟨[6, 7], [.lf (.sl (.int .i64)), .lf (.gr .bool 0)], [some (.arr true .bool)]⟩), (.ret, ⟨[2, 3], [.lf (.sl (.int .u8)), .lf (.int .i64)], []⟩)]
noncomputable def b23_2 (x : g23_2.D) : Option (outD ((.normal, g23_2) :: o23_2)) :=
  (if ((decide (x.2.2.1 < (((length x.1) : Nat) : Int))) = true) then (if ((0 : Int) ≤ x.2.2.1) then (if (x.2.2.1 < (((length x.1) : Nat) : Int)) then (Option.bind (f44 ((getD x.1 (Int.toNat x.2.2.1) ((0 : Int), (0 : Int), (0 : Int))).1, (getD x.1 (Int.toNat x.2.2.1) ((0 : Int), (0 : Int), (0 : Int))).2.1, (getD x.1 (Int.toNat x.2.2.1) ((0 : Int), (0 : Int), (0 : Int))).2.2, ())) (fun y1 => (if ((Bool.not y1.1) = true) then (some (Sum.inr (Sum.inr (Sum.inl ([], (1 : Int), ())))))
 else (if (((getD x.1 (Int.toNat x.2.2.1) ((0 : Int), (0 : Int), (0 : Int))).2.1 == (0 : Int)) = true) then (Option.bind (f45 (x.2.1, (getD x.1 (Int.toNat x.2.2.1) ((0 : Int), (0 : Int), (0 : Int))).1, ())) (fun y2 => (if (((length (take (length x.2.2.2.2.1) (drop 0 x.2.2.2.2.1))) + (length (take (length y2.1) (drop 0 y2.1)))) ≤ 140737488355328) then (if ((length x.2.2.2.1) = (length x.2.2.2.1)) then (if ((length ((take (length x.2.2.2.2.1) (drop 0 x.2.2.2.2.1)) ++ (take (length y2.1) (drop 0 y2.1)))) = (length ((take (length x.2.2.2.2.1) (drop 0 x.2.2.2.2.1)) ++ (take (length y2.1) (drop 0 y2.1))))) then (some (Sum.inl (x.1, x.2.1, (IntKind.wrap .i64 (x.2.2.1 + (1 : Int))), x.2.2.2.1, ((take (length x.2.2.2.2.1) (drop 0 x.2.2.2.2.1)) ++ (take (length y2.1) (drop 0 y2.1))), ())))
 else none)
 else none)
 else none)))
 else (Option.bind (f46 ((285 : Int), ())) (fun y2 => (if ((length x.2.2.2.1) = (length x.2.2.2.1)) then (if ((length x.2.2.2.2.1) = (length x.2.2.2.2.1)) then (Option.bind (l23_3 (x.1, x.2.1, x.2.2.1, (285 : Int), y2.1, y2.2.1, x.2.2.2.1, x.2.2.2.2.1, (getD x.1 (Int.toNat x.2.2.1) ((0 : Int), (0 : Int), (0 : Int))).1, (getD x.1 (Int.toNat x.2.2.1) ((0 : Int), (0 : Int), (0 : Int))).2.1, (getD x.1 (Int.toNat x.2.2.1) ((0 : Int), (0 : Int), (0 : Int))).2.2, ())) (Sum.elim (fun y3 => (Option.bind (f45 (y3.2.1, y3.2.2.2.1, ())) (fun y4 => (if (((length (take (length y3.2.2.2.2.2.2.2.1) (drop 0 y3.2.2.2.2.2.2.2.1))) + (length (take (length y4.1) (drop 0 y4.1)))) ≤ 140737488355328) then (if ((length ((take (length y3.2.2.2.2.2.2.2.1) (drop 0 y3.2.2.2.2.2.2.2.1)) ++ (take (length y4.1) (drop 0 y4.1)))) = (length ((take (length y3.2.2.2.2.2.2.2.1) (drop 0 y3.2.2.2.2.2.2.2.1)) ++ (take (length y4.1) (drop 0 y4.1))))) then (Option.bind (f47 ((IntKind.wrap .i64 (y3.2.2.2.2.2.2.2.2.2.1 - y3.2.2.2.2.1)), y3.2.2.2.2.2.1, ((take (length y3.2.2.2.2.2.2.2.1) (drop 0 y3.2.2.2.2.2.2.2.1)) ++ (take (length y4.1) (drop 0 y4.1))), ())) (fun y5 => (Option.bind (f48 ((29 : Int), ())) (fun y6 => (if ((length y3.2.2.2.2.2.2.1) = (length y3.2.2.2.2.2.2.1)) then (if ((length y5.1) = (length y5.1)) then (Option.bind (l23_4 (y3.1, y3.2.1, y3.2.2.1, (29 : Int), y6.1, y6.2.1, y3.2.2.2.2.2.2.1, y5.1, y3.2.2.2.2.2.2.2.2.1, y3.2.2.2.2.2.2.2.2.2.1, y3.2.2.2.2.2.2.2.2.2.2.1, ())) (Sum.elim (fun y7 => (Option.bind (f45 ((take (length y7.2.2.2.2.2.2.1) (drop 0 y7.2.2.2.2.2.2.1)), y7.2.2.2.1, ())) (fun y8 => (if (((length (take (length y7.2.2.2.2.2.2.2.1) (drop 0 y7.2.2.2.2.2.2.2.1))) + (length (take (length y8.1) (drop 0 y8.1)))) ≤ 140737488355328) then (if ((length ((take (length y7.2.2.2.2.2.2.2.1) (drop 0 y7.2.2.2.2.2.2.2.1)) ++ (take (length y8.1) (drop 0 y8.1)))) = (length ((take (length y7.2.2.2.2.2.2.2.1) (drop 0 y7.2.2.2.2.2.2.2.1)) ++ (take (length y8.1) (drop 0 y8.1))))) then (Option.bind (f47 ((IntKind.wrap .i64 (y7.2.2.2.2.2.2.2.2.2.2.1 - y7.2.2.2.2.1)), y7.2.2.2.2.2.1, ((take (length y7.2.2.2.2.2.2.2.1) (drop 0 y7.2.2.2.2.2.2.2.1)) ++ (take (length y8.1) (drop 0 y8.1))), ())) (fun y9 => (if ((length y7.2.2.2.2.2.2.1) = (length y7.2.2.2.2.2.2.1)) then (if ((length y9.1) = (length y9.1)) then (some (Sum.inl (y7.1, y7.2.1, (IntKind.wrap .i64 (y7.2.2.1 + (1 : Int))), y7.2.2.2.2.2.2.1, y9.1, ())))
 else none)
 else none)))
 else none)
 else none)))) Empty.elim))
 else none)
 else none)))))
 else none)
 else none)))) Empty.elim))
 else none)
 else none)))))))
 else none)
 else none)
 else (if ((length x.2.2.2.2.1) = (length x.2.2.2.2.1)) then (some (Sum.inr (Sum.inl (x.2.1, x.2.2.2.2.1, ()))))
 else none))
theorem b23_2_eq (x : g23_2.D) : b23_2 x = evF P (T49.orc _) Try.f23.ntmps fx23 (Code.at [tt, tt, tt, tt, tt, tt, ff, tt, ff, ff] c23) (planAt 64 [([tt, ff, ff, tt, tt, tt, tt, tt, ff, ff], ⟨g23_3, o23_3, l23_3⟩), ([tt, ff, ff, tt, tt, tt, tt, tt, tt, tt, tt, tt, tt, ff, ff], ⟨g23_4, o23_4, l23_4⟩)]) g23_2 x (injK fx23 ((.normal, g23_2) :: o23_2) some) := by kernel_rfl
noncomputable def l23_2 : g23_2.D → Option (outD o23_2) := loopN g23_2 o23_2 b23_2 18446744073709551616
theorem p23_2 : AllSub P Try.f23.ntmps fx23 (Code.at [tt, tt, tt, tt, tt, tt, ff, tt, ff, ff] c23) [([tt, ff, ff, tt, tt, tt, tt, tt, ff, ff], ⟨g23_3, o23_3, l23_3⟩), ([tt, ff, ff, tt, tt, tt, tt, tt, tt, tt, tt, tt, tt, ff, ff], ⟨g23_4, o23_4, l23_4⟩)] := And.intro s23_3_ok (And.intro s23_4_ok (trivial))
theorem q23_2 : PlanOk P Try.f23.ntmps fx23 (planAt 64 [([tt, ff, ff, tt, tt, tt, tt, tt, ff, ff], ⟨g23_3, o23_3, l23_3⟩), ([tt, ff, ff, tt, tt, tt, tt, tt, tt, tt, tt, tt, tt, ff, ff], ⟨g23_4, o23_4, l23_4⟩)]) (Code.at [tt, tt, tt, tt, tt, tt, ff, tt, ff, ff] c23) := planAt_ok p23_2
theorem at23_2 : Code.at [tt, tt, tt, tt, tt, tt, ff, tt, ff] c23 = .loop (Code.at [tt, tt, tt, tt, tt, tt, ff, tt, ff, ff] c23) := by kernel_rfl
theorem s23_2_ok : SubOk P Try.f23.ntmps fx23 (Code.at [tt, tt, tt, tt, tt, tt, ff, tt, ff] c23) ⟨g23_2, o23_2, l23_2⟩ := by
  rw [at23_2]
  exact loop_ok (sub_ok (g := g23_2) (outs := ((.normal, g23_2) :: o23_2)) (f := b23_2) (Table.ok T49_ok _) hmix (q23_2) b23_2_eq) rfl _
abbrev g23_1 : Sg := ⟨[0, 4, 5], [.lf (.sl (.pair (.int .i64) (.pair (.int .i64) (.int .i64)))), .lf (.gr (.int .i64) 0), .lf (.int .i64)], [some (.arr true (.int .i64))]⟩
abbrev o23_1 : Outs := [(.exit 0, ⟨[0, 4], [.lf (.sl (.pair (.int .i64) (.pair (.int .i64) (.int .i64)))), .lf (.gr (.int .i64) 0)], [some (.arr true (.int .i64))]⟩)]
noncomputable def b23_1 (x : g23_1.D) : Option (outD ((.normal, g23_1) :: o23_1)) :=
  (if ((decide (x.2.1 < (30 : Int))) = true) then (if (((length (take (length x.2.2.1) (drop 0 x.2.2.1))) + 1) ≤ 17592186044416) then (if ((length ((take (length x.2.2.1) (drop 0 x.2.2.1)) ++ (take 1 (drop 0 (List.set (replicate 1 (0 : Int)) 0 (5 : Int)))))) = (length ((take (length x.2.2.1) (drop 0 x.2.2.1)) ++ (take 1 (drop 0 (List.set (replicate 1 (0 : Int)) 0 (5 : Int))))))) then (some (Sum.inl (x.1, (IntKind.wrap .i64 (x.2.1 + (1 : Int))), ((take (length x.2.2.1) (drop 0 x.2.2.1)) ++ (take 1 (drop 0 (List.set (replicate 1 (0 : Int)) 0 (5 : Int))))), ())))
 else none)
 else none)
 else (if ((length x.2.2.1) = (length x.2.2.1)) then (some (Sum.inr (Sum.inl (x.1, x.2.2.1, ()))))
 else none))
theorem b23_1_eq (x : g23_1.D) : b23_1 x = evF P (T49.orc _) Try.f23.ntmps fx23 (Code.at [tt, tt, ff, tt, ff, ff] c23) (planAt 64 []) g23_1 x (injK fx23 ((.normal, g23_1) :: o23_1) some) := by kernel_rfl
noncomputable def l23_1 : g23_1.D → Option (outD o23_1) := loopN g23_1 o23_1 b23_1 18446744073709551616
theorem at23_1 : Code.at [tt, tt, ff, tt, ff] c23 = .loop (Code.at [tt, tt, ff, tt, ff, ff] c23) := by kernel_rfl
theorem s23_1_ok : SubOk P Try.f23.ntmps fx23 (Code.at [tt, tt, ff, tt, ff] c23) ⟨g23_1, o23_1, l23_1⟩ := by
  rw [at23_1]
  exact loop_ok (sub_ok (g := g23_1) (outs := ((.normal, g23_1) :: o23_1)) (f := b23_1) (Table.ok T49_ok _) hmix (planAt_ok (P := P) (n := Try.f23.ntmps) (fx := fx23) (c := (Code.at [tt, tt, ff, tt, ff, ff] c23)) (d := 64) (l := []) trivial) b23_1_eq) rfl _
noncomputable def f23 (x : gi23.D) : Option go23.D :=
  (Option.bind (l23_1 (x.1, (0 : Int), [], ())) (Sum.elim (fun y1 => (if (((length (take (length y1.2.1) (drop 0 y1.2.1))) + 2) ≤ 17592186044416) then (Option.bind (f43 ()) (fun y2 => (if ((length ((take (length y1.2.1) (drop 0 y1.2.1)) ++ (take 2 (drop 0 (List.set (List.set (replicate 2 (0 : Int)) 0 (5 : Int)) 1 (5 : Int)))))) = (length ((take (length y1.2.1) (drop 0 y1.2.1)) ++ (take 2 (drop 0 (List.set (List.set (replicate 2 (0 : Int)) 0 (5 : Int)) 1 (5 : Int))))))) then (Option.bind (l23_2 (y1.1, (take (length y2.1) (drop 0 y2.1)), (0 : Int), ((take (length y1.2.1) (drop 0 y1.2.1)) ++ (take 2 (drop 0 (List.set (List.set (replicate 2 (0 : Int)) 0 (5 : Int)) 1 (5 : Int))))), (List.set (List.set (List.set (replicate 3 false) 0 true) 1 true) 2 false), ())) (Sum.elim (fun y3 => (Option.bind (f45 (y3.1, (256 : Int), ())) (fun y4 => (if (((length (take (length y3.2.1) (drop 0 y3.2.1))) + (length (take (length y4.1) (drop 0 y4.1)))) ≤ 140737488355328) then (Option.bind (f49 ((take (length ((take (length y3.2.1) (drop 0 y3.2.1)) ++ (take (length y4.1) (drop 0 y4.1)))) (drop 0 ((take (length y3.2.1) (drop 0 y3.2.1)) ++ (take (length y4.1) (drop 0 y4.1))))), ())) (fun y5 => (some ((take (length y5.1) (drop 0 y5.1)), (0 : Int), ()))))
 else none)))) (Sum.elim (fun y3 => (some (y3.1, y3.2.1, ()))) Empty.elim)))
 else none)))
 else none)) Empty.elim))
theorem f23_eq (x : gi23.D) : f23 x = evF P (T49.orc _) Try.f23.ntmps fx23 c23 (planAt 64 [([tt, tt, ff, tt, ff], ⟨g23_1, o23_1, l23_1⟩), ([tt, tt, tt, tt, tt, tt, ff, tt, ff], ⟨g23_2, o23_2, l23_2⟩)]) gi23 x (fnK fx23 [go23]) := by kernel_rfl
theorem pf23 : AllSub P Try.f23.ntmps fx23 c23 [([tt, tt, ff, tt, ff], ⟨g23_1, o23_1, l23_1⟩), ([tt, tt, tt, tt, tt, tt, ff, tt, ff], ⟨g23_2, o23_2, l23_2⟩)] := And.intro s23_1_ok (And.intro s23_2_ok (trivial))
theorem qf23 : PlanOk P Try.f23.ntmps fx23 (planAt 64 [([tt, tt, ff, tt, ff], ⟨g23_1, o23_1, l23_1⟩), ([tt, tt, tt, tt, tt, tt, ff, tt, ff], ⟨g23_2, o23_2, l23_2⟩)]) c23 := planAt_ok pf23
theorem f23_ok : EntOk P 23 ⟨gi23, [go23], f23⟩ :=
  ent_ok (fn := Try.f23) (gi := gi23) (gos := [go23]) (f := f23) (c := c23) (fx := fx23) ⟨Try.func23, by kernel_rfl, rfl, by decide +kernel, rfl, rfl⟩ (by kernel_rfl) (Table.ok T49_ok _) hmix (qf23) f23_eq
noncomputable def T23 : Table := T49.add 23 [⟨gi23, [go23], f23⟩] []
theorem T23_ok : TableOk P T23 := Table.plus T49_ok (es := [⟨gi23, [go23], f23⟩]) ⟨f23_ok, trivial⟩ []

noncomputable def c16 : Code := Func.code Try.f16
abbrev gi16 : Sg := ⟨[0], [.lf (.sl (.int .u8))], []⟩
abbrev go16 : Sg := ⟨[2, 3], [.lf (.sl (.int .u8)), .lf (.int .i64)], []⟩
def fx16 : List Bool := []
noncomputable def f16 (x : gi16.D) : Option go16.D :=
  (Option.bind (f22 (x.1, ())) (fun y1 => (if ((y1.1 != (0 : Int)) = true) then (some ([], y1.1, ()))
 else (Option.bind (f23 ((take (length y1.2.1) (drop 0 y1.2.1)), ())) (fun y2 => (some (y2.1, y2.2.1, ())))))))
theorem f16_eq (x : gi16.D) : f16 x = evF P (T23.orc _) Try.f16.ntmps fx16 c16 (planAt 64 []) gi16 x (fnK fx16 [go16]) := by kernel_rfl
theorem f16_ok : EntOk P 16 ⟨gi16, [go16], f16⟩ :=
  ent_ok (fn := Try.f16) (gi := gi16) (gos := [go16]) (f := f16) (c := c16) (fx := fx16) ⟨Try.func16, by kernel_rfl, rfl, by decide +kernel, rfl, rfl⟩ (by kernel_rfl) (Table.ok T23_ok _) hmix (planAt_ok (P := P) (n := Try.f16.ntmps) (fx := fx16) (c := c16) (d := 64) (l := []) trivial) f16_eq
noncomputable def T16 : Table := T23.add 16 [⟨gi16, [go16], f16⟩] []
theorem T16_ok : TableOk P T16 := Table.plus T23_ok (es := [⟨gi16, [go16], f16⟩]) ⟨f16_ok, trivial⟩ []

noncomputable def c14 : Code := Func.code Try.f14
abbrev gi14 : Sg := ⟨[0], [.lf (.sl (.int .u8))], []⟩
abbrev go14 : Sg := ⟨[2], [.lf (.int .i64)], []⟩
def fx14 : List Bool := []
abbrev g14_1 : Sg := ⟨[0, 3, 4, 5], [.lf (.sl (.int .u8)), .lf (.int .i64), .lf (.int .i64), .lf (.int .i64)], []⟩
abbrev o14_1 : Outs := [(.exit 0, ⟨[3, 4], [.lf (.int .i64), .lf (.int .i64)], []⟩)]
noncomputable def b14_1 (x : g14_1.D) : Option (outD ((.normal, g14_1) :: o14_1)) :=
  (if ((decide (x.2.2.2.1 < (((length x.1) : Nat) : Int))) = true) then (if ((0 : Int) ≤ x.2.2.2.1) then (if (x.2.2.2.1 < (((length x.1) : Nat) : Int)) then (some (Sum.inl (x.1, (Int.tmod (IntKind.wrap .i64 (x.2.1 + (IntKind.wrap .i64 (getD x.1 (Int.toNat x.2.2.2.1) (0 : Int))))) (65521 : Int)), (Int.tmod (IntKind.wrap .i64 (x.2.2.1 + (Int.tmod (IntKind.wrap .i64 (x.2.1 + (IntKind.wrap .i64 (getD x.1 (Int.toNat x.2.2.2.1) (0 : Int))))) (65521 : Int)))) (65521 : Int)), (IntKind.wrap .i64 (x.2.2.2.1 + (1 : Int))), ())))
 else none)
 else none)
 else (some (Sum.inr (Sum.inl (x.2.1, x.2.2.1, ())))))
theorem b14_1_eq (x : g14_1.D) : b14_1 x = evF P (T16.orc _) Try.f14.ntmps fx14 (Code.at [tt, tt, tt, ff, tt, ff, ff] c14) (planAt 64 []) g14_1 x (injK fx14 ((.normal, g14_1) :: o14_1) some) := by kernel_rfl
noncomputable def l14_1 : g14_1.D → Option (outD o14_1) := loopN g14_1 o14_1 b14_1 18446744073709551616
theorem at14_1 : Code.at [tt, tt, tt, ff, tt, ff] c14 = .loop (Code.at [tt, tt, tt, ff, tt, ff, ff] c14) := by kernel_rfl
theorem s14_1_ok : SubOk P Try.f14.ntmps fx14 (Code.at [tt, tt, tt, ff, tt, ff] c14) ⟨g14_1, o14_1, l14_1⟩ := by
  rw [at14_1]
  exact loop_ok (sub_ok (g := g14_1) (outs := ((.normal, g14_1) :: o14_1)) (f := b14_1) (Table.ok T16_ok _) hmix (planAt_ok (P := P) (n := Try.f14.ntmps) (fx := fx14) (c := (Code.at [tt, tt, tt, ff, tt, ff, ff] c14)) (d := 64) (l := []) trivial) b14_1_eq) rfl _
noncomputable def f14 (x : gi14.D) : Option go14.D :=
  (Option.bind (l14_1 (x.1, (1 : Int), (0 : Int), (0 : Int), ())) (Sum.elim (fun y1 => (some ((IntKind.wrap .i64 ((IntKind.wrap .i64 ((65536 : Int) * y1.2.1)) + y1.1)), ()))) Empty.elim))
theorem f14_eq (x : gi14.D) : f14 x = evF P (T16.orc _) Try.f14.ntmps fx14 c14 (planAt 64 [([tt, tt, tt, ff, tt, ff], ⟨g14_1, o14_1, l14_1⟩)]) gi14 x (fnK fx14 [go14]) := by kernel_rfl
theorem pf14 : AllSub P Try.f14.ntmps fx14 c14 [([tt, tt, tt, ff, tt, ff], ⟨g14_1, o14_1, l14_1⟩)] := And.intro s14_1_ok (trivial)
theorem qf14 : PlanOk P Try.f14.ntmps fx14 (planAt 64 [([tt, tt, tt, ff, tt, ff], ⟨g14_1, o14_1, l14_1⟩)]) c14 := planAt_ok pf14
theorem f14_ok : EntOk P 14 ⟨gi14, [go14], f14⟩ :=
  ent_ok (fn := Try.f14) (gi := gi14) (gos := [go14]) (f := f14) (c := c14) (fx := fx14) ⟨Try.func14, by kernel_rfl, rfl, by decide +kernel, rfl, rfl⟩ (by kernel_rfl) (Table.ok T16_ok _) hmix (qf14) f14_eq
noncomputable def T14 : Table := T16.add 14 [⟨gi14, [go14], f14⟩] []
theorem T14_ok : TableOk P T14 := Table.plus T16_ok (es := [⟨gi14, [go14], f14⟩]) ⟨f14_ok, trivial⟩ []

noncomputable def c17 : Code := Func.code Try.f17
abbrev gi17 : Sg := ⟨[0], [.lf (.int .i64)], []⟩
abbrev go17 : Sg := ⟨[2], [.lf (.gr (.int .u8) 0)], [some (.arr true (.int .u8))]⟩
def fx17 : List Bool := []
noncomputable def f17 (x : gi17.D) : Option go17.D :=
  (some ((List.set (List.set (List.set (List.set (replicate 4 (0 : Int)) 0 (IntKind.wrap .u8 (Int.tmod (IntKind.wrap .i64 (Int.tdiv x.1 (16777216 : Int))) (256 : Int)))) 1 (IntKind.wrap .u8 (Int.tmod (IntKind.wrap .i64 (Int.tdiv x.1 (65536 : Int))) (256 : Int)))) 2 (IntKind.wrap .u8 (Int.tmod (IntKind.wrap .i64 (Int.tdiv x.1 (256 : Int))) (256 : Int)))) 3 (IntKind.wrap .u8 (Int.tmod x.1 (256 : Int)))), ()))
theorem f17_eq (x : gi17.D) : f17 x = evF P (T14.orc _) Try.f17.ntmps fx17 c17 (planAt 64 []) gi17 x (fnK fx17 [go17]) := by kernel_rfl
theorem f17_ok : EntOk P 17 ⟨gi17, [go17], f17⟩ :=
  ent_ok (fn := Try.f17) (gi := gi17) (gos := [go17]) (f := f17) (c := c17) (fx := fx17) ⟨Try.func17, by kernel_rfl, rfl, by decide +kernel, rfl, rfl⟩ (by kernel_rfl) (Table.ok T14_ok _) hmix (planAt_ok (P := P) (n := Try.f17.ntmps) (fx := fx17) (c := c17) (d := 64) (l := []) trivial) f17_eq
noncomputable def T17 : Table := T14.add 17 [⟨gi17, [go17], f17⟩] []
theorem T17_ok : TableOk P T17 := Table.plus T14_ok (es := [⟨gi17, [go17], f17⟩]) ⟨f17_ok, trivial⟩ []

noncomputable def c11 : Code := Func.code Try.f11
abbrev gi11 : Sg := ⟨[0], [.lf (.sl (.int .u8))], []⟩
abbrev go11 : Sg := ⟨[2, 3], [.lf (.gr (.int .u8) 0), .lf (.int .i64)], [some (.arr true (.int .u8))]⟩
def fx11 : List Bool := []
noncomputable def f11 (x : gi11.D) : Option go11.D :=
  (Option.bind (f16 (x.1, ())) (fun y1 => (if ((y1.2.1 != (0 : Int)) = true) then (some (y1.2.1, [], ()))
 else (if ((2 + (length y1.1)) ≤ 140737488355328) then (Option.bind (f14 (x.1, ())) (fun y2 => (Option.bind (f17 (y2.1, ())) (fun y3 => (if (((length (take (length ((take 2 (drop 0 (List.set (List.set (replicate 2 (0 : Int)) 0 (120 : Int)) 1 (1 : Int)))) ++ y1.1)) (drop 0 ((take 2 (drop 0 (List.set (List.set (replicate 2 (0 : Int)) 0 (120 : Int)) 1 (1 : Int)))) ++ y1.1)))) + (length (take (length y3.1) (drop 0 y3.1)))) ≤ 140737488355328) then (if ((length ((take (length ((take 2 (drop 0 (List.set (List.set (replicate 2 (0 : Int)) 0 (120 : Int)) 1 (1 : Int)))) ++ y1.1)) (drop 0 ((take 2 (drop 0 (List.set (List.set (replicate 2 (0 : Int)) 0 (120 : Int)) 1 (1 : Int)))) ++ y1.1))) ++ (take (length y3.1) (drop 0 y3.1)))) = (length ((take (length ((take 2 (drop 0 (List.set (List.set (replicate 2 (0 : Int)) 0 (120 : Int)) 1 (1 : Int)))) ++ y1.1)) (drop 0 ((take 2 (drop 0 (List.set (List.set (replicate 2 (0 : Int)) 0 (120 : Int)) 1 (1 : Int)))) ++ y1.1))) ++ (take (length y3.1) (drop 0 y3.1))))) then (some ((0 : Int), ((take (length ((take 2 (drop 0 (List.set (List.set (replicate 2 (0 : Int)) 0 (120 : Int)) 1 (1 : Int)))) ++ y1.1)) (drop 0 ((take 2 (drop 0 (List.set (List.set (replicate 2 (0 : Int)) 0 (120 : Int)) 1 (1 : Int)))) ++ y1.1))) ++ (take (length y3.1) (drop 0 y3.1))), ()))
 else none)
 else none)))))
 else none))))
theorem f11_eq (x : gi11.D) : f11 x = evF P (T17.orc _) Try.f11.ntmps fx11 c11 (planAt 64 []) gi11 x (fnK fx11 [go11]) := by kernel_rfl
theorem f11_ok : EntOk P 11 ⟨gi11, [go11], f11⟩ :=
  ent_ok (fn := Try.f11) (gi := gi11) (gos := [go11]) (f := f11) (c := c11) (fx := fx11) ⟨Try.func11, by kernel_rfl, rfl, by decide +kernel, rfl, rfl⟩ (by kernel_rfl) (Table.ok T17_ok _) hmix (planAt_ok (P := P) (n := Try.f11.ntmps) (fx := fx11) (c := c11) (d := 64) (l := []) trivial) f11_eq
noncomputable def T11 : Table := T17.add 11 [⟨gi11, [go11], f11⟩] []
theorem T11_ok : TableOk P T11 := Table.plus T17_ok (es := [⟨gi11, [go11], f11⟩]) ⟨f11_ok, trivial⟩ []

noncomputable def c50 : Code := Func.code Try.f50
abbrev gi50 : Sg := ⟨[0], [.lf (.sl (.int .u8))], []⟩
abbrev go50 : Sg := ⟨[2], [.lf (.ptr 0 0)], [some (.box true [.lf (.sl (.int .u8)), .lf (.int .i64), .lf (.int .i64), .lf (.int .i64)])]⟩
def fx50 : List Bool := []
noncomputable def f50 (x : gi50.D) : Option go50.D :=
  (Option.bind (f66 (x.1, ())) (fun y1 => (some ((take (length y1.1) (drop 0 y1.1)), (0 : Int), (0 : Int), (0 : Int), ()))))
theorem f50_eq (x : gi50.D) : f50 x = evF P (T11.orc _) Try.f50.ntmps fx50 c50 (planAt 64 []) gi50 x (fnK fx50 [go50]) := by kernel_rfl
theorem f50_ok : EntOk P 50 ⟨gi50, [go50], f50⟩ :=
  ent_ok (fn := Try.f50) (gi := gi50) (gos := [go50]) (f := f50) (c := c50) (fx := fx50) ⟨Try.func50, by kernel_rfl, rfl, by decide +kernel, rfl, rfl⟩ (by kernel_rfl) (Table.ok T11_ok _) hmix (planAt_ok (P := P) (n := Try.f50.ntmps) (fx := fx50) (c := c50) (d := 64) (l := []) trivial) f50_eq
noncomputable def T50 : Table := T11.add 50 [⟨gi50, [go50], f50⟩] []
theorem T50_ok : TableOk P T50 := Table.plus T11_ok (es := [⟨gi50, [go50], f50⟩]) ⟨f50_ok, trivial⟩ []

noncomputable def c55 : Code := Func.code Try.f55
abbrev gi55 : Sg := ⟨[0], [.lf (.ptr 0 0)], [some (.box true [.lf (.sl (.int .u8)), .lf (.int .i64), .lf (.int .i64), .lf (.int .i64)])]⟩
abbrev go55 : Sg := ⟨[2], [.lf (.int .i64)], [some (.box true [.lf (.sl (.int .u8)), .lf (.int .i64), .lf (.int .i64), .lf (.int .i64)])]⟩
def fx55 : List Bool := [tt]
noncomputable def f55 (x : gi55.D) : Option go55.D :=
  (some ((IntKind.wrap .i64 ((IntKind.wrap .i64 ((8 : Int) * (IntKind.wrap .i64 ((((length x.1) : Nat) : Int) - x.2.1)))) + x.2.2.2.1)), x.1, x.2.1, x.2.2.1, x.2.2.2.1, ()))
theorem f55_eq (x : gi55.D) : f55 x = evF P (T50.orc _) Try.f55.ntmps fx55 c55 (planAt 64 []) gi55 x (fnK fx55 [go55]) := by kernel_rfl
theorem f55_ok : EntOk P 55 ⟨gi55, [go55], f55⟩ :=
  ent_ok (fn := Try.f55) (gi := gi55) (gos := [go55]) (f := f55) (c := c55) (fx := fx55) ⟨Try.func55, by kernel_rfl, rfl, by decide +kernel, rfl, rfl⟩ (by kernel_rfl) (Table.ok T50_ok _) hmix (planAt_ok (P := P) (n := Try.f55.ntmps) (fx := fx55) (c := c55) (d := 64) (l := []) trivial) f55_eq
noncomputable def T55 : Table := T50.add 55 [⟨gi55, [go55], f55⟩] []
theorem T55_ok : TableOk P T55 := Table.plus T50_ok (es := [⟨gi55, [go55], f55⟩]) ⟨f55_ok, trivial⟩ []

noncomputable def c113 : Code := Func.code Try.f113
abbrev gi113 : Sg := ⟨[0], [.lf (.ptr 0 0)], [some (.box true [.lf (.sl (.int .u8)), .lf (.int .i64), .lf (.int .i64), .lf (.int .i64)])]⟩
abbrev go113 : Sg := ⟨[2], [.lf (.int .u8)], [some (.box true [.lf (.sl (.int .u8)), .lf (.int .i64), .lf (.int .i64), .lf (.int .i64)])]⟩
def fx113 : List Bool := [tt]
noncomputable def f113 (x : gi113.D) : Option go113.D :=
  (if ((0 : Int) ≤ x.2.1) then (if (x.2.1 < (((length x.1) : Nat) : Int)) then (some ((getD x.1 (Int.toNat x.2.1) (0 : Int)), x.1, (IntKind.wrap .i64 (x.2.1 + (1 : Int))), x.2.2.1, x.2.2.2.1, ()))
 else none)
 else none)
theorem f113_eq (x : gi113.D) : f113 x = evF P (T55.orc _) Try.f113.ntmps fx113 c113 (planAt 64 []) gi113 x (fnK fx113 [go113]) := by kernel_rfl
theorem f113_ok : EntOk P 113 ⟨gi113, [go113], f113⟩ :=
  ent_ok (fn := Try.f113) (gi := gi113) (gos := [go113]) (f := f113) (c := c113) (fx := fx113) ⟨Try.func113, by kernel_rfl, rfl, by decide +kernel, rfl, rfl⟩ (by kernel_rfl) (Table.ok T55_ok _) hmix (planAt_ok (P := P) (n := Try.f113.ntmps) (fx := fx113) (c := c113) (d := 64) (l := []) trivial) f113_eq
noncomputable def T113 : Table := T55.add 113 [⟨gi113, [go113], f113⟩] []
theorem T113_ok : TableOk P T113 := Table.plus T55_ok (es := [⟨gi113, [go113], f113⟩]) ⟨f113_ok, trivial⟩ []

noncomputable def c72 : Code := Func.code Try.f72
abbrev gi72 : Sg := ⟨[0, 1], [.lf (.ptr 0 0), .lf (.int .i64)], [some (.box true [.lf (.sl (.int .u8)), .lf (.int .i64), .lf (.int .i64), .lf (.int .i64)])]⟩
abbrev go72 : Sg := ⟨[4, 5], [.lf (.int .i64), .lf (.int .i64)], [some (.box true [.lf (.sl (.int .u8)), .lf (.int .i64), .lf (.int .i64), .lf (.int .i64)])]⟩
def fx72 : List Bool := [tt]
abbrev g72_1 : Sg := ⟨[0, 1, 6], [.lf (.ptr 0 0), .lf (.int .i64), .lf (.ifc 74 (.ptr 0 0))], [some (.box true [.lf (.sl (.int .u8)), .lf (.int .i64), .lf (.int .i64), .lf (.int .i64)])]⟩
abbrev o72_1 : Outs := [(.exit 1, ⟨[0, 1], [.lf (.ptr 0 0), .lf (.int .i64)], [some (.box true [.lf (.sl (.int .u8)), .lf (.int .i64), .lf (.int .i64), .lf (.int .i64)])]⟩)]
noncomputable def b72_1 (x : g72_1.D) : Option (outD ((.normal, g72_1) :: o72_1)) :=
  (if ((decide (x.2.2.2.2.1 < x.1)) = true) then (Option.bind (f113 (x.2.1, x.2.2.1, x.2.2.2.1, x.2.2.2.2.1, ())) (fun y1 => (if (y1.2.2.2.2.1 < (0 : Int)) then none
 else (if ((decide (x.2.2.2.1 = y1.2.2.2.1)) = true) then (if ((decide (x.2.2.2.2.1 = y1.2.2.2.2.1)) = true) then (some (Sum.inl (x.1, y1.2.1, y1.2.2.1, (IntKind.wrap .i64 (((BitVec.toNat ((BitVec.ofInt 64 x.2.2.2.1) ||| (BitVec.ofInt 64 (IntKind.wrap .i64 ((IntKind.wrap .i64 y1.1) * ((2 : Int) ^ (Min.min (Int.toNat y1.2.2.2.2.1) 64))))))) : Nat) : Int)), (IntKind.wrap .i64 (y1.2.2.2.2.1 + (8 : Int))), ())))
 else none)
 else none))))
 else (some (Sum.inr (Sum.inl (x.1, x.2.1, x.2.2.1, x.2.2.2.1, x.2.2.2.2.1, ())))))
theorem b72_1_eq (x : g72_1.D) : b72_1 x = evF P (T113.orc _) Try.f72.ntmps fx72 (Code.at [tt, tt, tt, ff, ff, ff] c72) (planAt 64 []) g72_1 x (injK fx72 ((.normal, g72_1) :: o72_1) some) := by kernel_rfl
noncomputable def l72_1 : g72_1.D → Option (outD o72_1) := loopN g72_1 o72_1 b72_1 18446744073709551616
theorem at72_1 : Code.at [tt, tt, tt, ff, ff] c72 = .loop (Code.at [tt, tt, tt, ff, ff, ff] c72) := by kernel_rfl
theorem s72_1_ok : SubOk P Try.f72.ntmps fx72 (Code.at [tt, tt, tt, ff, ff] c72) ⟨g72_1, o72_1, l72_1⟩ := by
  rw [at72_1]
  exact loop_ok (sub_ok (g := g72_1) (outs := ((.normal, g72_1) :: o72_1)) (f := b72_1) (Table.ok T113_ok _) hmix (planAt_ok (P := P) (n := Try.f72.ntmps) (fx := fx72) (c := (Code.at [tt, tt, tt, ff, ff, ff] c72)) (d := 64) (l := []) trivial) b72_1_eq) rfl _
noncomputable def f72 (x : gi72.D) : Option go72.D :=
  (if ((decide (x.1 < (0 : Int))) = true) then (some ((0 : Int), (1 : Int), x.2.1, x.2.2.1, x.2.2.2.1, x.2.2.2.2.1, ()))
 else (if ((decide (x.1 > (24 : Int))) = true) then (some ((0 : Int), (1 : Int), x.2.1, x.2.2.1, x.2.2.2.1, x.2.2.2.2.1, ()))
 else (Option.bind (f55 (x.2.1, x.2.2.1, x.2.2.2.1, x.2.2.2.2.1, ())) (fun y1 => (if ((decide (x.1 > y1.1)) = true) then (some ((0 : Int), (6 : Int), y1.2.1, y1.2.2.1, y1.2.2.2.1, y1.2.2.2.2.1, ()))
 else (Option.bind (l72_1 (x.1, y1.2.1, y1.2.2.1, y1.2.2.2.1, y1.2.2.2.2.1, ())) (Sum.elim (fun y2 => (if (y2.1 < (0 : Int)) then none
 else (if (y2.1 < (0 : Int)) then none
 else (some ((IntKind.wrap .i64 (((BitVec.toNat ((BitVec.ofInt 64 y2.2.2.2.1) &&& (BitVec.ofInt 64 (IntKind.wrap .i64 ((IntKind.wrap .i64 ((1 : Int) * ((2 : Int) ^ (Min.min (Int.toNat y2.1) 64)))) - (1 : Int)))))) : Nat) : Int)), (0 : Int), y2.2.1, y2.2.2.1, (Int.fdiv y2.2.2.2.1 ((2 : Int) ^ (Min.min (Int.toNat y2.1) 64))), (IntKind.wrap .i64 (y2.2.2.2.2.1 - y2.1)), ()))))) Empty.elim)))))))
theorem f72_eq (x : gi72.D) : f72 x = evF P (T113.orc _) Try.f72.ntmps fx72 c72 (planAt 64 [([tt, tt, tt, ff, ff], ⟨g72_1, o72_1, l72_1⟩)]) gi72 x (fnK fx72 [go72]) := by kernel_rfl
theorem pf72 : AllSub P Try.f72.ntmps fx72 c72 [([tt, tt, tt, ff, ff], ⟨g72_1, o72_1, l72_1⟩)] := And.intro s72_1_ok (trivial)
theorem qf72 : PlanOk P Try.f72.ntmps fx72 (planAt 64 [([tt, tt, tt, ff, ff], ⟨g72_1, o72_1, l72_1⟩)]) c72 := planAt_ok pf72
theorem f72_ok : EntOk P 72 ⟨gi72, [go72], f72⟩ :=
  ent_ok (fn := Try.f72) (gi := gi72) (gos := [go72]) (f := f72) (c := c72) (fx := fx72) ⟨Try.func72, by kernel_rfl, rfl, by decide +kernel, rfl, rfl⟩ (by kernel_rfl) (Table.ok T113_ok _) hmix (qf72) f72_eq
noncomputable def T72 : Table := T113.add 72 [⟨gi72, [go72], f72⟩] []
theorem T72_ok : TableOk P T72 := Table.plus T113_ok (es := [⟨gi72, [go72], f72⟩]) ⟨f72_ok, trivial⟩ []

noncomputable def c51 : Code := Func.code Try.f51
abbrev gi51 : Sg := ⟨[0, 1], [.lf (.ptr 0 0), .lf (.sl (.int .i64))], [some (.box true [.lf (.ptr 1 0), .lf (.gr (.pair (.int .i64) (.pair (.int .i64) (.int .i64))) 2), .lf (.int .i64), .lf (.int .i64)]), some (.box true [.lf (.sl (.int .u8)), .lf (.int .i64), .lf (.int .i64), .lf (.int .i64)]), some (.arr true (.pair (.int .i64) (.pair (.int .i64) (.int .i64))))]⟩
abbrev go51 : Sg := ⟨[4, 5], [.lf (.sl (.int .i64)), .lf (.int .i64)], [some (.box true [.lf (.ptr 1 0), .lf (.gr (.pair (.int .i64) (.pair (.int .i64) (.int .i64))) 2), .lf (.int .i64), .lf (.int .i64)]), some (.box true [.lf (.sl (.int .u8)), .lf (.int .i64), .lf (.int .i64), .lf (.int .i64)]), some (.arr true (.pair (.int .i64) (.pair (.int .i64) (.int .i64))))]⟩
def fx51 : List Bool := [tt, tt, tt]
abbrev g51_1 : Sg := ⟨[0, 6, 11, 12, 13], [.lf (.ptr 0 0), .lf (.gr (.int .i64) 3), .lf (.sl (.int .i64)), .lf (.int .i64), .lf (.int .i64)], [some (.box true [.lf (.ptr 1 0), .lf (.gr (.pair (.int .i64) (.pair (.int .i64) (.int .i64))) 2), .lf (.int .i64), .lf (.int .i64)]), some (.box true [.lf (.sl (.int .u8)), .lf (.int .i64), .lf (.int .i64), .lf (.int .i64)]), some (.arr true (.pair (.int .i64) (.pair (.int .i64) (.int .i64)))), some (.arr true (.int .i64))]⟩
abbrev o51_1 : Outs := [(.exit 0, ⟨[6], [.lf (.gr (.int .i64) 3)], [some (.box true [.lf (.ptr 1 0), .lf (.gr (.pair (.int .i64) (.pair (.int .i64) (.int .i64))) 2), .lf (.int .i64), .lf (.int .i64)]), some (.box true [.lf (.sl (.int .u8)), .lf (.int .i64), .lf (.int .i64), .lf (.int .i64)]), some (.arr true (.pair (.int .i64) (.pair (.int .i64) (.int .i64)))), some (.arr true (.int .i64))]⟩), (.ret, ⟨[4, 5], [.lf (.sl (.int .i64)), .lf (.int .i64)], [some (.box true [.lf (.ptr 1 0), .lf (.gr (.pair (.int .i64) (.pair (.int .i64) (.int .i64))) 2), .lf (.int .i64), .lf (.int .i64)]), some (.box true [.lf (.sl (.int .u8)), .lf (.int .i64), .lf (.int .i64), .lf (.int .i64)]), some (.arr true (.pair (.int .i64) (.pair (.int .i64) (.int .i64))))]⟩)]
noncomputable def b51_1 (x : g51_1.D) : Option (outD ((.normal, g51_1) :: o51_1)) :=
  (if ((decide (x.2.2.1 < x.2.1)) = true) then (if ((0 : Int) ≤ x.2.2.1) then (if (x.2.2.1 < (((length x.1) : Nat) : Int)) then (Option.bind (f72 ((getD x.1 (Int.toNat x.2.2.1) (0 : Int)), x.2.2.2.2.2.1, x.2.2.2.2.2.2.1, x.2.2.2.2.2.2.2.1, x.2.2.2.2.2.2.2.2.1, ())) (fun y1 => (if ((y1.2.1 != (0 : Int)) = true) then (if ((length x.2.2.2.2.2.2.2.2.2.1) = (length x.2.2.2.2.2.2.2.2.2.1)) then (some (Sum.inr (Sum.inr (Sum.inl ([], y1.2.1, x.2.2.2.1, x.2.2.2.2.1, y1.2.2.1, y1.2.2.2.1, y1.2.2.2.2.1, y1.2.2.2.2.2.1, x.2.2.2.2.2.2.2.2.2.1, ())))))
 else none)
 else (if (((length (take (length x.2.2.2.2.2.2.2.2.2.2.1) (drop 0 x.2.2.2.2.2.2.2.2.2.2.1))) + (length (take 1 (drop 0 (List.set (replicate 1 (0 : Int)) 0 y1.1))))) ≤ 17592186044416) then (if ((length ((take (length x.2.2.2.2.2.2.2.2.2.2.1) (drop 0 x.2.2.2.2.2.2.2.2.2.2.1)) ++ (take 1 (drop 0 (List.set (replicate 1 (0 : Int)) 0 y1.1))))) = (length ((take (length x.2.2.2.2.2.2.2.2.2.2.1) (drop 0 x.2.2.2.2.2.2.2.2.2.2.1)) ++ (take 1 (drop 0 (List.set (replicate 1 (0 : Int)) 0 y1.1)))))) then (if ((length x.2.2.2.2.2.2.2.2.2.1) = (length x.2.2.2.2.2.2.2.2.2.1)) then (some (Sum.inl (x.1, x.2.1, (IntKind.wrap .i64 (x.2.2.1 + (1 : Int))), x.2.2.2.1, x.2.2.2.2.1, y1.2.2.1, y1.2.2.2.1, y1.2.2.2.2.1, y1.2.2.2.2.2.1, x.2.2.2.2.2.2.2.2.2.1, ((take (length x.2.2.2.2.2.2.2.2.2.2.1) (drop 0 x.2.2.2.2.2.2.2.2.2.2.1)) ++ (take 1 (drop 0 (List.set (replicate 1 (0 : Int)) 0 y1.1)))), ())))
 else none)
 else none)
 else none))))
 else none)
 else none)
 else (if ((length x.2.2.2.2.2.2.2.2.2.2.1) = (length x.2.2.2.2.2.2.2.2.2.2.1)) then (if ((length x.2.2.2.2.2.2.2.2.2.1) = (length x.2.2.2.2.2.2.2.2.2.1)) then (some (Sum.inr (Sum.inl (x.2.2.2.1, x.2.2.2.2.1, x.2.2.2.2.2.1, x.2.2.2.2.2.2.1, x.2.2.2.2.2.2.2.1, x.2.2.2.2.2.2.2.2.1, x.2.2.2.2.2.2.2.2.2.1, x.2.2.2.2.2.2.2.2.2.2.1, ()))))
 else none)
 else none))
theorem b51_1_eq (x : g51_1.D) : b51_1 x = evF P (T72.orc _) Try.f51.ntmps fx51 (Code.at [tt, tt, ff, tt, ff, ff] c51) (planAt 64 []) g51_1 x (injK fx51 ((.normal, g51_1) :: o51_1) some) := by kernel_rfl
noncomputable def l51_1 : g51_1.D → Option (outD o51_1) := loopN g51_1 o51_1 b51_1 18446744073709551616
theorem at51_1 : Code.at [tt, tt, ff, tt, ff] c51 = .loop (Code.at [tt, tt, ff, tt, ff, ff] c51) := by kernel_rfl
theorem s51_1_ok : SubOk P Try.f51.ntmps fx51 (Code.at [tt, tt, ff, tt, ff] c51) ⟨g51_1, o51_1, l51_1⟩ := by
  rw [at51_1]
  exact loop_ok (sub_ok (g := g51_1) (outs := ((.normal, g51_1) :: o51_1)) (f := b51_1) (Table.ok T72_ok _) hmix (planAt_ok (P := P) (n := Try.f51.ntmps) (fx := fx51) (c := (Code.at [tt, tt, ff, tt, ff, ff] c51)) (d := 64) (l := []) trivial) b51_1_eq) rfl _
noncomputable def f51 (x : gi51.D) : Option go51.D :=
  (if ((length x.2.2.2.2.2.2.2.1) = (length x.2.2.2.2.2.2.2.1)) then (Option.bind (l51_1 (x.1, (((length x.1) : Nat) : Int), (0 : Int), x.2.1, x.2.2.1, x.2.2.2.1, x.2.2.2.2.1, x.2.2.2.2.2.1, x.2.2.2.2.2.2.1, x.2.2.2.2.2.2.2.1, [], ())) (Sum.elim (fun y1 => (if ((length y1.2.2.2.2.2.2.1) = (length y1.2.2.2.2.2.2.1)) then (some ((take (length y1.2.2.2.2.2.2.2.1) (drop 0 y1.2.2.2.2.2.2.2.1)), (0 : Int), y1.1, y1.2.1, y1.2.2.1, y1.2.2.2.1, y1.2.2.2.2.1, y1.2.2.2.2.2.1, y1.2.2.2.2.2.2.1, ()))
 else none)) (Sum.elim (fun y1 => (if ((length y1.2.2.2.2.2.2.2.2.1) = (length y1.2.2.2.2.2.2.2.2.1)) then (some (y1.1, y1.2.1, y1.2.2.1, y1.2.2.2.1, y1.2.2.2.2.1, y1.2.2.2.2.2.1, y1.2.2.2.2.2.2.1, y1.2.2.2.2.2.2.2.1, y1.2.2.2.2.2.2.2.2.1, ()))
 else none)) Empty.elim)))
 else none)
theorem f51_eq (x : gi51.D) : f51 x = evF P (T72.orc _) Try.f51.ntmps fx51 c51 (planAt 64 [([tt, tt, ff, tt, ff], ⟨g51_1, o51_1, l51_1⟩)]) gi51 x (fnK fx51 [go51]) := by kernel_rfl
theorem pf51 : AllSub P Try.f51.ntmps fx51 c51 [([tt, tt, ff, tt, ff], ⟨g51_1, o51_1, l51_1⟩)] := And.intro s51_1_ok (trivial)
theorem qf51 : PlanOk P Try.f51.ntmps fx51 (planAt 64 [([tt, tt, ff, tt, ff], ⟨g51_1, o51_1, l51_1⟩)]) c51 := planAt_ok pf51
theorem f51_ok : EntOk P 51 ⟨gi51, [go51], f51⟩ :=
  ent_ok (fn := Try.f51) (gi := gi51) (gos := [go51]) (f := f51) (c := c51) (fx := fx51) ⟨Try.func51, by kernel_rfl, rfl, by decide +kernel, rfl, rfl⟩ (by kernel_rfl) (Table.ok T72_ok _) hmix (qf51) f51_eq
noncomputable def T51 : Table := T72.add 51 [⟨gi51, [go51], f51⟩] []
theorem T51_ok : TableOk P T51 := Table.plus T72_ok (es := [⟨gi51, [go51], f51⟩]) ⟨f51_ok, trivial⟩ []

noncomputable def c73 : Code := Func.code Try.f73
end Go.Ev.Zlib
