/- Part of a proof about the given program: ZR. -/
import Derived.Test.YtaofodieeepobaaZR1
namespace Go.Ev.Zlib
open Go.Ev
open Go.Proofs
open List (length getD take drop replicate)
set_option maxRecDepth 1000000
abbrev gi73 : Sg := ⟨[0], [.lf (.ptr 0 0)], [some (.box true [.lf (.sl (.int .u8)), .lf (.int .i64), .lf (.int .i64), .lf (.int .i64)])]⟩
abbrev go73 : Sg := ⟨[2], [.lf (.int .i64)], [some (.box true [.lf (.sl (.int .u8)), .lf (.int .i64), .lf (.int .i64), .lf (.int .i64)])]⟩
def fx73 : List Bool := [tt]
noncomputable def f73 (x : gi73.D) : Option go73.D :=
  (some ((0 : Int), x.1, (IntKind.wrap .i64 (x.2.1 - (IntKind.wrap .i64 (Int.tdiv x.2.2.2.1 (8 : Int))))), (0 : Int), (0 : Int), ()))
theorem f73_eq (x : gi73.D) : f73 x = evF P (T51.orc _) Try.f73.ntmps fx73 c73 (planAt 64 []) gi73 x (fnK fx73 [go73]) := by kernel_rfl
theorem f73_ok : EntOk P 73 ⟨gi73, [go73], f73⟩ :=
  ent_ok (fn := Try.f73) (gi := gi73) (gos := [go73]) (f := f73) (c := c73) (fx := fx73) ⟨Try.func73, by kernel_rfl, rfl, by decide +kernel, rfl, rfl⟩ (by kernel_rfl) (Table.ok T51_ok _) hmix (planAt_ok (P := P) (n := Try.f73.ntmps) (fx := fx73) (c := c73) (d := 64) (l := []) trivial) f73_eq
noncomputable def T73 : Table := T51.add 73 [⟨gi73, [go73], f73⟩] []
theorem T73_ok : TableOk P T73 := Table.plus T51_ok (es := [⟨gi73, [go73], f73⟩]) ⟨f73_ok, trivial⟩ []

noncomputable def c74 : Code := Func.code Try.f74
abbrev gi74 : Sg := ⟨[0, 1], [.lf (.ptr 0 0), .lf (.int .i64)], [some (.box true [.lf (.sl (.int .u8)), .lf (.int .i64), .lf (.int .i64), .lf (.int .i64)])]⟩
abbrev go74 : Sg := ⟨[4, 5], [.lf (.gr (.int .u8) 1), .lf (.int .i64)], [some (.box true [.lf (.sl (.int .u8)), .lf (.int .i64), .lf (.int .i64), .lf (.int .i64)]), some (.arr true (.int .u8))]⟩
def fx74 : List Bool := [tt]
noncomputable def f74 (x : gi74.D) : Option go74.D :=
  (if ((decide (x.1 < (0 : Int))) = true) then (some ((1 : Int), x.2.1, x.2.2.1, x.2.2.2.1, x.2.2.2.2.1, [], ()))
 else (Option.bind (f73 (x.2.1, x.2.2.1, x.2.2.2.1, x.2.2.2.2.1, ())) (fun y1 => (if ((decide (x.1 > (IntKind.wrap .i64 ((((length y1.2.1) : Nat) : Int) - y1.2.2.1)))) = true) then (some ((6 : Int), y1.2.1, y1.2.2.1, y1.2.2.2.1, y1.2.2.2.2.1, [], ()))
 else (if ((0 : Int) ≤ (IntKind.wrap .i64 (y1.2.2.1 + x.1))) then (if ((IntKind.wrap .i64 (y1.2.2.1 + x.1)) ≤ (((length y1.2.1) : Nat) : Int)) then (if ((0 : Int) ≤ (IntKind.wrap .i64 ((IntKind.wrap .i64 (y1.2.2.1 + x.1)) - x.1))) then (if ((IntKind.wrap .i64 ((IntKind.wrap .i64 (y1.2.2.1 + x.1)) - x.1)) ≤ (((Int.toNat (IntKind.wrap .i64 (y1.2.2.1 + x.1))) : Nat) : Int)) then (Option.bind (f66 ((drop (Int.toNat (IntKind.wrap .i64 ((IntKind.wrap .i64 (y1.2.2.1 + x.1)) - x.1))) (take (Int.toNat (IntKind.wrap .i64 (y1.2.2.1 + x.1))) y1.2.1)), ())) (fun y2 => (if ((length y2.1) = (length y2.1)) then (some ((0 : Int), y1.2.1, (IntKind.wrap .i64 (y1.2.2.1 + x.1)), y1.2.2.2.1, y1.2.2.2.2.1, y2.1, ()))
 else none)))
 else none)
 else none)
 else none)
 else none)))))
theorem f74_eq (x : gi74.D) : f74 x = evF P (T73.orc _) Try.f74.ntmps fx74 c74 (planAt 64 []) gi74 x (fnK fx74 [go74]) := by kernel_rfl
theorem f74_ok : EntOk P 74 ⟨gi74, [go74], f74⟩ :=
  ent_ok (fn := Try.f74) (gi := gi74) (gos := [go74]) (f := f74) (c := c74) (fx := fx74) ⟨Try.func74, by kernel_rfl, rfl, by decide +kernel, rfl, rfl⟩ (by kernel_rfl) (Table.ok T73_ok _) hmix (planAt_ok (P := P) (n := Try.f74.ntmps) (fx := fx74) (c := c74) (d := 64) (l := []) trivial) f74_eq
noncomputable def T74 : Table := T73.add 74 [⟨gi74, [go74], f74⟩] []
theorem T74_ok : TableOk P T74 := Table.plus T73_ok (es := [⟨gi74, [go74], f74⟩]) ⟨f74_ok, trivial⟩ []

noncomputable def c75 : Code := Func.code Try.f75
abbrev gi75 : Sg := ⟨[0, 1], [.lf (.ptr 0 0), .agg [.lf (.int .i64), .lf (.int .i64), .lf (.int .i64)]], [some (.box true [.lf (.ptr 1 0), .lf (.gr (.pair (.int .i64) (.pair (.int .i64) (.int .i64))) 2), .lf (.int .i64), .lf (.int .i64)]), some (.box true [.lf (.sl (.int .u8)), .lf (.int .i64), .lf (.int .i64), .lf (.int .i64)]), some (.arr true (.pair (.int .i64) (.pair (.int .i64) (.int .i64))))]⟩
abbrev go75 : Sg := ⟨[4], [.lf (.int .i64)], [some (.box true [.lf (.ptr 1 0), .lf (.gr (.pair (.int .i64) (.pair (.int .i64) (.int .i64))) 3), .lf (.int .i64), .lf (.int .i64)]), some (.box true [.lf (.sl (.int .u8)), .lf (.int .i64), .lf (.int .i64), .lf (.int .i64)]), none, some (.arr true (.pair (.int .i64) (.pair (.int .i64) (.int .i64))))]⟩
def fx75 : List Bool := [tt, tt, ff]
noncomputable def f75 (x : gi75.D) : Option go75.D :=
  (if ((decide (x.2.2.1 > x.2.2.2.1)) = true) then (if ((length x.2.2.2.2.2.2.2.2.2.1) = (length x.2.2.2.2.2.2.2.2.2.1)) then (some ((4 : Int), x.2.2.2.1, x.2.2.2.2.1, x.2.2.2.2.2.1, x.2.2.2.2.2.2.1, x.2.2.2.2.2.2.2.1, x.2.2.2.2.2.2.2.2.1, x.2.2.2.2.2.2.2.2.2.1, ()))
 else none)
 else (if ((decide ((IntKind.wrap .i64 (x.2.2.2.1 + (Max.max x.2.1 (1 : Int)))) > x.2.2.2.2.1)) = true) then (if ((length x.2.2.2.2.2.2.2.2.2.1) = (length x.2.2.2.2.2.2.2.2.2.1)) then (some ((2 : Int), x.2.2.2.1, x.2.2.2.2.1, x.2.2.2.2.2.1, x.2.2.2.2.2.2.1, x.2.2.2.2.2.2.2.1, x.2.2.2.2.2.2.2.2.1, x.2.2.2.2.2.2.2.2.2.1, ()))
 else none)
 else (if (((length (take (length x.2.2.2.2.2.2.2.2.2.1) (drop 0 x.2.2.2.2.2.2.2.2.2.1))) + (length (take 1 (drop 0 (List.set (replicate 1 ((0 : Int), (0 : Int), (0 : Int))) 0 (x.1, x.2.1, x.2.2.1)))))) ≤ 5864062014805) then (if ((length ((take (length x.2.2.2.2.2.2.2.2.2.1) (drop 0 x.2.2.2.2.2.2.2.2.2.1)) ++ (take 1 (drop 0 (List.set (replicate 1 ((0 : Int), (0 : Int), (0 : Int))) 0 (x.1, x.2.1, x.2.2.1)))))) = (length ((take (length x.2.2.2.2.2.2.2.2.2.1) (drop 0 x.2.2.2.2.2.2.2.2.2.1)) ++ (take 1 (drop 0 (List.set (replicate 1 ((0 : Int), (0 : Int), (0 : Int))) 0 (x.1, x.2.1, x.2.2.1))))))) then (some ((0 : Int), (IntKind.wrap .i64 (x.2.2.2.1 + (Max.max x.2.1 (1 : Int)))), x.2.2.2.2.1, x.2.2.2.2.2.1, x.2.2.2.2.2.2.1, x.2.2.2.2.2.2.2.1, x.2.2.2.2.2.2.2.2.1, ((take (length x.2.2.2.2.2.2.2.2.2.1) (drop 0 x.2.2.2.2.2.2.2.2.2.1)) ++ (take 1 (drop 0 (List.set (replicate 1 ((0 : Int), (0 : Int), (0 : Int))) 0 (x.1, x.2.1, x.2.2.1))))), ()))
 else none)
 else none)))
theorem f75_eq (x : gi75.D) : f75 x = evF P (T74.orc _) Try.f75.ntmps fx75 c75 (planAt 64 []) gi75 x (fnK fx75 [go75]) := by kernel_rfl
theorem f75_ok : EntOk P 75 ⟨gi75, [go75], f75⟩ :=
  ent_ok (fn := Try.f75) (gi := gi75) (gos := [go75]) (f := f75) (c := c75) (fx := fx75) ⟨Try.func75, by kernel_rfl, rfl, by decide +kernel, rfl, rfl⟩ (by kernel_rfl) (Table.ok T74_ok _) hmix (planAt_ok (P := P) (n := Try.f75.ntmps) (fx := fx75) (c := c75) (d := 64) (l := []) trivial) f75_eq
noncomputable def T75 : Table := T74.add 75 [⟨gi75, [go75], f75⟩] []
theorem T75_ok : TableOk P T75 := Table.plus T74_ok (es := [⟨gi75, [go75], f75⟩]) ⟨f75_ok, trivial⟩ []

noncomputable def c52 : Code := Func.code Try.f52
abbrev gi52 : Sg := ⟨[0], [.lf (.ptr 0 0)], [some (.box true [.lf (.ptr 1 0), .lf (.gr (.pair (.int .i64) (.pair (.int .i64) (.int .i64))) 2), .lf (.int .i64), .lf (.int .i64)]), some (.box true [.lf (.sl (.int .u8)), .lf (.int .i64), .lf (.int .i64), .lf (.int .i64)]), some (.arr true (.pair (.int .i64) (.pair (.int .i64) (.int .i64))))]⟩
abbrev go52 : Sg := ⟨[2], [.lf (.int .i64)], [some (.box true [.lf (.ptr 1 0), .lf (.gr (.pair (.int .i64) (.pair (.int .i64) (.int .i64))) 3), .lf (.int .i64), .lf (.int .i64)]), some (.box true [.lf (.sl (.int .u8)), .lf (.int .i64), .lf (.int .i64), .lf (.int .i64)]), none, some (.arr true (.pair (.int .i64) (.pair (.int .i64) (.int .i64))))]⟩
def fx52 : List Bool := [tt, tt, ff]
abbrev g52_1 : Sg := ⟨[0, 60, 61, 62], [.lf (.ptr 0 0), .lf (.sl (.int .u8)), .lf (.int .i64), .lf (.int .i64)], [some (.box true [.lf (.ptr 1 0), .lf (.gr (.pair (.int .i64) (.pair (.int .i64) (.int .i64))) 3), .lf (.int .i64), .lf (.int .i64)]), some (.box true [.lf (.sl (.int .u8)), .lf (.int .i64), .lf (.int .i64), .lf (.int .i64)]), none, some (.arr true (.pair (.int .i64) (.pair (.int .i64) (.int .i64))))]⟩
abbrev o52_1 : Outs := [(.exit 2, ⟨[], [], [some (.box true [.lf (.ptr 1 0), .lf (.gr (.pair (.int .i64) (.pair (.int .i64) (.int .i64))) 3), .lf (.int .i64), .lf (.int .i64)]), some (.box true [.lf (.sl (.int .u8)), .lf (.int .i64), .lf (.int .i64), .lf (.int .i64)]), none, some (.arr true (.pair (.int .i64) (.pair (.int .i64) (.int .i64))))]⟩)]
noncomputable def b52_1 (x : g52_1.D) : Option (outD ((.normal, g52_1) :: o52_1)) :=
  (if ((decide (x.2.2.1 < x.2.1)) = true) then (if ((0 : Int) ≤ x.2.2.1) then (if (x.2.2.1 < (((length x.1) : Nat) : Int)) then (if ((length x.2.2.2.2.2.2.2.2.2.1) = (length x.2.2.2.2.2.2.2.2.2.1)) then (Option.bind (f75 ((IntKind.wrap .i64 (getD x.1 (Int.toNat x.2.2.1) (0 : Int))), (0 : Int), (0 : Int), x.2.2.2.1, x.2.2.2.2.1, x.2.2.2.2.2.1, x.2.2.2.2.2.2.1, x.2.2.2.2.2.2.2.1, x.2.2.2.2.2.2.2.2.1, x.2.2.2.2.2.2.2.2.2.1, ())) (fun y1 => (if ((length y1.2.2.2.2.2.2.2.1) = (length y1.2.2.2.2.2.2.2.1)) then (some (Sum.inl (x.1, x.2.1, (IntKind.wrap .i64 (x.2.2.1 + (1 : Int))), y1.2.1, y1.2.2.1, y1.2.2.2.1, y1.2.2.2.2.1, y1.2.2.2.2.2.1, y1.2.2.2.2.2.2.1, y1.2.2.2.2.2.2.2.1, ())))
 else none)))
 else none)
 else none)
 else none)
 else (if ((length x.2.2.2.2.2.2.2.2.2.1) = (length x.2.2.2.2.2.2.2.2.2.1)) then (some (Sum.inr (Sum.inl (x.2.2.2.1, x.2.2.2.2.1, x.2.2.2.2.2.1, x.2.2.2.2.2.2.1, x.2.2.2.2.2.2.2.1, x.2.2.2.2.2.2.2.2.1, x.2.2.2.2.2.2.2.2.2.1, ()))))
 else none))
theorem b52_1_eq (x : g52_1.D) : b52_1 x = evF P (T75.orc _) Try.f52.ntmps fx52 (Code.at [tt, tt, tt, tt, tt, tt, ff, tt, ff, ff] c52) (planAt 64 []) g52_1 x (injK fx52 ((.normal, g52_1) :: o52_1) some) := by kernel_rfl
noncomputable def l52_1 : g52_1.D → Option (outD o52_1) := loopN g52_1 o52_1 b52_1 18446744073709551616
theorem at52_1 : Code.at [tt, tt, tt, tt, tt, tt, ff, tt, ff] c52 = .loop (Code.at [tt, tt, tt, tt, tt, tt, ff, tt, ff, ff] c52) := by kernel_rfl
theorem s52_1_ok : SubOk P Try.f52.ntmps fx52 (Code.at [tt, tt, tt, tt, tt, tt, ff, tt, ff] c52) ⟨g52_1, o52_1, l52_1⟩ := by
  rw [at52_1]
  exact loop_ok (sub_ok (g := g52_1) (outs := ((.normal, g52_1) :: o52_1)) (f := b52_1) (Table.ok T75_ok _) hmix (planAt_ok (P := P) (n := Try.f52.ntmps) (fx := fx52) (c := (Code.at [tt, tt, tt, tt, tt, tt, ff, tt, ff, ff] c52)) (d := 64) (l := []) trivial) b52_1_eq) rfl _
noncomputable def f52 (x : gi52.D) : Option go52.D :=
  (Option.bind (f73 (x.2.2.1, x.2.2.2.1, x.2.2.2.2.1, x.2.2.2.2.2.1, ())) (fun y1 => (if ((length x.2.2.2.2.2.2.1) = (length x.2.2.2.2.2.2.1)) then (Option.bind (f51 ((take 2 (drop 0 (List.set (List.set (replicate 2 (0 : Int)) 0 (16 : Int)) 1 (16 : Int)))), x.1, x.2.1, y1.2.1, y1.2.2.1, y1.2.2.2.1, y1.2.2.2.2.1, x.2.2.2.2.2.2.1, ())) (fun y2 => (if ((y2.2.1 != (0 : Int)) = true) then (if ((length y2.2.2.2.2.2.2.2.2.1) = (length y2.2.2.2.2.2.2.2.2.1)) then (some (y2.2.1, y2.2.2.1, y2.2.2.2.1, y2.2.2.2.2.1, y2.2.2.2.2.2.1, y2.2.2.2.2.2.2.1, y2.2.2.2.2.2.2.2.1, y2.2.2.2.2.2.2.2.2.1, ()))
 else none)
 else (if ((0 : Int) < (((length y2.1) : Nat) : Int)) then (if ((1 : Int) < (((length y2.1) : Nat) : Int)) then (if (((IntKind.wrap .i64 (((BitVec.toNat ((BitVec.ofInt 64 (getD y2.1 0 (0 : Int))) ^^^ (BitVec.ofInt 64 (getD y2.1 1 (0 : Int))))) : Nat) : Int)) != (65535 : Int)) = true) then (if ((length y2.2.2.2.2.2.2.2.2.1) = (length y2.2.2.2.2.2.2.2.2.1)) then (some ((4 : Int), y2.2.2.1, y2.2.2.2.1, y2.2.2.2.2.1, y2.2.2.2.2.2.1, y2.2.2.2.2.2.2.1, y2.2.2.2.2.2.2.2.1, y2.2.2.2.2.2.2.2.2.1, ()))
 else none)
 else (if ((0 : Int) < (((length y2.1) : Nat) : Int)) then (Option.bind (f74 ((getD y2.1 0 (0 : Int)), y2.2.2.2.2.1, y2.2.2.2.2.2.1, y2.2.2.2.2.2.2.1, y2.2.2.2.2.2.2.2.1, ())) (fun y3 => (if ((y3.1 != (0 : Int)) = true) then (if ((length y2.2.2.2.2.2.2.2.2.1) = (length y2.2.2.2.2.2.2.2.2.1)) then (some (y3.1, y2.2.2.1, y2.2.2.2.1, y3.2.1, y3.2.2.1, y3.2.2.2.1, y3.2.2.2.2.1, y2.2.2.2.2.2.2.2.2.1, ()))
 else none)
 else (if ((decide ((IntKind.wrap .i64 (y2.2.2.1 + (((length y3.2.2.2.2.2.1) : Nat) : Int))) > y2.2.2.2.1)) = true) then (if ((length y2.2.2.2.2.2.2.2.2.1) = (length y2.2.2.2.2.2.2.2.2.1)) then (some ((2 : Int), y2.2.2.1, y2.2.2.2.1, y3.2.1, y3.2.2.1, y3.2.2.2.1, y3.2.2.2.2.1, y2.2.2.2.2.2.2.2.2.1, ()))
 else none)
 else (if ((length y2.2.2.2.2.2.2.2.2.1) = (length y2.2.2.2.2.2.2.2.2.1)) then (Option.bind (l52_1 ((take (length y3.2.2.2.2.2.1) (drop 0 y3.2.2.2.2.2.1)), (((length y3.2.2.2.2.2.1) : Nat) : Int), (0 : Int), y2.2.2.1, y2.2.2.2.1, y3.2.1, y3.2.2.1, y3.2.2.2.1, y3.2.2.2.2.1, y2.2.2.2.2.2.2.2.2.1, ())) (Sum.elim (fun y4 => (if ((length y4.2.2.2.2.2.2.1) = (length y4.2.2.2.2.2.2.1)) then (some ((0 : Int), y4.1, y4.2.1, y4.2.2.1, y4.2.2.2.1, y4.2.2.2.2.1, y4.2.2.2.2.2.1, y4.2.2.2.2.2.2.1, ()))
 else none)) Empty.elim))
 else none)))))
 else none))
 else none)
 else none))))
 else none)))
theorem f52_eq (x : gi52.D) : f52 x = evF P (T75.orc _) Try.f52.ntmps fx52 c52 (planAt 64 [([tt, tt, tt, tt, tt, tt, ff, tt, ff], ⟨g52_1, o52_1, l52_1⟩)]) gi52 x (fnK fx52 [go52]) := by kernel_rfl
theorem pf52 : AllSub P Try.f52.ntmps fx52 c52 [([tt, tt, tt, tt, tt, tt, ff, tt, ff], ⟨g52_1, o52_1, l52_1⟩)] := And.intro s52_1_ok (trivial)
theorem qf52 : PlanOk P Try.f52.ntmps fx52 (planAt 64 [([tt, tt, tt, tt, tt, tt, ff, tt, ff], ⟨g52_1, o52_1, l52_1⟩)]) c52 := planAt_ok pf52
theorem f52_ok : EntOk P 52 ⟨gi52, [go52], f52⟩ :=
  ent_ok (fn := Try.f52) (gi := gi52) (gos := [go52]) (f := f52) (c := c52) (fx := fx52) ⟨Try.func52, by kernel_rfl, rfl, by decide +kernel, rfl, rfl⟩ (by kernel_rfl) (Table.ok T75_ok _) hmix (qf52) f52_eq
noncomputable def T52 : Table := T75.add 52 [⟨gi52, [go52], f52⟩] []
theorem T52_ok : TableOk P T52 := Table.plus T75_ok (es := [⟨gi52, [go52], f52⟩]) ⟨f52_ok, trivial⟩ []

noncomputable def c86 : Code := Func.code Try.f86
abbrev gi86 : Sg := ⟨[0, 1], [.lf (.ptr 0 0), .lf (.ptr 2 0)], [some (.box true [.many (.int .i64) 16, .lf (.sl (.int .i64)), .lf (.sl (.int .i64)), .lf (.gr (.int .i64) 1)]), some (.arr true (.int .i64)), some (.box true [.lf (.sl (.int .u8)), .lf (.int .i64), .lf (.int .i64), .lf (.int .i64)])]⟩
abbrev go86 : Sg := ⟨[4, 5], [.lf (.int .i64), .lf (.int .i64)], [some (.box true [.many (.int .i64) 16, .lf (.sl (.int .i64)), .lf (.sl (.int .i64)), .lf (.gr (.int .i64) 1)]), some (.arr true (.int .i64)), some (.box true [.lf (.sl (.int .u8)), .lf (.int .i64), .lf (.int .i64), .lf (.int .i64)])]⟩
def fx86 : List Bool := [tt, tt, tt]
abbrev g86_2 : Sg := ⟨[0, 1, 6, 7, 8, 9, 12], [.lf (.ptr 0 0), .lf (.ptr 2 0), .lf (.int .i64), .lf (.int .i64), .lf (.int .i64), .lf (.int .i64), .lf (.int .i64)], [some (.box true [.many (.int .i64) 16, .lf (.sl (.int .i64)), .lf (.sl (.int .i64)), .lf (.gr (.int .i64) 1)]), some (.arr true (.int .i64)), some (.box true [.lf (.sl (.int .u8)), .lf (.int .i64), .lf (.int .i64), .lf (.int .i64)])]⟩
abbrev o86_2 : Outs := [(.normal, ⟨[0, 1, 6, 7, 8, 9, 12, 51], [.lf (.ptr 0 0), .lf (.ptr 2 0), .lf (.int .i64), .lf (.int .i64), .lf (.int .i64), .lf (.int .i64), .lf (.int .i64), .lf .bool], [some (.box true [.many (.int .i64) 16, .lf (.sl (.int .i64)), .lf (.sl (.int .i64)), .lf (.gr (.int .i64) 1)]), some (.arr true (.int .i64)), some (.box true [.lf (.sl (.int .u8)), .lf (.int .i64), .lf (.int .i64), .lf (.int .i64)])]⟩)]
noncomputable def b86_2 (x : g86_2.D) : Option (outD o86_2) :=
  (if ((decide (x.2.2.2.2.1 ≥ (0 : Int))) = true) then (if ((0 : Int) ≤ x.2.2.2.1) then (if (x.2.2.2.1 < (16 : Int)) then (if ((length x.2.2.2.2.2.2.2.2.1) = (length x.2.2.2.2.2.2.2.2.1)) then (some (Sum.inl (x.1, x.2.1, x.2.2.1, x.2.2.2.1, x.2.2.2.2.1, (decide (x.2.2.2.2.1 < (getD x.2.2.2.2.2.1 (Int.toNat x.2.2.2.1) (0 : Int)))), x.2.2.2.2.2.1, x.2.2.2.2.2.2.1, x.2.2.2.2.2.2.2.1, x.2.2.2.2.2.2.2.2.1, x.2.2.2.2.2.2.2.2.2.1, x.2.2.2.2.2.2.2.2.2.2.1, x.2.2.2.2.2.2.2.2.2.2.2.1, x.2.2.2.2.2.2.2.2.2.2.2.2.1, ())))
 else none)
 else none)
 else none)
 else (if ((length x.2.2.2.2.2.2.2.2.1) = (length x.2.2.2.2.2.2.2.2.1)) then (some (Sum.inl (x.1, x.2.1, x.2.2.1, x.2.2.2.1, x.2.2.2.2.1, false, x.2.2.2.2.2.1, x.2.2.2.2.2.2.1, x.2.2.2.2.2.2.2.1, x.2.2.2.2.2.2.2.2.1, x.2.2.2.2.2.2.2.2.2.1, x.2.2.2.2.2.2.2.2.2.2.1, x.2.2.2.2.2.2.2.2.2.2.2.1, x.2.2.2.2.2.2.2.2.2.2.2.2.1, ())))
 else none))
theorem b86_2_eq (x : g86_2.D) : b86_2 x = evF P (T52.orc _) Try.f86.ntmps fx86 (Code.at [tt, tt, tt, ff, tt, ff, ff, tt, ff, ff, tt, tt, tt, ff, tt, ff] c86) (planAt 64 []) g86_2 x (injK fx86 o86_2 some) := by kernel_rfl
theorem s86_2_ok : SubOk P Try.f86.ntmps fx86 (Code.at [tt, tt, tt, ff, tt, ff, ff, tt, ff, ff, tt, tt, tt, ff, tt, ff] c86) ⟨g86_2, o86_2, b86_2⟩ :=
  sub_ok (g := g86_2) (outs := o86_2) (f := b86_2) (Table.ok T52_ok _) hmix (planAt_ok (P := P) (n := Try.f86.ntmps) (fx := fx86) (c := (Code.at [tt, tt, tt, ff, tt, ff, ff, tt, ff, ff, tt, tt, tt, ff, tt, ff] c86)) (d := 64) (l := []) trivial) b86_2_eq
abbrev g86_1 : Sg := ⟨[0, 1, 6, 7, 8, 9], [.lf (.ptr 0 0), .lf (.ptr 2 0), .lf (.int .i64), .lf (.int .i64), .lf (.int .i64), .lf (.int .i64)], [some (.box true [.many (.int .i64) 16, .lf (.sl (.int .i64)), .lf (.sl (.int .i64)), .lf (.gr (.int .i64) 1)]), some (.arr true (.int .i64)), some (.box true [.lf (.sl (.int .u8)), .lf (.int .i64), .lf (.int .i64), .lf (.int .i64)])]⟩
abbrev o86_1 : Outs := [(.exit 0, ⟨[], [], [some (.box true [.many (.int .i64) 16, .lf (.sl (.int .i64)), .lf (.sl (.int .i64)), .lf (.gr (.int .i64) 1)]), some (.arr true (.int .i64)), some (.box true [.lf (.sl (.int .u8)), .lf (.int .i64), .lf (.int .i64), .lf (.int .i64)])]⟩), (.ret, ⟨[4, 5], [.lf (.int .i64), .lf (.int .i64)], [some (.box true [.many (.int .i64) 16, .lf (.sl (.int .i64)), .lf (.sl (.int .i64)), .lf (.gr (.int .i64) 1)]), some (.arr true (.int .i64)), some (.box true [.lf (.sl (.int .u8)), .lf (.int .i64), .lf (.int .i64), .lf (.int .i64)])]⟩)]
noncomputable def b86_1 (x : g86_1.D) : Option (outD ((.normal, g86_1) :: o86_1)) :=
  (if ((decide (x.2.2.2.1 ≤ (15 : Int))) = true) then (Option.bind (f72 ((1 : Int), x.2.2.2.2.2.2.2.2.1, x.2.2.2.2.2.2.2.2.2.1, x.2.2.2.2.2.2.2.2.2.2.1, x.2.2.2.2.2.2.2.2.2.2.2.1, ())) (fun y1 => (if ((y1.2.1 != (0 : Int)) = true) then (if ((length x.2.2.2.2.2.2.2.1) = (length x.2.2.2.2.2.2.2.1)) then (some (Sum.inr (Sum.inr (Sum.inl ((0 : Int), y1.2.1, x.2.2.2.2.1, x.2.2.2.2.2.1, x.2.2.2.2.2.2.1, x.2.2.2.2.2.2.2.1, y1.2.2.1, y1.2.2.2.1, y1.2.2.2.2.1, y1.2.2.2.2.2.1, ())))))
 else none)
 else (if ((length x.2.2.2.2.2.2.2.1) = (length x.2.2.2.2.2.2.2.1)) then (Option.bind (b86_2 ((IntKind.wrap .i64 (((BitVec.toNat ((BitVec.ofInt 64 (IntKind.wrap .i64 (x.1 * (2 : Int)))) ||| (BitVec.ofInt 64 y1.1))) : Nat) : Int)), (IntKind.wrap .i64 (x.2.1 * (2 : Int))), x.2.2.1, x.2.2.2.1, (IntKind.wrap .i64 ((IntKind.wrap .i64 (((BitVec.toNat ((BitVec.ofInt 64 (IntKind.wrap .i64 (x.1 * (2 : Int)))) ||| (BitVec.ofInt 64 y1.1))) : Nat) : Int)) - (IntKind.wrap .i64 (x.2.1 * (2 : Int))))), x.2.2.2.2.1, x.2.2.2.2.2.1, x.2.2.2.2.2.2.1, x.2.2.2.2.2.2.2.1, y1.2.2.1, y1.2.2.2.1, y1.2.2.2.2.1, y1.2.2.2.2.2.1, ())) (Sum.elim (fun y2 => (if (y2.2.2.2.2.2.1 = true) then (if ((0 : Int) ≤ (IntKind.wrap .i64 (y2.2.2.1 + y2.2.2.2.2.1))) then (if ((IntKind.wrap .i64 (y2.2.2.1 + y2.2.2.2.2.1)) < (((length y2.2.2.2.2.2.2.2.2.2.1) : Nat) : Int)) then (if ((length y2.2.2.2.2.2.2.2.2.2.1) = (length y2.2.2.2.2.2.2.2.2.2.1)) then (some (Sum.inr (Sum.inr (Sum.inl ((getD y2.2.2.2.2.2.2.2.2.2.1 (0 + (Int.toNat (IntKind.wrap .i64 (y2.2.2.1 + y2.2.2.2.2.1)))) (0 : Int)), (0 : Int), y2.2.2.2.2.2.2.1, y2.2.2.2.2.2.2.2.1, y2.2.2.2.2.2.2.2.2.1, y2.2.2.2.2.2.2.2.2.2.1, y2.2.2.2.2.2.2.2.2.2.2.1, y2.2.2.2.2.2.2.2.2.2.2.2.1, y2.2.2.2.2.2.2.2.2.2.2.2.2.1, y2.2.2.2.2.2.2.2.2.2.2.2.2.2.1, ())))))
 else none)
 else none)
 else none)
 else (if ((0 : Int) ≤ y2.2.2.2.1) then (if (y2.2.2.2.1 < (16 : Int)) then (if ((0 : Int) ≤ y2.2.2.2.1) then (if (y2.2.2.2.1 < (16 : Int)) then (if ((length y2.2.2.2.2.2.2.2.2.2.1) = (length y2.2.2.2.2.2.2.2.2.2.1)) then (some (Sum.inl (y2.1, (IntKind.wrap .i64 (y2.2.1 + (getD y2.2.2.2.2.2.2.1 (Int.toNat y2.2.2.2.1) (0 : Int)))), (IntKind.wrap .i64 (y2.2.2.1 + (getD y2.2.2.2.2.2.2.1 (Int.toNat y2.2.2.2.1) (0 : Int)))), (IntKind.wrap .i64 (y2.2.2.2.1 + (1 : Int))), y2.2.2.2.2.2.2.1, y2.2.2.2.2.2.2.2.1, y2.2.2.2.2.2.2.2.2.1, y2.2.2.2.2.2.2.2.2.2.1, y2.2.2.2.2.2.2.2.2.2.2.1, y2.2.2.2.2.2.2.2.2.2.2.2.1, y2.2.2.2.2.2.2.2.2.2.2.2.2.1, y2.2.2.2.2.2.2.2.2.2.2.2.2.2.1, ())))
 else none)
 else none)
 else none)
 else none)
 else none))) Empty.elim))
 else none))))
 else (if ((length x.2.2.2.2.2.2.2.1) = (length x.2.2.2.2.2.2.2.1)) then (some (Sum.inr (Sum.inl (x.2.2.2.2.1, x.2.2.2.2.2.1, x.2.2.2.2.2.2.1, x.2.2.2.2.2.2.2.1, x.2.2.2.2.2.2.2.2.1, x.2.2.2.2.2.2.2.2.2.1, x.2.2.2.2.2.2.2.2.2.2.1, x.2.2.2.2.2.2.2.2.2.2.2.1, ()))))
 else none))
theorem b86_1_eq (x : g86_1.D) : b86_1 x = evF P (T52.orc _) Try.f86.ntmps fx86 (Code.at [tt, tt, tt, ff, tt, ff, ff] c86) (planAt 64 [([tt, ff, ff, tt, tt, tt, ff, tt, ff], ⟨g86_2, o86_2, b86_2⟩)]) g86_1 x (injK fx86 ((.normal, g86_1) :: o86_1) some) := by kernel_rfl
noncomputable def l86_1 : g86_1.D → Option (outD o86_1) := loopN g86_1 o86_1 b86_1 18446744073709551616
theorem p86_1 : AllSub P Try.f86.ntmps fx86 (Code.at [tt, tt, tt, ff, tt, ff, ff] c86) [([tt, ff, ff, tt, tt, tt, ff, tt, ff], ⟨g86_2, o86_2, b86_2⟩)] := And.intro s86_2_ok (trivial)
theorem q86_1 : PlanOk P Try.f86.ntmps fx86 (planAt 64 [([tt, ff, ff, tt, tt, tt, ff, tt, ff], ⟨g86_2, o86_2, b86_2⟩)]) (Code.at [tt, tt, tt, ff, tt, ff, ff] c86) := planAt_ok p86_1
theorem at86_1 : Code.at [tt, tt, tt, ff, tt, ff] c86 = .loop (Code.at [tt, tt, tt, ff, tt, ff, ff] c86) := by kernel_rfl
theorem s86_1_ok : SubOk P Try.f86.ntmps fx86 (Code.at [tt, tt, tt, ff, tt, ff] c86) ⟨g86_1, o86_1, l86_1⟩ := by
  rw [at86_1]
  exact loop_ok (sub_ok (g := g86_1) (outs := ((.normal, g86_1) :: o86_1)) (f := b86_1) (Table.ok T52_ok _) hmix (q86_1) b86_1_eq) rfl _
noncomputable def f86 (x : gi86.D) : Option go86.D :=
  (if ((length x.2.2.2.1) = (length x.2.2.2.1)) then (Option.bind (l86_1 ((0 : Int), (0 : Int), (0 : Int), (1 : Int), x.1, x.2.1, x.2.2.1, x.2.2.2.1, x.2.2.2.2.1, x.2.2.2.2.2.1, x.2.2.2.2.2.2.1, x.2.2.2.2.2.2.2.1, ())) (Sum.elim (fun y1 => (if ((length y1.2.2.2.1) = (length y1.2.2.2.1)) then (some ((0 : Int), (4 : Int), y1.1, y1.2.1, y1.2.2.1, y1.2.2.2.1, y1.2.2.2.2.1, y1.2.2.2.2.2.1, y1.2.2.2.2.2.2.1, y1.2.2.2.2.2.2.2.1, ()))
 else none)) (Sum.elim (fun y1 => (if ((length y1.2.2.2.2.2.1) = (length y1.2.2.2.2.2.1)) then (some (y1.1, y1.2.1, y1.2.2.1, y1.2.2.2.1, y1.2.2.2.2.1, y1.2.2.2.2.2.1, y1.2.2.2.2.2.2.1, y1.2.2.2.2.2.2.2.1, y1.2.2.2.2.2.2.2.2.1, y1.2.2.2.2.2.2.2.2.2.1, ()))
 else none)) Empty.elim)))
 else none)
theorem f86_eq (x : gi86.D) : f86 x = evF P (T52.orc _) Try.f86.ntmps fx86 c86 (planAt 64 [([tt, tt, tt, ff, tt, ff], ⟨g86_1, o86_1, l86_1⟩)]) gi86 x (fnK fx86 [go86]) := by kernel_rfl
theorem pf86 : AllSub P Try.f86.ntmps fx86 c86 [([tt, tt, tt, ff, tt, ff], ⟨g86_1, o86_1, l86_1⟩)] := And.intro s86_1_ok (trivial)
theorem qf86 : PlanOk P Try.f86.ntmps fx86 (planAt 64 [([tt, tt, tt, ff, tt, ff], ⟨g86_1, o86_1, l86_1⟩)]) c86 := planAt_ok pf86
theorem f86_ok : EntOk P 86 ⟨gi86, [go86], f86⟩ :=
  ent_ok (fn := Try.f86) (gi := gi86) (gos := [go86]) (f := f86) (c := c86) (fx := fx86) ⟨Try.func86, by kernel_rfl, rfl, by decide +kernel, rfl, rfl⟩ (by kernel_rfl) (Table.ok T52_ok _) hmix (qf86) f86_eq
noncomputable def T86 : Table := T52.add 86 [⟨gi86, [go86], f86⟩] []
theorem T86_ok : TableOk P T86 := Table.plus T52_ok (es := [⟨gi86, [go86], f86⟩]) ⟨f86_ok, trivial⟩ []

noncomputable def c87 : Code := Func.code Try.f87
abbrev gi87 : Sg := ⟨[0], [.lf (.int .i64)], []⟩
abbrev go87 : Sg := ⟨[2, 3], [.lf (.int .i64), .lf (.int .i64)], []⟩
def fx87 : List Bool := []
noncomputable def f87 (x : gi87.D) : Option go87.D :=
  (if ((x.1 == (285 : Int)) = true) then (some ((258 : Int), (0 : Int), ()))
 else (if ((decide ((IntKind.wrap .i64 ((IntKind.wrap .i64 (x.1 - (256 : Int))) - (1 : Int))) < (8 : Int))) = true) then (some ((IntKind.wrap .i64 ((3 : Int) + (IntKind.wrap .i64 ((IntKind.wrap .i64 (x.1 - (256 : Int))) - (1 : Int))))), (0 : Int), ()))
 else (if ((IntKind.wrap .i64 ((Int.fdiv (IntKind.wrap .i64 ((IntKind.wrap .i64 (x.1 - (256 : Int))) - (1 : Int))) (4 : Int)) - (1 : Int))) < (0 : Int)) then none
 else (some ((IntKind.wrap .i64 ((3 : Int) + (IntKind.wrap .i64 ((IntKind.wrap .i64 ((4 : Int) + (IntKind.wrap .i64 (((BitVec.toNat ((BitVec.ofInt 64 (IntKind.wrap .i64 ((IntKind.wrap .i64 (x.1 - (256 : Int))) - (1 : Int)))) &&& (BitVec.ofInt 64 (3 : Int)))) : Nat) : Int)))) * ((2 : Int) ^ (Min.min (Int.toNat (IntKind.wrap .i64 ((Int.fdiv (IntKind.wrap .i64 ((IntKind.wrap .i64 (x.1 - (256 : Int))) - (1 : Int))) (4 : Int)) - (1 : Int)))) 64)))))), (IntKind.wrap .i64 ((Int.fdiv (IntKind.wrap .i64 ((IntKind.wrap .i64 (x.1 - (256 : Int))) - (1 : Int))) (4 : Int)) - (1 : Int))), ())))))
theorem f87_eq (x : gi87.D) : f87 x = evF P (T86.orc _) Try.f87.ntmps fx87 c87 (planAt 64 []) gi87 x (fnK fx87 [go87]) := by kernel_rfl
theorem f87_ok : EntOk P 87 ⟨gi87, [go87], f87⟩ :=
  ent_ok (fn := Try.f87) (gi := gi87) (gos := [go87]) (f := f87) (c := c87) (fx := fx87) ⟨Try.func87, by kernel_rfl, rfl, by decide +kernel, rfl, rfl⟩ (by kernel_rfl) (Table.ok T86_ok _) hmix (planAt_ok (P := P) (n := Try.f87.ntmps) (fx := fx87) (c := c87) (d := 64) (l := []) trivial) f87_eq
noncomputable def T87 : Table := T86.add 87 [⟨gi87, [go87], f87⟩] []
theorem T87_ok : TableOk P T87 := Table.plus T86_ok (es := [⟨gi87, [go87], f87⟩]) ⟨f87_ok, trivial⟩ []

noncomputable def c88 : Code := Func.code Try.f88
abbrev gi88 : Sg := ⟨[0], [.lf (.int .i64)], []⟩
abbrev go88 : Sg := ⟨[2, 3], [.lf (.int .i64), .lf (.int .i64)], []⟩
def fx88 : List Bool := []
noncomputable def f88 (x : gi88.D) : Option go88.D :=
  (if ((decide (x.1 < (4 : Int))) = true) then (some ((IntKind.wrap .i64 ((1 : Int) + x.1)), (0 : Int), ()))
 else (if ((IntKind.wrap .i64 ((Int.fdiv x.1 (2 : Int)) - (1 : Int))) < (0 : Int)) then none
 else (some ((IntKind.wrap .i64 ((1 : Int) + (IntKind.wrap .i64 ((IntKind.wrap .i64 ((2 : Int) + (IntKind.wrap .i64 (((BitVec.toNat ((BitVec.ofInt 64 x.1) &&& (BitVec.ofInt 64 (1 : Int)))) : Nat) : Int)))) * ((2 : Int) ^ (Min.min (Int.toNat (IntKind.wrap .i64 ((Int.fdiv x.1 (2 : Int)) - (1 : Int)))) 64)))))), (IntKind.wrap .i64 ((Int.fdiv x.1 (2 : Int)) - (1 : Int))), ()))))
theorem f88_eq (x : gi88.D) : f88 x = evF P (T87.orc _) Try.f88.ntmps fx88 c88 (planAt 64 []) gi88 x (fnK fx88 [go88]) := by kernel_rfl
theorem f88_ok : EntOk P 88 ⟨gi88, [go88], f88⟩ :=
  ent_ok (fn := Try.f88) (gi := gi88) (gos := [go88]) (f := f88) (c := c88) (fx := fx88) ⟨Try.func88, by kernel_rfl, rfl, by decide +kernel, rfl, rfl⟩ (by kernel_rfl) (Table.ok T87_ok _) hmix (planAt_ok (P := P) (n := Try.f88.ntmps) (fx := fx88) (c := c88) (d := 64) (l := []) trivial) f88_eq
noncomputable def T88 : Table := T87.add 88 [⟨gi88, [go88], f88⟩] []
theorem T88_ok : TableOk P T88 := Table.plus T87_ok (es := [⟨gi88, [go88], f88⟩]) ⟨f88_ok, trivial⟩ []

noncomputable def c76 : Code := Func.code Try.f76
abbrev gi76 : Sg := ⟨[0, 1, 2], [.lf (.ptr 0 0), .lf (.ptr 3 0), .lf (.ptr 5 0)], [some (.box true [.lf (.ptr 1 0), .lf (.gr (.pair (.int .i64) (.pair (.int .i64) (.int .i64))) 2), .lf (.int .i64), .lf (.int .i64)]), some (.box true [.lf (.sl (.int .u8)), .lf (.int .i64), .lf (.int .i64), .lf (.int .i64)]), some (.arr true (.pair (.int .i64) (.pair (.int .i64) (.int .i64)))), some (.box true [.many (.int .i64) 16, .lf (.sl (.int .i64)), .lf (.sl (.int .i64)), .lf (.gr (.int .i64) 4)]), some (.arr true (.int .i64)), some (.box true [.many (.int .i64) 16, .lf (.sl (.int .i64)), .lf (.sl (.int .i64)), .lf (.gr (.int .i64) 6)]), some (.arr true (.int .i64))]⟩
abbrev go76 : Sg := ⟨[6], [.lf (.int .i64)], [some (.box true [.lf (.ptr 1 0), .lf (.gr (.pair (.int .i64) (.pair (.int .i64) (.int .i64))) 7), .lf (.int .i64), .lf (.int .i64)]), some (.box true [.lf (.sl (.int .u8)), .lf (.int .i64), .lf (.int .i64), .lf (.int .i64)]), none, some (.box true [.many (.int .i64) 16, .lf (.sl (.int .i64)), .lf (.sl (.int .i64)), .lf (.gr (.int .i64) 4)]), some (.arr true (.int .i64)), some (.box true [.many (.int .i64) 16, .lf (.sl (.int .i64)), .lf (.sl (.int .i64)), .lf (.gr (.int .i64) 6)]), some (.arr true (.int .i64)), some (.arr true (.pair (.int .i64) (.pair (.int .i64) (.int .i64))))]⟩
def fx76 : List Bool := [tt, tt, ff, tt, tt, tt, tt]
abbrev g76_1 : Sg := ⟨[0, 1, 2], [.lf (.ptr 0 0), .lf (.ptr 3 0), .lf (.ptr 5 0)], [some (.box true [.lf (.ptr 1 0), .lf (.gr (.pair (.int .i64) (.pair (.int .i64) (.int .i64))) 7), .lf (.int .i64), .lf (.int .i64)]), some (.box true [.lf (.sl (.int .u8)), .lf (.int .i64), .lf (.int .i64), .lf (.int .i64)]), none, some (.box true [.many (.int .i64) 16, .lf (.sl (.int .i64)), .lf (.sl (.int .i64)), .lf (.gr (.int .i64) 4)]), some (.arr true (.int .i64)), some (.box true [.many (.int .i64) 16, .lf (.sl (.int .i64)), .lf (.sl (.int .i64)), .lf (.gr (.int .i64) 6)]), some (.arr true (.int .i64)), some (.arr true (.pair (.int .i64) (.pair (.int .i64) (.int .i64))))]⟩
abbrev o76_1 : Outs := [(.ret, ⟨[6], [.lf (.int .i64)], [some (.box true [.lf (.ptr 1 0), .lf (.gr (.pair (.int .i64) (.pair (.int .i64) (.int .i64))) 7), .lf (.int .i64), .lf (.int .i64)]), some (.box true [.lf (.sl (.int .u8)), .lf (.int .i64), .lf (.int .i64), .lf (.int .i64)]), none, some (.box true [.many (.int .i64) 16, .lf (.sl (.int .i64)), .lf (.sl (.int .i64)), .lf (.gr (.int .i64) 4)]), some (.arr true (.int .i64)), some (.box true [.many (.int .i64) 16, .lf (.sl (.int .i64)), .lf (.sl (.int .i64)), .lf (.gr (.int .i64) 6)]), some (.arr true (.int .i64)), some (.arr true (.pair (.int .i64) (.pair (.int .i64) (.int .i64))))]⟩)]
noncomputable def b76_1 (x : g76_1.D) : Option (outD ((.normal, g76_1) :: o76_1)) :=
  (if ((length x.2.2.2.2.2.2.2.2.2.1) = (length x.2.2.2.2.2.2.2.2.2.1)) then (Option.bind (f86 (x.2.2.2.2.2.2.1, x.2.2.2.2.2.2.2.1, x.2.2.2.2.2.2.2.2.1, x.2.2.2.2.2.2.2.2.2.1, x.2.2.1, x.2.2.2.1, x.2.2.2.2.1, x.2.2.2.2.2.1, ())) (fun y1 => (if ((y1.2.1 != (0 : Int)) = true) then (if ((length x.2.2.2.2.2.2.2.2.2.2.2.2.2.2.1) = (length x.2.2.2.2.2.2.2.2.2.2.2.2.2.2.1)) then (if ((length y1.2.2.2.2.2.1) = (length y1.2.2.2.2.2.1)) then (if ((length x.2.2.2.2.2.2.2.2.2.2.2.2.2.1) = (length x.2.2.2.2.2.2.2.2.2.2.2.2.2.1)) then (some (Sum.inr (Sum.inl (y1.2.1, x.1, x.2.1, y1.2.2.2.2.2.2.1, y1.2.2.2.2.2.2.2.1, y1.2.2.2.2.2.2.2.2.1, y1.2.2.2.2.2.2.2.2.2.1, y1.2.2.1, y1.2.2.2.1, y1.2.2.2.2.1, y1.2.2.2.2.2.1, x.2.2.2.2.2.2.2.2.2.2.1, x.2.2.2.2.2.2.2.2.2.2.2.1, x.2.2.2.2.2.2.2.2.2.2.2.2.1, x.2.2.2.2.2.2.2.2.2.2.2.2.2.1, x.2.2.2.2.2.2.2.2.2.2.2.2.2.2.1, ()))))
 else none)
 else none)
 else none)
 else (if ((y1.1 == (256 : Int)) = true) then (if ((length x.2.2.2.2.2.2.2.2.2.2.2.2.2.2.1) = (length x.2.2.2.2.2.2.2.2.2.2.2.2.2.2.1)) then (if ((length y1.2.2.2.2.2.1) = (length y1.2.2.2.2.2.1)) then (if ((length x.2.2.2.2.2.2.2.2.2.2.2.2.2.1) = (length x.2.2.2.2.2.2.2.2.2.2.2.2.2.1)) then (some (Sum.inr (Sum.inl ((0 : Int), x.1, x.2.1, y1.2.2.2.2.2.2.1, y1.2.2.2.2.2.2.2.1, y1.2.2.2.2.2.2.2.2.1, y1.2.2.2.2.2.2.2.2.2.1, y1.2.2.1, y1.2.2.2.1, y1.2.2.2.2.1, y1.2.2.2.2.2.1, x.2.2.2.2.2.2.2.2.2.2.1, x.2.2.2.2.2.2.2.2.2.2.2.1, x.2.2.2.2.2.2.2.2.2.2.2.2.1, x.2.2.2.2.2.2.2.2.2.2.2.2.2.1, x.2.2.2.2.2.2.2.2.2.2.2.2.2.2.1, ()))))
 else none)
 else none)
 else none)
 else (if ((decide (y1.1 > (285 : Int))) = true) then (if ((length x.2.2.2.2.2.2.2.2.2.2.2.2.2.2.1) = (length x.2.2.2.2.2.2.2.2.2.2.2.2.2.2.1)) then (if ((length y1.2.2.2.2.2.1) = (length y1.2.2.2.2.2.1)) then (if ((length x.2.2.2.2.2.2.2.2.2.2.2.2.2.1) = (length x.2.2.2.2.2.2.2.2.2.2.2.2.2.1)) then (some (Sum.inr (Sum.inl ((4 : Int), x.1, x.2.1, y1.2.2.2.2.2.2.1, y1.2.2.2.2.2.2.2.1, y1.2.2.2.2.2.2.2.2.1, y1.2.2.2.2.2.2.2.2.2.1, y1.2.2.1, y1.2.2.2.1, y1.2.2.2.2.1, y1.2.2.2.2.2.1, x.2.2.2.2.2.2.2.2.2.2.1, x.2.2.2.2.2.2.2.2.2.2.2.1, x.2.2.2.2.2.2.2.2.2.2.2.2.1, x.2.2.2.2.2.2.2.2.2.2.2.2.2.1, x.2.2.2.2.2.2.2.2.2.2.2.2.2.2.1, ()))))
 else none)
 else none)
 else none)
 else (if ((decide (y1.1 < (256 : Int))) = true) then (if ((length x.2.2.2.2.2.2.2.2.2.2.2.2.2.2.1) = (length x.2.2.2.2.2.2.2.2.2.2.2.2.2.2.1)) then (Option.bind (f75 (y1.1, (0 : Int), (0 : Int), x.1, x.2.1, y1.2.2.2.2.2.2.1, y1.2.2.2.2.2.2.2.1, y1.2.2.2.2.2.2.2.2.1, y1.2.2.2.2.2.2.2.2.2.1, x.2.2.2.2.2.2.2.2.2.2.2.2.2.2.1, ())) (fun y2 => (if ((y2.1 != (0 : Int)) = true) then (if ((length y2.2.2.2.2.2.2.2.1) = (length y2.2.2.2.2.2.2.2.1)) then (if ((length y1.2.2.2.2.2.1) = (length y1.2.2.2.2.2.1)) then (if ((length x.2.2.2.2.2.2.2.2.2.2.2.2.2.1) = (length x.2.2.2.2.2.2.2.2.2.2.2.2.2.1)) then (some (Sum.inr (Sum.inl (y2.1, y2.2.1, y2.2.2.1, y2.2.2.2.1, y2.2.2.2.2.1, y2.2.2.2.2.2.1, y2.2.2.2.2.2.2.1, y1.2.2.1, y1.2.2.2.1, y1.2.2.2.2.1, y1.2.2.2.2.2.1, x.2.2.2.2.2.2.2.2.2.2.1, x.2.2.2.2.2.2.2.2.2.2.2.1, x.2.2.2.2.2.2.2.2.2.2.2.2.1, x.2.2.2.2.2.2.2.2.2.2.2.2.2.1, y2.2.2.2.2.2.2.2.1, ()))))
 else none)
 else none)
 else none)
 else (if ((length y2.2.2.2.2.2.2.2.1) = (length y2.2.2.2.2.2.2.2.1)) then (if ((length y1.2.2.2.2.2.1) = (length y1.2.2.2.2.2.1)) then (if ((length x.2.2.2.2.2.2.2.2.2.2.2.2.2.1) = (length x.2.2.2.2.2.2.2.2.2.2.2.2.2.1)) then (some (Sum.inl (y2.2.1, y2.2.2.1, y2.2.2.2.1, y2.2.2.2.2.1, y2.2.2.2.2.2.1, y2.2.2.2.2.2.2.1, y1.2.2.1, y1.2.2.2.1, y1.2.2.2.2.1, y1.2.2.2.2.2.1, x.2.2.2.2.2.2.2.2.2.2.1, x.2.2.2.2.2.2.2.2.2.2.2.1, x.2.2.2.2.2.2.2.2.2.2.2.2.1, x.2.2.2.2.2.2.2.2.2.2.2.2.2.1, y2.2.2.2.2.2.2.2.1, ())))
 else none)
 else none)
 else none))))
 else none)
 else (Option.bind (f87 (y1.1, ())) (fun y2 => (Option.bind (f72 (y2.2.1, y1.2.2.2.2.2.2.1, y1.2.2.2.2.2.2.2.1, y1.2.2.2.2.2.2.2.2.1, y1.2.2.2.2.2.2.2.2.2.1, ())) (fun y3 => (if ((y3.2.1 != (0 : Int)) = true) then (if ((length x.2.2.2.2.2.2.2.2.2.2.2.2.2.2.1) = (length x.2.2.2.2.2.2.2.2.2.2.2.2.2.2.1)) then (if ((length y1.2.2.2.2.2.1) = (length y1.2.2.2.2.2.1)) then (if ((length x.2.2.2.2.2.2.2.2.2.2.2.2.2.1) = (length x.2.2.2.2.2.2.2.2.2.2.2.2.2.1)) then (some (Sum.inr (Sum.inl (y3.2.1, x.1, x.2.1, y3.2.2.1, y3.2.2.2.1, y3.2.2.2.2.1, y3.2.2.2.2.2.1, y1.2.2.1, y1.2.2.2.1, y1.2.2.2.2.1, y1.2.2.2.2.2.1, x.2.2.2.2.2.2.2.2.2.2.1, x.2.2.2.2.2.2.2.2.2.2.2.1, x.2.2.2.2.2.2.2.2.2.2.2.2.1, x.2.2.2.2.2.2.2.2.2.2.2.2.2.1, x.2.2.2.2.2.2.2.2.2.2.2.2.2.2.1, ()))))
 else none)
 else none)
 else none)
 else (if ((length x.2.2.2.2.2.2.2.2.2.2.2.2.2.1) = (length x.2.2.2.2.2.2.2.2.2.2.2.2.2.1)) then (Option.bind (f86 (x.2.2.2.2.2.2.2.2.2.2.1, x.2.2.2.2.2.2.2.2.2.2.2.1, x.2.2.2.2.2.2.2.2.2.2.2.2.1, x.2.2.2.2.2.2.2.2.2.2.2.2.2.1, y3.2.2.1, y3.2.2.2.1, y3.2.2.2.2.1, y3.2.2.2.2.2.1, ())) (fun y4 => (if ((y4.2.1 != (0 : Int)) = true) then (if ((length x.2.2.2.2.2.2.2.2.2.2.2.2.2.2.1) = (length x.2.2.2.2.2.2.2.2.2.2.2.2.2.2.1)) then (if ((length y1.2.2.2.2.2.1) = (length y1.2.2.2.2.2.1)) then (if ((length y4.2.2.2.2.2.1) = (length y4.2.2.2.2.2.1)) then (some (Sum.inr (Sum.inl (y4.2.1, x.1, x.2.1, y4.2.2.2.2.2.2.1, y4.2.2.2.2.2.2.2.1, y4.2.2.2.2.2.2.2.2.1, y4.2.2.2.2.2.2.2.2.2.1, y1.2.2.1, y1.2.2.2.1, y1.2.2.2.2.1, y1.2.2.2.2.2.1, y4.2.2.1, y4.2.2.2.1, y4.2.2.2.2.1, y4.2.2.2.2.2.1, x.2.2.2.2.2.2.2.2.2.2.2.2.2.2.1, ()))))
 else none)
 else none)
 else none)
 else (if ((decide (y4.1 ≥ (30 : Int))) = true) then (if ((length x.2.2.2.2.2.2.2.2.2.2.2.2.2.2.1) = (length x.2.2.2.2.2.2.2.2.2.2.2.2.2.2.1)) then (if ((length y1.2.2.2.2.2.1) = (length y1.2.2.2.2.2.1)) then (if ((length y4.2.2.2.2.2.1) = (length y4.2.2.2.2.2.1)) then (some (Sum.inr (Sum.inl ((4 : Int), x.1, x.2.1, y4.2.2.2.2.2.2.1, y4.2.2.2.2.2.2.2.1, y4.2.2.2.2.2.2.2.2.1, y4.2.2.2.2.2.2.2.2.2.1, y1.2.2.1, y1.2.2.2.1, y1.2.2.2.2.1, y1.2.2.2.2.2.1, y4.2.2.1, y4.2.2.2.1, y4.2.2.2.2.1, y4.2.2.2.2.2.1, x.2.2.2.2.2.2.2.2.2.2.2.2.2.2.1, ()))))
 else none)
 else none)
 else none)
 else (Option.bind (f88 (y4.1, ())) (fun y5 => (Option.bind (f72 (y5.2.1, y4.2.2.2.2.2.2.1, y4.2.2.2.2.2.2.2.1, y4.2.2.2.2.2.2.2.2.1, y4.2.2.2.2.2.2.2.2.2.1, ())) (fun y6 => (if ((y6.2.1 != (0 : Int)) = true) then (if ((length x.2.2.2.2.2.2.2.2.2.2.2.2.2.2.1) = (length x.2.2.2.2.2.2.2.2.2.2.2.2.2.2.1)) then (if ((length y1.2.2.2.2.2.1) = (length y1.2.2.2.2.2.1)) then (if ((length y4.2.2.2.2.2.1) = (length y4.2.2.2.2.2.1)) then (some (Sum.inr (Sum.inl (y6.2.1, x.1, x.2.1, y6.2.2.1, y6.2.2.2.1, y6.2.2.2.2.1, y6.2.2.2.2.2.1, y1.2.2.1, y1.2.2.2.1, y1.2.2.2.2.1, y1.2.2.2.2.2.1, y4.2.2.1, y4.2.2.2.1, y4.2.2.2.2.1, y4.2.2.2.2.2.1, x.2.2.2.2.2.2.2.2.2.2.2.2.2.2.1, ()))))
 else none)
 else none)
 else none)
 else (if ((length x.2.2.2.2.2.2.2.2.2.2.2.2.2.2.1) = (length x.2.2.2.2.2.2.2.2.2.2.2.2.2.2.1)) then (Option.bind (f75 ((0 : Int), (IntKind.wrap .i64 (y2.1 + y3.1)), (IntKind.wrap .i64 (y5.1 + y6.1)), x.1, x.2.1, y6.2.2.1, y6.2.2.2.1, y6.2.2.2.2.1, y6.2.2.2.2.2.1, x.2.2.2.2.2.2.2.2.2.2.2.2.2.2.1, ())) (fun y7 => (if ((y7.1 != (0 : Int)) = true) then (if ((length y7.2.2.2.2.2.2.2.1) = (length y7.2.2.2.2.2.2.2.1)) then (if ((length y1.2.2.2.2.2.1) = (length y1.2.2.2.2.2.1)) then (if ((length y4.2.2.2.2.2.1) = (length y4.2.2.2.2.2.1)) then (some (Sum.inr (Sum.inl (y7.1, y7.2.1, y7.2.2.1, y7.2.2.2.1, y7.2.2.2.2.1, y7.2.2.2.2.2.1, y7.2.2.2.2.2.2.1, y1.2.2.1, y1.2.2.2.1, y1.2.2.2.2.1, y1.2.2.2.2.2.1, y4.2.2.1, y4.2.2.2.1, y4.2.2.2.2.1, y4.2.2.2.2.2.1, y7.2.2.2.2.2.2.2.1, ()))))
 else none)
 else none)
 else none)
 else (if ((length y7.2.2.2.2.2.2.2.1) = (length y7.2.2.2.2.2.2.2.1)) then (if ((length y1.2.2.2.2.2.1) = (length y1.2.2.2.2.2.1)) then (if ((length y4.2.2.2.2.2.1) = (length y4.2.2.2.2.2.1)) then (some (Sum.inl (y7.2.1, y7.2.2.1, y7.2.2.2.1, y7.2.2.2.2.1, y7.2.2.2.2.2.1, y7.2.2.2.2.2.2.1, y1.2.2.1, y1.2.2.2.1, y1.2.2.2.2.1, y1.2.2.2.2.2.1, y4.2.2.1, y4.2.2.2.1, y4.2.2.2.2.1, y4.2.2.2.2.2.1, y7.2.2.2.2.2.2.2.1, ())))
 else none)
 else none)
 else none))))
 else none))))))))))
 else none))))))))))))
 else none)
theorem b76_1_eq (x : g76_1.D) : b76_1 x = evF P (T88.orc _) Try.f76.ntmps fx76 (Code.at [tt, ff, ff] c76) (planAt 64 []) g76_1 x (injK fx76 ((.normal, g76_1) :: o76_1) some) := by kernel_rfl
noncomputable def l76_1 : g76_1.D → Option (outD o76_1) := loopN g76_1 o76_1 b76_1 18446744073709551616
theorem at76_1 : Code.at [tt, ff] c76 = .loop (Code.at [tt, ff, ff] c76) := by kernel_rfl
theorem s76_1_ok : SubOk P Try.f76.ntmps fx76 (Code.at [tt, ff] c76) ⟨g76_1, o76_1, l76_1⟩ := by
  rw [at76_1]
  exact loop_ok (sub_ok (g := g76_1) (outs := ((.normal, g76_1) :: o76_1)) (f := b76_1) (Table.ok T88_ok _) hmix (planAt_ok (P := P) (n := Try.f76.ntmps) (fx := fx76) (c := (Code.at [tt, ff, ff] c76)) (d := 64) (l := []) trivial) b76_1_eq) rfl _
noncomputable def f76 (x : gi76.D) : Option go76.D :=
  (if ((length x.2.2.2.2.2.2.1) = (length x.2.2.2.2.2.2.1)) then (if ((length x.2.2.2.2.2.2.2.2.2.2.1) = (length x.2.2.2.2.2.2.2.2.2.2.1)) then (if ((length x.2.2.2.2.2.2.2.2.2.2.2.2.2.2.1) = (length x.2.2.2.2.2.2.2.2.2.2.2.2.2.2.1)) then (Option.bind (l76_1 (x.1, x.2.1, x.2.2.1, x.2.2.2.1, x.2.2.2.2.1, x.2.2.2.2.2.1, x.2.2.2.2.2.2.2.1, x.2.2.2.2.2.2.2.2.1, x.2.2.2.2.2.2.2.2.2.1, x.2.2.2.2.2.2.2.2.2.2.1, x.2.2.2.2.2.2.2.2.2.2.2.1, x.2.2.2.2.2.2.2.2.2.2.2.2.1, x.2.2.2.2.2.2.2.2.2.2.2.2.2.1, x.2.2.2.2.2.2.2.2.2.2.2.2.2.2.1, x.2.2.2.2.2.2.1, ())) (Sum.elim (fun y1 => (if ((length y1.2.2.2.2.2.2.2.2.2.2.2.2.2.2.2.1) = (length y1.2.2.2.2.2.2.2.2.2.2.2.2.2.2.2.1)) then (if ((length y1.2.2.2.2.2.2.2.2.2.2.1) = (length y1.2.2.2.2.2.2.2.2.2.2.1)) then (if ((length y1.2.2.2.2.2.2.2.2.2.2.2.2.2.2.1) = (length y1.2.2.2.2.2.2.2.2.2.2.2.2.2.2.1)) then (some (y1.1, y1.2.1, y1.2.2.1, y1.2.2.2.1, y1.2.2.2.2.1, y1.2.2.2.2.2.1, y1.2.2.2.2.2.2.1, y1.2.2.2.2.2.2.2.1, y1.2.2.2.2.2.2.2.2.1, y1.2.2.2.2.2.2.2.2.2.1, y1.2.2.2.2.2.2.2.2.2.2.1, y1.2.2.2.2.2.2.2.2.2.2.2.1, y1.2.2.2.2.2.2.2.2.2.2.2.2.1, y1.2.2.2.2.2.2.2.2.2.2.2.2.2.1, y1.2.2.2.2.2.2.2.2.2.2.2.2.2.2.1, y1.2.2.2.2.2.2.2.2.2.2.2.2.2.2.2.1, ()))
 else none)
 else none)
 else none)) Empty.elim))
 else none)
 else none)
 else none)
theorem f76_eq (x : gi76.D) : f76 x = evF P (T88.orc _) Try.f76.ntmps fx76 c76 (planAt 64 [([tt, ff], ⟨g76_1, o76_1, l76_1⟩)]) gi76 x (fnK fx76 [go76]) := by kernel_rfl
theorem pf76 : AllSub P Try.f76.ntmps fx76 c76 [([tt, ff], ⟨g76_1, o76_1, l76_1⟩)] := And.intro s76_1_ok (trivial)
theorem qf76 : PlanOk P Try.f76.ntmps fx76 (planAt 64 [([tt, ff], ⟨g76_1, o76_1, l76_1⟩)]) c76 := planAt_ok pf76
theorem f76_ok : EntOk P 76 ⟨gi76, [go76], f76⟩ :=
  ent_ok (fn := Try.f76) (gi := gi76) (gos := [go76]) (f := f76) (c := c76) (fx := fx76) ⟨Try.func76, by kernel_rfl, rfl, by decide +kernel, rfl, rfl⟩ (by kernel_rfl) (Table.ok T88_ok _) hmix (qf76) f76_eq
noncomputable def T76 : Table := T88.add 76 [⟨gi76, [go76], f76⟩] []
theorem T76_ok : TableOk P T76 := Table.plus T88_ok (es := [⟨gi76, [go76], f76⟩]) ⟨f76_ok, trivial⟩ []

noncomputable def c53 : Code := Func.code Try.f53
abbrev gi53 : Sg := ⟨[0], [.lf (.ptr 0 0)], [some (.box true [.lf (.ptr 1 0), .lf (.gr (.pair (.int .i64) (.pair (.int .i64) (.int .i64))) 2), .lf (.int .i64), .lf (.int .i64)]), some (.box true [.lf (.sl (.int .u8)), .lf (.int .i64), .lf (.int .i64), .lf (.int .i64)]), some (.arr true (.pair (.int .i64) (.pair (.int .i64) (.int .i64))))]⟩
abbrev go53 : Sg := ⟨[2], [.lf (.int .i64)], [some (.box true [.lf (.ptr 1 0), .lf (.gr (.pair (.int .i64) (.pair (.int .i64) (.int .i64))) 3), .lf (.int .i64), .lf (.int .i64)]), some (.box true [.lf (.sl (.int .u8)), .lf (.int .i64), .lf (.int .i64), .lf (.int .i64)]), none, some (.arr true (.pair (.int .i64) (.pair (.int .i64) (.int .i64))))]⟩
def fx53 : List Bool := [tt, tt, ff]
noncomputable def f53 (x : gi53.D) : Option go53.D :=
  (Option.bind (f33 ()) (fun y1 => (Option.bind (f32 ((take (length y1.1) (drop 0 y1.1)), ())) (Sum.elim (fun y2 => (if ((y2.1 != (0 : Int)) = true) then (if ((length x.2.2.2.2.2.2.1) = (length x.2.2.2.2.2.2.1)) then (some (y2.1, x.1, x.2.1, x.2.2.1, x.2.2.2.1, x.2.2.2.2.1, x.2.2.2.2.2.1, x.2.2.2.2.2.2.1, ()))
 else none)
 else (Option.bind (f34 ((take 1 (drop 0 (List.set (replicate 1 (0 : Int)) 0 (5 : Int)))), (32 : Int), ())) (fun y3 => (Option.bind (f32 ((take (length y3.1) (drop 0 y3.1)), ())) (Sum.elim (fun y4 => (if ((y4.1 != (0 : Int)) = true) then (if ((length x.2.2.2.2.2.2.1) = (length x.2.2.2.2.2.2.1)) then (some (y4.1, x.1, x.2.1, x.2.2.1, x.2.2.2.1, x.2.2.2.2.1, x.2.2.2.2.2.1, x.2.2.2.2.2.2.1, ()))
 else none)
 else none)) (fun y4 => (if ((y4.1 != (0 : Int)) = true) then (if ((length x.2.2.2.2.2.2.1) = (length x.2.2.2.2.2.2.1)) then (some (y4.1, x.1, x.2.1, x.2.2.1, x.2.2.2.1, x.2.2.2.2.1, x.2.2.2.2.2.1, x.2.2.2.2.2.2.1, ()))
 else none)
 else none)))))))) (fun y2 => (if ((y2.1 != (0 : Int)) = true) then (if ((length x.2.2.2.2.2.2.1) = (length x.2.2.2.2.2.2.1)) then (some (y2.1, x.1, x.2.1, x.2.2.1, x.2.2.2.1, x.2.2.2.2.1, x.2.2.2.2.2.1, x.2.2.2.2.2.2.1, ()))
 else none)
 else (Option.bind (f34 ((take 1 (drop 0 (List.set (replicate 1 (0 : Int)) 0 (5 : Int)))), (32 : Int), ())) (fun y3 => (Option.bind (f32 ((take (length y3.1) (drop 0 y3.1)), ())) (Sum.elim (fun y4 => (if ((y4.1 != (0 : Int)) = true) then (if ((length x.2.2.2.2.2.2.1) = (length x.2.2.2.2.2.2.1)) then (some (y4.1, x.1, x.2.1, x.2.2.1, x.2.2.2.1, x.2.2.2.2.1, x.2.2.2.2.2.1, x.2.2.2.2.2.2.1, ()))
 else none)
 else none)) (fun y4 => (if ((y4.1 != (0 : Int)) = true) then (if ((length x.2.2.2.2.2.2.1) = (length x.2.2.2.2.2.2.1)) then (some (y4.1, x.1, x.2.1, x.2.2.1, x.2.2.2.1, x.2.2.2.2.1, x.2.2.2.2.2.1, x.2.2.2.2.2.2.1, ()))
 else none)
 else (if ((length x.2.2.2.2.2.2.1) = (length x.2.2.2.2.2.2.1)) then (if ((length y2.2.2.2.2.1) = (length y2.2.2.2.2.1)) then (if ((length y4.2.2.2.2.1) = (length y4.2.2.2.2.1)) then (Option.bind (f76 (x.1, x.2.1, x.2.2.1, x.2.2.2.1, x.2.2.2.2.1, x.2.2.2.2.2.1, x.2.2.2.2.2.2.1, y2.2.1, y2.2.2.1, y2.2.2.2.1, y2.2.2.2.2.1, y4.2.1, y4.2.2.1, y4.2.2.2.1, y4.2.2.2.2.1, ())) (fun y5 => (if ((length y5.2.2.2.2.2.2.2.2.2.2.2.2.2.2.2.1) = (length y5.2.2.2.2.2.2.2.2.2.2.2.2.2.2.2.1)) then (some (y5.1, y5.2.1, y5.2.2.1, y5.2.2.2.1, y5.2.2.2.2.1, y5.2.2.2.2.2.1, y5.2.2.2.2.2.2.1, y5.2.2.2.2.2.2.2.2.2.2.2.2.2.2.2.1, ()))
 else none)))
 else none)
 else none)
 else none)))))))))))))
theorem f53_eq (x : gi53.D) : f53 x = evF P (T76.orc _) Try.f53.ntmps fx53 c53 (planAt 64 []) gi53 x (fnK fx53 [go53]) := by kernel_rfl
theorem f53_ok : EntOk P 53 ⟨gi53, [go53], f53⟩ :=
  ent_ok (fn := Try.f53) (gi := gi53) (gos := [go53]) (f := f53) (c := c53) (fx := fx53) ⟨Try.func53, by kernel_rfl, rfl, by decide +kernel, rfl, rfl⟩ (by kernel_rfl) (Table.ok T76_ok _) hmix (planAt_ok (P := P) (n := Try.f53.ntmps) (fx := fx53) (c := c53) (d := 64) (l := []) trivial) f53_eq
noncomputable def T53 : Table := T76.add 53 [⟨gi53, [go53], f53⟩] []
theorem T53_ok : TableOk P T53 := Table.plus T76_ok (es := [⟨gi53, [go53], f53⟩]) ⟨f53_ok, trivial⟩ []

noncomputable def c89 : Code := Func.code Try.f89
abbrev gi89 : Sg := ⟨[0], [.lf (.int .i64)], []⟩
abbrev go89 : Sg := ⟨[2, 3, 4], [.lf (.int .i64), .lf (.int .i64), .lf .bool], []⟩
def fx89 : List Bool := []
noncomputable def f89 (x : gi89.D) : Option go89.D :=
  (if ((x.1 == (16 : Int)) = true) then (some ((2 : Int), (3 : Int), true, ()))
 else (if ((x.1 == (17 : Int)) = true) then (some ((3 : Int), (3 : Int), false, ()))
 else (some ((7 : Int), (11 : Int), false, ()))))
theorem f89_eq (x : gi89.D) : f89 x = evF P (T53.orc _) Try.f89.ntmps fx89 c89 (planAt 64 []) gi89 x (fnK fx89 [go89]) := by kernel_rfl
theorem f89_ok : EntOk P 89 ⟨gi89, [go89], f89⟩ :=
  ent_ok (fn := Try.f89) (gi := gi89) (gos := [go89]) (f := f89) (c := c89) (fx := fx89) ⟨Try.func89, by kernel_rfl, rfl, by decide +kernel, rfl, rfl⟩ (by kernel_rfl) (Table.ok T53_ok _) hmix (planAt_ok (P := P) (n := Try.f89.ntmps) (fx := fx89) (c := c89) (d := 64) (l := []) trivial) f89_eq
noncomputable def T89 : Table := T53.add 89 [⟨gi89, [go89], f89⟩] []
theorem T89_ok : TableOk P T89 := Table.plus T53_ok (es := [⟨gi89, [go89], f89⟩]) ⟨f89_ok, trivial⟩ []

noncomputable def c77 : Code := Func.code Try.f77
abbrev gi77 : Sg := ⟨[0, 1, 2], [.lf (.ptr 0 0), .lf (.ptr 3 0), .lf (.int .i64)], [some (.box true [.lf (.ptr 1 0), .lf (.gr (.pair (.int .i64) (.pair (.int .i64) (.int .i64))) 2), .lf (.int .i64), .lf (.int .i64)]), some (.box true [.lf (.sl (.int .u8)), .lf (.int .i64), .lf (.int .i64), .lf (.int .i64)]), some (.arr true (.pair (.int .i64) (.pair (.int .i64) (.int .i64)))), some (.box true [.many (.int .i64) 16, .lf (.sl (.int .i64)), .lf (.sl (.int .i64)), .lf (.gr (.int .i64) 4)]), some (.arr true (.int .i64))]⟩
abbrev go77 : Sg := ⟨[6, 7], [.lf (.sl (.int .i64)), .lf (.int .i64)], [some (.box true [.lf (.ptr 1 0), .lf (.gr (.pair (.int .i64) (.pair (.int .i64) (.int .i64))) 2), .lf (.int .i64), .lf (.int .i64)]), some (.box true [.lf (.sl (.int .u8)), .lf (.int .i64), .lf (.int .i64), .lf (.int .i64)]), some (.arr true (.pair (.int .i64) (.pair (.int .i64) (.int .i64)))), some (.box true [.many (.int .i64) 16, .lf (.sl (.int .i64)), .lf (.sl (.int .i64)), .lf (.gr (.int .i64) 4)]), some (.arr true (.int .i64))]⟩
def fx77 : List Bool := [tt, tt, tt, tt, tt]
abbrev g77_2 : Sg := ⟨[0, 1, 2, 8, 11, 12, 13, 14], [.lf (.ptr 0 0), .lf (.ptr 3 0), .lf (.int .i64), .lf (.gr (.int .i64) 5), .lf (.int .i64), .lf (.int .i64), .lf .bool, .lf (.int .i64)], [some (.box true [.lf (.ptr 1 0), .lf (.gr (.pair (.int .i64) (.pair (.int .i64) (.int .i64))) 2), .lf (.int .i64), .lf (.int .i64)]), some (.box true [.lf (.sl (.int .u8)), .lf (.int .i64), .lf (.int .i64), .lf (.int .i64)]), some (.arr true (.pair (.int .i64) (.pair (.int .i64) (.int .i64)))), some (.box true [.many (.int .i64) 16, .lf (.sl (.int .i64)), .lf (.sl (.int .i64)), .lf (.gr (.int .i64) 4)]), some (.arr true (.int .i64)), some (.arr true (.int .i64))]⟩
abbrev o77_2 : Outs := [(.normal, ⟨[0, 1, 2, 8, 11, 12, 13, 14, 51], [.lf (.ptr 0 0), .lf (.ptr 3 0), .lf (.int .i64), .lf (.gr (.int .i64) 5), .lf (.int .i64), .lf (.int .i64), .lf .bool, .lf (.int .i64), .lf .bool], [some (.box true [.lf (.ptr 1 0), .lf (.gr (.pair (.int .i64) (.pair (.int .i64) (.int .i64))) 2), .lf (.int .i64), .lf (.int .i64)]), some (.box true [.lf (.sl (.int .u8)), .lf (.int .i64), .lf (.int .i64), .lf (.int .i64)]), some (.arr true (.pair (.int .i64) (.pair (.int .i64) (.int .i64)))), some (.box true [.many (.int .i64) 16, .lf (.sl (.int .i64)), .lf (.sl (.int .i64)), .lf (.gr (.int .i64) 4)]), some (.arr true (.int .i64)), some (.arr true (.int .i64))]⟩)]
noncomputable def b77_2 (x : g77_2.D) : Option (outD o77_2) :=
  (if (x.2.2.2.1 = true) then (if ((length x.2.2.2.2.2.2.2.2.2.2.2.2.2.2.2.2.1) = (length x.2.2.2.2.2.2.2.2.2.2.2.2.2.2.2.2.1)) then (if ((length x.2.2.2.2.2.2.2.2.2.2.2.1) = (length x.2.2.2.2.2.2.2.2.2.2.2.1)) then (if ((length x.2.2.2.2.2.2.2.2.2.2.2.2.2.2.2.1) = (length x.2.2.2.2.2.2.2.2.2.2.2.2.2.2.2.1)) then (some (Sum.inl (x.1, x.2.1, x.2.2.1, x.2.2.2.1, x.2.2.2.2.1, ((((length x.2.2.2.2.2.2.2.2.2.2.2.2.2.2.2.2.1) : Nat) : Int) == (0 : Int)), x.2.2.2.2.2.1, x.2.2.2.2.2.2.1, x.2.2.2.2.2.2.2.1, x.2.2.2.2.2.2.2.2.1, x.2.2.2.2.2.2.2.2.2.1, x.2.2.2.2.2.2.2.2.2.2.1, x.2.2.2.2.2.2.2.2.2.2.2.1, x.2.2.2.2.2.2.2.2.2.2.2.2.1, x.2.2.2.2.2.2.2.2.2.2.2.2.2.1, x.2.2.2.2.2.2.2.2.2.2.2.2.2.2.1, x.2.2.2.2.2.2.2.2.2.2.2.2.2.2.2.1, x.2.2.2.2.2.2.2.2.2.2.2.2.2.2.2.2.1, ())))
 else none)
 else none)
 else none)
 else (if ((length x.2.2.2.2.2.2.2.2.2.2.2.2.2.2.2.2.1) = (length x.2.2.2.2.2.2.2.2.2.2.2.2.2.2.2.2.1)) then (if ((length x.2.2.2.2.2.2.2.2.2.2.2.1) = (length x.2.2.2.2.2.2.2.2.2.2.2.1)) then (if ((length x.2.2.2.2.2.2.2.2.2.2.2.2.2.2.2.1) = (length x.2.2.2.2.2.2.2.2.2.2.2.2.2.2.2.1)) then (some (Sum.inl (x.1, x.2.1, x.2.2.1, x.2.2.2.1, x.2.2.2.2.1, false, x.2.2.2.2.2.1, x.2.2.2.2.2.2.1, x.2.2.2.2.2.2.2.1, x.2.2.2.2.2.2.2.2.1, x.2.2.2.2.2.2.2.2.2.1, x.2.2.2.2.2.2.2.2.2.2.1, x.2.2.2.2.2.2.2.2.2.2.2.1, x.2.2.2.2.2.2.2.2.2.2.2.2.1, x.2.2.2.2.2.2.2.2.2.2.2.2.2.1, x.2.2.2.2.2.2.2.2.2.2.2.2.2.2.1, x.2.2.2.2.2.2.2.2.2.2.2.2.2.2.2.1, x.2.2.2.2.2.2.2.2.2.2.2.2.2.2.2.2.1, ())))
 else none)
 else none)
 else none))
theorem b77_2_eq (x : g77_2.D) : b77_2 x = evF P (T89.orc _) Try.f77.ntmps fx77 (Code.at [tt, ff, tt, tt, ff, ff, ff, tt, ff, tt, tt, tt, tt, ff, ff] c77) (planAt 64 []) g77_2 x (injK fx77 o77_2 some) := by kernel_rfl
theorem s77_2_ok : SubOk P Try.f77.ntmps fx77 (Code.at [tt, ff, tt, tt, ff, ff, ff, tt, ff, tt, tt, tt, tt, ff, ff] c77) ⟨g77_2, o77_2, b77_2⟩ :=
  sub_ok (g := g77_2) (outs := o77_2) (f := b77_2) (Table.ok T89_ok _) hmix (planAt_ok (P := P) (n := Try.f77.ntmps) (fx := fx77) (c := (Code.at [tt, ff, tt, tt, ff, ff, ff, tt, ff, tt, tt, tt, tt, ff, ff] c77)) (d := 64) (l := []) trivial) b77_2_eq
abbrev g77_3 : Sg := ⟨[0, 1, 2, 8, 11, 12, 13, 14], [.lf (.ptr 0 0), .lf (.ptr 3 0), .lf (.int .i64), .lf (.gr (.int .i64) 5), .lf (.int .i64), .lf (.int .i64), .lf .bool, .lf (.int .i64)], [some (.box true [.lf (.ptr 1 0), .lf (.gr (.pair (.int .i64) (.pair (.int .i64) (.int .i64))) 2), .lf (.int .i64), .lf (.int .i64)]), some (.box true [.lf (.sl (.int .u8)), .lf (.int .i64), .lf (.int .i64), .lf (.int .i64)]), some (.arr true (.pair (.int .i64) (.pair (.int .i64) (.int .i64)))), some (.box true [.many (.int .i64) 16, .lf (.sl (.int .i64)), .lf (.sl (.int .i64)), .lf (.gr (.int .i64) 4)]), some (.arr true (.int .i64)), some (.arr true (.int .i64))]⟩
abbrev o77_3 : Outs := [(.normal, ⟨[0, 1, 2, 8, 11, 12, 14], [.lf (.ptr 0 0), .lf (.ptr 3 0), .lf (.int .i64), .lf (.gr (.int .i64) 5), .lf (.int .i64), .lf (.int .i64), .lf (.int .i64)], [some (.box true [.lf (.ptr 1 0), .lf (.gr (.pair (.int .i64) (.pair (.int .i64) (.int .i64))) 2), .lf (.int .i64), .lf (.int .i64)]), some (.box true [.lf (.sl (.int .u8)), .lf (.int .i64), .lf (.int .i64), .lf (.int .i64)]), some (.arr true (.pair (.int .i64) (.pair (.int .i64) (.int .i64)))), some (.box true [.many (.int .i64) 16, .lf (.sl (.int .i64)), .lf (.sl (.int .i64)), .lf (.gr (.int .i64) 4)]), some (.arr true (.int .i64)), some (.arr true (.int .i64))]⟩)]
noncomputable def b77_3 (x : g77_3.D) : Option (outD o77_3) :=
  (if (x.2.2.2.1 = true) then (if ((0 : Int) ≤ (IntKind.wrap .i64 ((((length x.2.2.2.2.2.2.2.2.2.2.2.2.2.2.2.2.1) : Nat) : Int) - (1 : Int)))) then (if ((IntKind.wrap .i64 ((((length x.2.2.2.2.2.2.2.2.2.2.2.2.2.2.2.2.1) : Nat) : Int) - (1 : Int))) < (((length x.2.2.2.2.2.2.2.2.2.2.2.2.2.2.2.2.1) : Nat) : Int)) then (if ((length x.2.2.2.2.2.2.2.2.2.2.2.2.2.2.2.2.1) = (length x.2.2.2.2.2.2.2.2.2.2.2.2.2.2.2.2.1)) then (if ((length x.2.2.2.2.2.2.2.2.2.2.2.1) = (length x.2.2.2.2.2.2.2.2.2.2.2.1)) then (if ((length x.2.2.2.2.2.2.2.2.2.2.2.2.2.2.2.1) = (length x.2.2.2.2.2.2.2.2.2.2.2.2.2.2.2.1)) then (some (Sum.inl (x.1, x.2.1, x.2.2.1, (getD x.2.2.2.2.2.2.2.2.2.2.2.2.2.2.2.2.1 (0 + (Int.toNat (IntKind.wrap .i64 ((((length x.2.2.2.2.2.2.2.2.2.2.2.2.2.2.2.2.1) : Nat) : Int) - (1 : Int))))) (0 : Int)), x.2.2.2.2.2.1, x.2.2.2.2.2.2.1, x.2.2.2.2.2.2.2.1, x.2.2.2.2.2.2.2.2.1, x.2.2.2.2.2.2.2.2.2.1, x.2.2.2.2.2.2.2.2.2.2.1, x.2.2.2.2.2.2.2.2.2.2.2.1, x.2.2.2.2.2.2.2.2.2.2.2.2.1, x.2.2.2.2.2.2.2.2.2.2.2.2.2.1, x.2.2.2.2.2.2.2.2.2.2.2.2.2.2.1, x.2.2.2.2.2.2.2.2.2.2.2.2.2.2.2.1, x.2.2.2.2.2.2.2.2.2.2.2.2.2.2.2.2.1, ())))
 else none)
 else none)
 else none)
 else none)
 else none)
 else (if ((length x.2.2.2.2.2.2.2.2.2.2.2.2.2.2.2.2.1) = (length x.2.2.2.2.2.2.2.2.2.2.2.2.2.2.2.2.1)) then (if ((length x.2.2.2.2.2.2.2.2.2.2.2.1) = (length x.2.2.2.2.2.2.2.2.2.2.2.1)) then (if ((length x.2.2.2.2.2.2.2.2.2.2.2.2.2.2.2.1) = (length x.2.2.2.2.2.2.2.2.2.2.2.2.2.2.2.1)) then (some (Sum.inl (x.1, x.2.1, x.2.2.1, x.2.2.2.2.1, x.2.2.2.2.2.1, x.2.2.2.2.2.2.1, x.2.2.2.2.2.2.2.1, x.2.2.2.2.2.2.2.2.1, x.2.2.2.2.2.2.2.2.2.1, x.2.2.2.2.2.2.2.2.2.2.1, x.2.2.2.2.2.2.2.2.2.2.2.1, x.2.2.2.2.2.2.2.2.2.2.2.2.1, x.2.2.2.2.2.2.2.2.2.2.2.2.2.1, x.2.2.2.2.2.2.2.2.2.2.2.2.2.2.1, x.2.2.2.2.2.2.2.2.2.2.2.2.2.2.2.1, x.2.2.2.2.2.2.2.2.2.2.2.2.2.2.2.2.1, ())))
 else none)
 else none)
 else none))
theorem b77_3_eq (x : g77_3.D) : b77_3 x = evF P (T89.orc _) Try.f77.ntmps fx77 (Code.at [tt, ff, tt, tt, ff, ff, ff, tt, ff, tt, tt, tt, tt, tt, ff] c77) (planAt 64 []) g77_3 x (injK fx77 o77_3 some) := by kernel_rfl
theorem s77_3_ok : SubOk P Try.f77.ntmps fx77 (Code.at [tt, ff, tt, tt, ff, ff, ff, tt, ff, tt, tt, tt, tt, tt, ff] c77) ⟨g77_3, o77_3, b77_3⟩ :=
  sub_ok (g := g77_3) (outs := o77_3) (f := b77_3) (Table.ok T89_ok _) hmix (planAt_ok (P := P) (n := Try.f77.ntmps) (fx := fx77) (c := (Code.at [tt, ff, tt, tt, ff, ff, ff, tt, ff, tt, tt, tt, tt, tt, ff] c77)) (d := 64) (l := []) trivial) b77_3_eq
abbrev g77_1 : Sg := ⟨[0, 1, 2, 8], [.lf (.ptr 0 0), .lf (.ptr 3 0), .lf (.int .i64), .lf (.gr (.int .i64) 5)], [some (.box true [.lf (.ptr 1 0), .lf (.gr (.pair (.int .i64) (.pair (.int .i64) (.int .i64))) 2), .lf (.int .i64), .lf (.int .i64)]), some (.box true [.lf (.sl (.int .u8)), .lf (.int .i64), .lf (.int .i64), .lf (.int .i64)]), some (.arr true (.pair (.int .i64) (.pair (.int .i64) (.int .i64)))), some (.box true [.many (.int .i64) 16, .lf (.sl (.int .i64)), .lf (.sl (.int .i64)), .lf (.gr (.int .i64) 4)]), some (.arr true (.int .i64)), some (.arr true (.int .i64))]⟩
abbrev o77_1 : Outs := [(.exit 0, ⟨[8], [.lf (.gr (.int .i64) 5)], [some (.box true [.lf (.ptr 1 0), .lf (.gr (.pair (.int .i64) (.pair (.int .i64) (.int .i64))) 2), .lf (.int .i64), .lf (.int .i64)]), some (.box true [.lf (.sl (.int .u8)), .lf (.int .i64), .lf (.int .i64), .lf (.int .i64)]), some (.arr true (.pair (.int .i64) (.pair (.int .i64) (.int .i64)))), some (.box true [.many (.int .i64) 16, .lf (.sl (.int .i64)), .lf (.sl (.int .i64)), .lf (.gr (.int .i64) 4)]), some (.arr true (.int .i64)), some (.arr true (.int .i64))]⟩), (.ret, ⟨[6, 7], [.lf (.sl (.int .i64)), .lf (.int .i64)], [some (.box true [.lf (.ptr 1 0), .lf (.gr (.pair (.int .i64) (.pair (.int .i64) (.int .i64))) 2), .lf (.int .i64), .lf (.int .i64)]), some (.box true [.lf (.sl (.int .u8)), .lf (.int .i64), .lf (.int .i64), .lf (.int .i64)]), some (.arr true (.pair (.int .i64) (.pair (.int .i64) (.int .i64)))), some (.box true [.many (.int .i64) 16, .lf (.sl (.int .i64)), .lf (.sl (.int .i64)), .lf (.gr (.int .i64) 4)]), some (.arr true (.int .i64))]⟩)]
noncomputable def b77_1 (x : g77_1.D) : Option (outD ((.normal, g77_1) :: o77_1)) :=
  (if ((decide ((((length x.2.2.2.2.2.2.2.2.2.2.2.2.1) : Nat) : Int) < x.1)) = true) then (if ((length x.2.2.2.2.2.2.2.2.2.2.2.1) = (length x.2.2.2.2.2.2.2.2.2.2.2.1)) then (Option.bind (f86 (x.2.2.2.2.2.2.2.2.1, x.2.2.2.2.2.2.2.2.2.1, x.2.2.2.2.2.2.2.2.2.2.1, x.2.2.2.2.2.2.2.2.2.2.2.1, x.2.2.2.1, x.2.2.2.2.1, x.2.2.2.2.2.1, x.2.2.2.2.2.2.1, ())) (fun y1 => (if ((y1.2.1 != (0 : Int)) = true) then (if ((length x.2.2.2.2.2.2.2.1) = (length x.2.2.2.2.2.2.2.1)) then (if ((length y1.2.2.2.2.2.1) = (length y1.2.2.2.2.2.1)) then (some (Sum.inr (Sum.inr (Sum.inl ([], y1.2.1, x.2.1, x.2.2.1, y1.2.2.2.2.2.2.1, y1.2.2.2.2.2.2.2.1, y1.2.2.2.2.2.2.2.2.1, y1.2.2.2.2.2.2.2.2.2.1, x.2.2.2.2.2.2.2.1, y1.2.2.1, y1.2.2.2.1, y1.2.2.2.2.1, y1.2.2.2.2.2.1, ())))))
 else none)
 else none)
 else (if ((decide (y1.1 < (16 : Int))) = true) then (if (((length (take (length x.2.2.2.2.2.2.2.2.2.2.2.2.1) (drop 0 x.2.2.2.2.2.2.2.2.2.2.2.2.1))) + (length (take 1 (drop 0 (List.set (replicate 1 (0 : Int)) 0 y1.1))))) ≤ 17592186044416) then (if ((length ((take (length x.2.2.2.2.2.2.2.2.2.2.2.2.1) (drop 0 x.2.2.2.2.2.2.2.2.2.2.2.2.1)) ++ (take 1 (drop 0 (List.set (replicate 1 (0 : Int)) 0 y1.1))))) = (length ((take (length x.2.2.2.2.2.2.2.2.2.2.2.2.1) (drop 0 x.2.2.2.2.2.2.2.2.2.2.2.2.1)) ++ (take 1 (drop 0 (List.set (replicate 1 (0 : Int)) 0 y1.1)))))) then (if ((length x.2.2.2.2.2.2.2.1) = (length x.2.2.2.2.2.2.2.1)) then (if ((length y1.2.2.2.2.2.1) = (length y1.2.2.2.2.2.1)) then (some (Sum.inl (x.1, x.2.1, x.2.2.1, y1.2.2.2.2.2.2.1, y1.2.2.2.2.2.2.2.1, y1.2.2.2.2.2.2.2.2.1, y1.2.2.2.2.2.2.2.2.2.1, x.2.2.2.2.2.2.2.1, y1.2.2.1, y1.2.2.2.1, y1.2.2.2.2.1, y1.2.2.2.2.2.1, ((take (length x.2.2.2.2.2.2.2.2.2.2.2.2.1) (drop 0 x.2.2.2.2.2.2.2.2.2.2.2.2.1)) ++ (take 1 (drop 0 (List.set (replicate 1 (0 : Int)) 0 y1.1)))), ())))
 else none)
 else none)
 else none)
 else none)
 else (Option.bind (f89 (y1.1, ())) (fun y2 => (if ((length x.2.2.2.2.2.2.2.2.2.2.2.2.1) = (length x.2.2.2.2.2.2.2.2.2.2.2.2.1)) then (if ((length x.2.2.2.2.2.2.2.1) = (length x.2.2.2.2.2.2.2.1)) then (if ((length y1.2.2.2.2.2.1) = (length y1.2.2.2.2.2.1)) then (Option.bind (b77_2 (x.1, y2.1, y2.2.1, y2.2.2.1, (0 : Int), x.2.1, x.2.2.1, y1.2.2.2.2.2.2.1, y1.2.2.2.2.2.2.2.1, y1.2.2.2.2.2.2.2.2.1, y1.2.2.2.2.2.2.2.2.2.1, x.2.2.2.2.2.2.2.1, y1.2.2.1, y1.2.2.2.1, y1.2.2.2.2.1, y1.2.2.2.2.2.1, x.2.2.2.2.2.2.2.2.2.2.2.2.1, ())) (Sum.elim (fun y3 => (if (y3.2.2.2.2.2.1 = true) then (if ((length y3.2.2.2.2.2.2.2.2.2.2.2.2.1) = (length y3.2.2.2.2.2.2.2.2.2.2.2.2.1)) then (if ((length y3.2.2.2.2.2.2.2.2.2.2.2.2.2.2.2.2.1) = (length y3.2.2.2.2.2.2.2.2.2.2.2.2.2.2.2.2.1)) then (some (Sum.inr (Sum.inr (Sum.inl ([], (4 : Int), y3.2.2.2.2.2.2.1, y3.2.2.2.2.2.2.2.1, y3.2.2.2.2.2.2.2.2.1, y3.2.2.2.2.2.2.2.2.2.1, y3.2.2.2.2.2.2.2.2.2.2.1, y3.2.2.2.2.2.2.2.2.2.2.2.1, y3.2.2.2.2.2.2.2.2.2.2.2.2.1, y3.2.2.2.2.2.2.2.2.2.2.2.2.2.1, y3.2.2.2.2.2.2.2.2.2.2.2.2.2.2.1, y3.2.2.2.2.2.2.2.2.2.2.2.2.2.2.2.1, y3.2.2.2.2.2.2.2.2.2.2.2.2.2.2.2.2.1, ())))))
 else none)
 else none)
 else (if ((length y3.2.2.2.2.2.2.2.2.2.2.2.2.2.2.2.2.2.1) = (length y3.2.2.2.2.2.2.2.2.2.2.2.2.2.2.2.2.2.1)) then (if ((length y3.2.2.2.2.2.2.2.2.2.2.2.2.1) = (length y3.2.2.2.2.2.2.2.2.2.2.2.2.1)) then (if ((length y3.2.2.2.2.2.2.2.2.2.2.2.2.2.2.2.2.1) = (length y3.2.2.2.2.2.2.2.2.2.2.2.2.2.2.2.2.1)) then (Option.bind (b77_3 (y3.1, y3.2.1, y3.2.2.1, y3.2.2.2.1, y3.2.2.2.2.1, y3.2.2.2.2.2.2.1, y3.2.2.2.2.2.2.2.1, y3.2.2.2.2.2.2.2.2.1, y3.2.2.2.2.2.2.2.2.2.1, y3.2.2.2.2.2.2.2.2.2.2.1, y3.2.2.2.2.2.2.2.2.2.2.2.1, y3.2.2.2.2.2.2.2.2.2.2.2.2.1, y3.2.2.2.2.2.2.2.2.2.2.2.2.2.1, y3.2.2.2.2.2.2.2.2.2.2.2.2.2.2.1, y3.2.2.2.2.2.2.2.2.2.2.2.2.2.2.2.1, y3.2.2.2.2.2.2.2.2.2.2.2.2.2.2.2.2.1, y3.2.2.2.2.2.2.2.2.2.2.2.2.2.2.2.2.2.1, ())) (Sum.elim (fun y4 => (Option.bind (f72 (y4.2.1, y4.2.2.2.2.2.2.1, y4.2.2.2.2.2.2.2.1, y4.2.2.2.2.2.2.2.2.1, y4.2.2.2.2.2.2.2.2.2.1, ())) (fun y5 => (if ((y5.2.1 != (0 : Int)) = true) then (if ((length y4.2.2.2.2.2.2.2.2.2.2.1) = (length y4.2.2.2.2.2.2.2.2.2.2.1)) then (if ((length y4.2.2.2.2.2.2.2.2.2.2.2.2.2.2.1) = (length y4.2.2.2.2.2.2.2.2.2.2.2.2.2.2.1)) then (some (Sum.inr (Sum.inr (Sum.inl ([], y5.2.1, y4.2.2.2.2.1, y4.2.2.2.2.2.1, y5.2.2.1, y5.2.2.2.1, y5.2.2.2.2.1, y5.2.2.2.2.2.1, y4.2.2.2.2.2.2.2.2.2.2.1, y4.2.2.2.2.2.2.2.2.2.2.2.1, y4.2.2.2.2.2.2.2.2.2.2.2.2.1, y4.2.2.2.2.2.2.2.2.2.2.2.2.2.1, y4.2.2.2.2.2.2.2.2.2.2.2.2.2.2.1, ())))))
 else none)
 else none)
 else (if ((decide ((IntKind.wrap .i64 ((IntKind.wrap .i64 ((((length y4.2.2.2.2.2.2.2.2.2.2.2.2.2.2.2.1) : Nat) : Int) + y4.2.2.1)) + y5.1)) > y4.1)) = true) then (if ((length y4.2.2.2.2.2.2.2.2.2.2.1) = (length y4.2.2.2.2.2.2.2.2.2.2.1)) then (if ((length y4.2.2.2.2.2.2.2.2.2.2.2.2.2.2.1) = (length y4.2.2.2.2.2.2.2.2.2.2.2.2.2.2.1)) then (some (Sum.inr (Sum.inr (Sum.inl ([], (4 : Int), y4.2.2.2.2.1, y4.2.2.2.2.2.1, y5.2.2.1, y5.2.2.2.1, y5.2.2.2.2.1, y5.2.2.2.2.2.1, y4.2.2.2.2.2.2.2.2.2.2.1, y4.2.2.2.2.2.2.2.2.2.2.2.1, y4.2.2.2.2.2.2.2.2.2.2.2.2.1, y4.2.2.2.2.2.2.2.2.2.2.2.2.2.1, y4.2.2.2.2.2.2.2.2.2.2.2.2.2.2.1, ())))))
 else none)
 else none)
 else (Option.bind (f34 ((take 1 (drop 0 (List.set (replicate 1 (0 : Int)) 0 y4.2.2.2.1))), (IntKind.wrap .i64 (y4.2.2.1 + y5.1)), ())) (fun y6 => (if (((length (take (length y4.2.2.2.2.2.2.2.2.2.2.2.2.2.2.2.1) (drop 0 y4.2.2.2.2.2.2.2.2.2.2.2.2.2.2.2.1))) + (length (take (length y6.1) (drop 0 y6.1)))) ≤ 17592186044416) then (if ((length ((take (length y4.2.2.2.2.2.2.2.2.2.2.2.2.2.2.2.1) (drop 0 y4.2.2.2.2.2.2.2.2.2.2.2.2.2.2.2.1)) ++ (take (length y6.1) (drop 0 y6.1)))) = (length ((take (length y4.2.2.2.2.2.2.2.2.2.2.2.2.2.2.2.1) (drop 0 y4.2.2.2.2.2.2.2.2.2.2.2.2.2.2.2.1)) ++ (take (length y6.1) (drop 0 y6.1))))) then (if ((length y4.2.2.2.2.2.2.2.2.2.2.1) = (length y4.2.2.2.2.2.2.2.2.2.2.1)) then (if ((length y4.2.2.2.2.2.2.2.2.2.2.2.2.2.2.1) = (length y4.2.2.2.2.2.2.2.2.2.2.2.2.2.2.1)) then (some (Sum.inl (y4.1, y4.2.2.2.2.1, y4.2.2.2.2.2.1, y5.2.2.1, y5.2.2.2.1, y5.2.2.2.2.1, y5.2.2.2.2.2.1, y4.2.2.2.2.2.2.2.2.2.2.1, y4.2.2.2.2.2.2.2.2.2.2.2.1, y4.2.2.2.2.2.2.2.2.2.2.2.2.1, y4.2.2.2.2.2.2.2.2.2.2.2.2.2.1, y4.2.2.2.2.2.2.2.2.2.2.2.2.2.2.1, ((take (length y4.2.2.2.2.2.2.2.2.2.2.2.2.2.2.2.1) (drop 0 y4.2.2.2.2.2.2.2.2.2.2.2.2.2.2.2.1)) ++ (take (length y6.1) (drop 0 y6.1))), ())))
 else none)
 else none)
 else none)
 else none)))))))) Empty.elim))
 else none)
 else none)
 else none))) Empty.elim))
 else none)
 else none)
 else none)))))))
 else none)
 else (if ((length x.2.2.2.2.2.2.2.2.2.2.2.2.1) = (length x.2.2.2.2.2.2.2.2.2.2.2.2.1)) then (if ((length x.2.2.2.2.2.2.2.1) = (length x.2.2.2.2.2.2.2.1)) then (if ((length x.2.2.2.2.2.2.2.2.2.2.2.1) = (length x.2.2.2.2.2.2.2.2.2.2.2.1)) then (some (Sum.inr (Sum.inl (x.2.1, x.2.2.1, x.2.2.2.1, x.2.2.2.2.1, x.2.2.2.2.2.1, x.2.2.2.2.2.2.1, x.2.2.2.2.2.2.2.1, x.2.2.2.2.2.2.2.2.1, x.2.2.2.2.2.2.2.2.2.1, x.2.2.2.2.2.2.2.2.2.2.1, x.2.2.2.2.2.2.2.2.2.2.2.1, x.2.2.2.2.2.2.2.2.2.2.2.2.1, ()))))
 else none)
 else none)
 else none))
theorem b77_1_eq (x : g77_1.D) : b77_1 x = evF P (T89.orc _) Try.f77.ntmps fx77 (Code.at [tt, ff, tt, tt, ff, ff, ff] c77) (planAt 64 [([tt, ff, tt, tt, tt, tt, ff, ff], ⟨g77_2, o77_2, b77_2⟩), ([tt, ff, tt, tt, tt, tt, tt, ff], ⟨g77_3, o77_3, b77_3⟩)]) g77_1 x (injK fx77 ((.normal, g77_1) :: o77_1) some) := by kernel_rfl
noncomputable def l77_1 : g77_1.D → Option (outD o77_1) := loopN g77_1 o77_1 b77_1 18446744073709551616
theorem p77_1 : AllSub P Try.f77.ntmps fx77 (Code.at [tt, ff, tt, tt, ff, ff, ff] c77) [([tt, ff, tt, tt, tt, tt, ff, ff], ⟨g77_2, o77_2, b77_2⟩), ([tt, ff, tt, tt, tt, tt, tt, ff], ⟨g77_3, o77_3, b77_3⟩)] := And.intro s77_2_ok (And.intro s77_3_ok (trivial))
theorem q77_1 : PlanOk P Try.f77.ntmps fx77 (planAt 64 [([tt, ff, tt, tt, tt, tt, ff, ff], ⟨g77_2, o77_2, b77_2⟩), ([tt, ff, tt, tt, tt, tt, tt, ff], ⟨g77_3, o77_3, b77_3⟩)]) (Code.at [tt, ff, tt, tt, ff, ff, ff] c77) := planAt_ok p77_1
theorem at77_1 : Code.at [tt, ff, tt, tt, ff, ff] c77 = .loop (Code.at [tt, ff, tt, tt, ff, ff, ff] c77) := by kernel_rfl
theorem s77_1_ok : SubOk P Try.f77.ntmps fx77 (Code.at [tt, ff, tt, tt, ff, ff] c77) ⟨g77_1, o77_1, l77_1⟩ := by
  rw [at77_1]
  exact loop_ok (sub_ok (g := g77_1) (outs := ((.normal, g77_1) :: o77_1)) (f := b77_1) (Table.ok T89_ok _) hmix (q77_1) b77_1_eq) rfl _
noncomputable def f77 (x : gi77.D) : Option go77.D :=
  (if ((length x.2.2.2.2.2.2.2.1) = (length x.2.2.2.2.2.2.2.1)) then (if ((length x.2.2.2.2.2.2.2.2.2.2.2.1) = (length x.2.2.2.2.2.2.2.2.2.2.2.1)) then (Option.bind (l77_1 (x.1, x.2.1, x.2.2.1, x.2.2.2.1, x.2.2.2.2.1, x.2.2.2.2.2.1, x.2.2.2.2.2.2.1, x.2.2.2.2.2.2.2.1, x.2.2.2.2.2.2.2.2.1, x.2.2.2.2.2.2.2.2.2.1, x.2.2.2.2.2.2.2.2.2.2.1, x.2.2.2.2.2.2.2.2.2.2.2.1, [], ())) (Sum.elim (fun y1 => (if ((length y1.2.2.2.2.2.2.1) = (length y1.2.2.2.2.2.2.1)) then (if ((length y1.2.2.2.2.2.2.2.2.2.2.1) = (length y1.2.2.2.2.2.2.2.2.2.2.1)) then (some ((take (length y1.2.2.2.2.2.2.2.2.2.2.2.1) (drop 0 y1.2.2.2.2.2.2.2.2.2.2.2.1)), (0 : Int), y1.1, y1.2.1, y1.2.2.1, y1.2.2.2.1, y1.2.2.2.2.1, y1.2.2.2.2.2.1, y1.2.2.2.2.2.2.1, y1.2.2.2.2.2.2.2.1, y1.2.2.2.2.2.2.2.2.1, y1.2.2.2.2.2.2.2.2.2.1, y1.2.2.2.2.2.2.2.2.2.2.1, ()))
 else none)
 else none)) (Sum.elim (fun y1 => (if ((length y1.2.2.2.2.2.2.2.2.1) = (length y1.2.2.2.2.2.2.2.2.1)) then (if ((length y1.2.2.2.2.2.2.2.2.2.2.2.2.1) = (length y1.2.2.2.2.2.2.2.2.2.2.2.2.1)) then (some (y1.1, y1.2.1, y1.2.2.1, y1.2.2.2.1, y1.2.2.2.2.1, y1.2.2.2.2.2.1, y1.2.2.2.2.2.2.1, y1.2.2.2.2.2.2.2.1, y1.2.2.2.2.2.2.2.2.1, y1.2.2.2.2.2.2.2.2.2.1, y1.2.2.2.2.2.2.2.2.2.2.1, y1.2.2.2.2.2.2.2.2.2.2.2.1, y1.2.2.2.2.2.2.2.2.2.2.2.2.1, ()))
 else none)
 else none)) Empty.elim)))
 else none)
 else none)
theorem f77_eq (x : gi77.D) : f77 x = evF P (T89.orc _) Try.f77.ntmps fx77 c77 (planAt 64 [([tt, ff, tt, tt, ff, ff], ⟨g77_1, o77_1, l77_1⟩)]) gi77 x (fnK fx77 [go77]) := by kernel_rfl
theorem pf77 : AllSub P Try.f77.ntmps fx77 c77 [([tt, ff, tt, tt, ff, ff], ⟨g77_1, o77_1, l77_1⟩)] := And.intro s77_1_ok (trivial)
theorem qf77 : PlanOk P Try.f77.ntmps fx77 (planAt 64 [([tt, ff, tt, tt, ff, ff], ⟨g77_1, o77_1, l77_1⟩)]) c77 := planAt_ok pf77
theorem f77_ok : EntOk P 77 ⟨gi77, [go77], f77⟩ :=
  ent_ok (fn := Try.f77) (gi := gi77) (gos := [go77]) (f := f77) (c := c77) (fx := fx77) ⟨Try.func77, by kernel_rfl, rfl, by decide +kernel, rfl, rfl⟩ (by kernel_rfl) (Table.ok T89_ok _) hmix (qf77) f77_eq
noncomputable def T77 : Table := T89.add 77 [⟨gi77, [go77], f77⟩] []
theorem T77_ok : TableOk P T77 := Table.plus T89_ok (es := [⟨gi77, [go77], f77⟩]) ⟨f77_ok, trivial⟩ []

noncomputable def c54 : Code := Func.code Try.f54
abbrev gi54 : Sg := ⟨[0], [.lf (.ptr 0 0)], [some (.box true [.lf (.ptr 1 0), .lf (.gr (.pair (.int .i64) (.pair (.int .i64) (.int .i64))) 2), .lf (.int .i64), .lf (.int .i64)]), some (.box true [.lf (.sl (.int .u8)), .lf (.int .i64), .lf (.int .i64), .lf (.int .i64)]), some (.arr true (.pair (.int .i64) (.pair (.int .i64) (.int .i64))))]⟩
abbrev go54 : Sg := ⟨[2], [.lf (.int .i64)], [some (.box true [.lf (.ptr 1 0), .lf (.gr (.pair (.int .i64) (.pair (.int .i64) (.int .i64))) 3), .lf (.int .i64), .lf (.int .i64)]), some (.box true [.lf (.sl (.int .u8)), .lf (.int .i64), .lf (.int .i64), .lf (.int .i64)]), none, some (.arr true (.pair (.int .i64) (.pair (.int .i64) (.int .i64))))]⟩
def fx54 : List Bool := [tt, tt, ff]
abbrev g54_2 : Sg := ⟨[0, 5, 6, 7, 46, 47, 48], [.lf (.ptr 0 0), .lf (.int .i64), .lf (.int .i64), .lf (.gr (.int .i64) 3), .lf (.sl (.int .i64)), .lf (.int .i64), .lf (.int .i64)], [some (.box true [.lf (.ptr 1 0), .lf (.gr (.pair (.int .i64) (.pair (.int .i64) (.int .i64))) 4), .lf (.int .i64), .lf (.int .i64)]), some (.box true [.lf (.sl (.int .u8)), .lf (.int .i64), .lf (.int .i64), .lf (.int .i64)]), none, some (.arr true (.int .i64)), some (.arr true (.pair (.int .i64) (.pair (.int .i64) (.int .i64))))]⟩
abbrev o54_2 : Outs := [(.exit 0, ⟨[0, 5, 6, 7], [.lf (.ptr 0 0), .lf (.int .i64), .lf (.int .i64), .lf (.gr (.int .i64) 3)], [some (.box true [.lf (.ptr 1 0), .lf (.gr (.pair (.int .i64) (.pair (.int .i64) (.int .i64))) 4), .lf (.int .i64), .lf (.int .i64)]), some (.box true [.lf (.sl (.int .u8)), .lf (.int .i64), .lf (.int .i64), .lf (.int .i64)]), none, some (.arr true (.int .i64)), some (.arr true (.pair (.int .i64) (.pair (.int .i64) (.int .i64))))]⟩), (.ret, ⟨[2], [.lf (.int .i64)], [some (.box true [.lf (.ptr 1 0), .lf (.gr (.pair (.int .i64) (.pair (.int .i64) (.int .i64))) 3), .lf (.int .i64), .lf (.int .i64)]), some (.box true [.lf (.sl (.int .u8)), .lf (.int .i64), .lf (.int .i64), .lf (.int .i64)]), none, some (.arr true (.pair (.int .i64) (.pair (.int .i64) (.int .i64))))]⟩)]
noncomputable def b54_2 (x : g54_2.D) : Option (outD ((.normal, g54_2) :: o54_2)) :=
  (if ((decide (x.2.2.2.2.1 < x.2.2.2.1)) = true) then (if ((0 : Int) ≤ x.2.2.2.2.1) then (if (x.2.2.2.2.1 < (((length x.2.2.1) : Nat) : Int)) then (Option.bind (f72 ((3 : Int), x.2.2.2.2.2.2.2.1, x.2.2.2.2.2.2.2.2.1, x.2.2.2.2.2.2.2.2.2.1, x.2.2.2.2.2.2.2.2.2.2.1, ())) (fun y1 => (if ((y1.2.1 != (0 : Int)) = true) then (if ((length x.2.2.2.2.2.2.2.2.2.2.2.2.1) = (length x.2.2.2.2.2.2.2.2.2.2.2.2.1)) then (some (Sum.inr (Sum.inr (Sum.inl (y1.2.1, x.2.2.2.2.2.1, x.2.2.2.2.2.2.1, y1.2.2.1, y1.2.2.2.1, y1.2.2.2.2.1, y1.2.2.2.2.2.1, x.2.2.2.2.2.2.2.2.2.2.2.2.1, ())))))
 else none)
 else (if ((0 : Int) ≤ (getD x.2.2.1 (Int.toNat x.2.2.2.2.1) (0 : Int))) then (if ((getD x.2.2.1 (Int.toNat x.2.2.2.2.1) (0 : Int)) < (((length x.2.2.2.2.2.2.2.2.2.2.2.1) : Nat) : Int)) then (if ((length x.2.2.2.2.2.2.2.2.2.2.2.1) = (length (List.set x.2.2.2.2.2.2.2.2.2.2.2.1 (0 + (Int.toNat (getD x.2.2.1 (Int.toNat x.2.2.2.2.1) (0 : Int)))) y1.1))) then (if ((length x.2.2.2.2.2.2.2.2.2.2.2.2.1) = (length x.2.2.2.2.2.2.2.2.2.2.2.2.1)) then (some (Sum.inl (x.1, x.2.1, x.2.2.1, x.2.2.2.1, (IntKind.wrap .i64 (x.2.2.2.2.1 + (1 : Int))), x.2.2.2.2.2.1, x.2.2.2.2.2.2.1, y1.2.2.1, y1.2.2.2.1, y1.2.2.2.2.1, y1.2.2.2.2.2.1, (List.set x.2.2.2.2.2.2.2.2.2.2.2.1 (0 + (Int.toNat (getD x.2.2.1 (Int.toNat x.2.2.2.2.1) (0 : Int)))) y1.1), x.2.2.2.2.2.2.2.2.2.2.2.2.1, ())))
 else none)
 else none)
 else none)
 else none))))
 else none)
 else none)
 else (if ((length x.2.2.2.2.2.2.2.2.2.2.2.1) = (length x.2.2.2.2.2.2.2.2.2.2.2.1)) then (if ((length x.2.2.2.2.2.2.2.2.2.2.2.2.1) = (length x.2.2.2.2.2.2.2.2.2.2.2.2.1)) then (some (Sum.inr (Sum.inl (x.1, x.2.1, x.2.2.2.2.2.1, x.2.2.2.2.2.2.1, x.2.2.2.2.2.2.2.1, x.2.2.2.2.2.2.2.2.1, x.2.2.2.2.2.2.2.2.2.1, x.2.2.2.2.2.2.2.2.2.2.1, x.2.2.2.2.2.2.2.2.2.2.2.1, x.2.2.2.2.2.2.2.2.2.2.2.2.1, ()))))
 else none)
 else none))
theorem b54_2_eq (x : g54_2.D) : b54_2 x = evF P (T77.orc _) Try.f54.ntmps fx54 (Code.at [tt, tt, tt, tt, tt, tt, ff, tt, ff, ff] c54) (planAt 64 []) g54_2 x (injK fx54 ((.normal, g54_2) :: o54_2) some) := by kernel_rfl
noncomputable def l54_2 : g54_2.D → Option (outD o54_2) := loopN g54_2 o54_2 b54_2 18446744073709551616
theorem at54_2 : Code.at [tt, tt, tt, tt, tt, tt, ff, tt, ff] c54 = .loop (Code.at [tt, tt, tt, tt, tt, tt, ff, tt, ff, ff] c54) := by kernel_rfl
theorem s54_2_ok : SubOk P Try.f54.ntmps fx54 (Code.at [tt, tt, tt, tt, tt, tt, ff, tt, ff] c54) ⟨g54_2, o54_2, l54_2⟩ := by
  rw [at54_2]
  exact loop_ok (sub_ok (g := g54_2) (outs := ((.normal, g54_2) :: o54_2)) (f := b54_2) (Table.ok T77_ok _) hmix (planAt_ok (P := P) (n := Try.f54.ntmps) (fx := fx54) (c := (Code.at [tt, tt, tt, tt, tt, tt, ff, tt, ff, ff] c54)) (d := 64) (l := []) trivial) b54_2_eq) rfl _
abbrev g54_1 : Sg := ⟨[0, 5, 6, 7], [.lf (.ptr 0 0), .lf (.int .i64), .lf (.int .i64), .lf (.gr (.int .i64) 3)], [some (.box true [.lf (.ptr 1 0), .lf (.gr (.pair (.int .i64) (.pair (.int .i64) (.int .i64))) 4), .lf (.int .i64), .lf (.int .i64)]), some (.box true [.lf (.sl (.int .u8)), .lf (.int .i64), .lf (.int .i64), .lf (.int .i64)]), none, some (.arr true (.int .i64)), some (.arr true (.pair (.int .i64) (.pair (.int .i64) (.int .i64))))]⟩
abbrev o54_1 : Outs := [(.normal, ⟨[0, 4, 5, 6, 12], [.lf (.ptr 0 0), .lf (.int .i64), .lf (.int .i64), .lf (.int .i64), .lf .nilp], [some (.box true [.lf (.ptr 1 0), .lf (.gr (.pair (.int .i64) (.pair (.int .i64) (.int .i64))) 3), .lf (.int .i64), .lf (.int .i64)]), some (.box true [.lf (.sl (.int .u8)), .lf (.int .i64), .lf (.int .i64), .lf (.int .i64)]), none, some (.arr true (.pair (.int .i64) (.pair (.int .i64) (.int .i64))))]⟩), (.normal, ⟨[0, 4, 5, 6, 12], [.lf (.ptr 0 0), .lf (.int .i64), .lf (.int .i64), .lf (.int .i64), .lf (.ptr 3 0)], [some (.box true [.lf (.ptr 1 0), .lf (.gr (.pair (.int .i64) (.pair (.int .i64) (.int .i64))) 4), .lf (.int .i64), .lf (.int .i64)]), some (.box true [.lf (.sl (.int .u8)), .lf (.int .i64), .lf (.int .i64), .lf (.int .i64)]), none, some (.box true [.many (.int .i64) 16, .lf (.sl (.int .i64)), .lf (.sl (.int .i64)), .lf (.gr (.int .i64) 5)]), some (.arr true (.pair (.int .i64) (.pair (.int .i64) (.int .i64)))), some (.arr true (.int .i64))]⟩)]
noncomputable def b54_1 (x : g54_1.D) : Option (outD o54_1) :=
  (Option.bind (f32 ((take (length x.2.2.2.2.2.2.2.2.1) (drop 0 x.2.2.2.2.2.2.2.2.1)), ())) (Sum.elim (fun y1 => (if ((length x.2.2.2.2.2.2.2.2.2.1) = (length x.2.2.2.2.2.2.2.2.2.1)) then (some (Sum.inl (y1.1, x.1, x.2.1, x.2.2.1, x.2.2.2.1, x.2.2.2.2.1, x.2.2.2.2.2.1, x.2.2.2.2.2.2.1, x.2.2.2.2.2.2.2.1, x.2.2.2.2.2.2.2.2.2.1, ())))
 else none)) (fun y1 => (if ((length x.2.2.2.2.2.2.2.2.2.1) = (length x.2.2.2.2.2.2.2.2.2.1)) then (if ((length y1.2.2.2.2.1) = (length y1.2.2.2.2.1)) then (some (Sum.inr (Sum.inl (y1.1, x.1, x.2.1, x.2.2.1, x.2.2.2.1, x.2.2.2.2.1, x.2.2.2.2.2.1, x.2.2.2.2.2.2.1, x.2.2.2.2.2.2.2.1, y1.2.1, y1.2.2.1, y1.2.2.2.1, x.2.2.2.2.2.2.2.2.2.1, y1.2.2.2.2.1, ()))))
 else none)
 else none))))
theorem b54_1_eq (x : g54_1.D) : b54_1 x = evF P (T77.orc _) Try.f54.ntmps fx54 (Code.at [tt, tt, tt, tt, tt, tt, tt, ff] c54) (planAt 64 []) g54_1 x (injK fx54 o54_1 some) := by kernel_rfl
theorem s54_1_ok : SubOk P Try.f54.ntmps fx54 (Code.at [tt, tt, tt, tt, tt, tt, tt, ff] c54) ⟨g54_1, o54_1, b54_1⟩ :=
  sub_ok (g := g54_1) (outs := o54_1) (f := b54_1) (Table.ok T77_ok _) hmix (planAt_ok (P := P) (n := Try.f54.ntmps) (fx := fx54) (c := (Code.at [tt, tt, tt, tt, tt, tt, tt, ff] c54)) (d := 64) (l := []) trivial) b54_1_eq
noncomputable def f54 (x : gi54.D) : Option go54.D :=
  (if ((length x.2.2.2.2.2.2.1) = (length x.2.2.2.2.2.2.1)) then (Option.bind (f51 ((take 3 (drop 0 (List.set (List.set (List.set (replicate 3 (0 : Int)) 0 (5 : Int)) 1 (5 : Int)) 2 (4 : Int)))), x.1, x.2.1, x.2.2.1, x.2.2.2.1, x.2.2.2.2.1, x.2.2.2.2.2.1, x.2.2.2.2.2.2.1, ())) (fun y1 => (if ((y1.2.1 != (0 : Int)) = true) then (if ((length y1.2.2.2.2.2.2.2.2.1) = (length y1.2.2.2.2.2.2.2.2.1)) then (some (y1.2.1, y1.2.2.1, y1.2.2.2.1, y1.2.2.2.2.1, y1.2.2.2.2.2.1, y1.2.2.2.2.2.2.1, y1.2.2.2.2.2.2.2.1, y1.2.2.2.2.2.2.2.2.1, ()))
 else none)
 else (if ((0 : Int) < (((length y1.1) : Nat) : Int)) then (if ((1 : Int) < (((length y1.1) : Nat) : Int)) then (if ((decide ((IntKind.wrap .i64 ((IntKind.wrap .i64 ((getD y1.1 0 (0 : Int)) + (256 : Int))) + (1 : Int))) > (286 : Int))) = true) then (if ((length y1.2.2.2.2.2.2.2.2.1) = (length y1.2.2.2.2.2.2.2.2.1)) then (some ((4 : Int), y1.2.2.1, y1.2.2.2.1, y1.2.2.2.2.1, y1.2.2.2.2.2.1, y1.2.2.2.2.2.2.1, y1.2.2.2.2.2.2.2.1, y1.2.2.2.2.2.2.2.2.1, ()))
 else none)
 else (if ((decide ((IntKind.wrap .i64 ((getD y1.1 1 (0 : Int)) + (1 : Int))) > (30 : Int))) = true) then (if ((length y1.2.2.2.2.2.2.2.2.1) = (length y1.2.2.2.2.2.2.2.2.1)) then (some ((4 : Int), y1.2.2.1, y1.2.2.2.1, y1.2.2.2.2.1, y1.2.2.2.2.2.1, y1.2.2.2.2.2.2.1, y1.2.2.2.2.2.2.2.1, y1.2.2.2.2.2.2.2.2.1, ()))
 else none)
 else (if ((2 : Int) < (((length y1.1) : Nat) : Int)) then (if ((0 : Int) ≤ (IntKind.wrap .i64 ((getD y1.1 2 (0 : Int)) + (4 : Int)))) then (if ((IntKind.wrap .i64 ((getD y1.1 2 (0 : Int)) + (4 : Int))) ≤ (19 : Int)) then (if ((length y1.2.2.2.2.2.2.2.2.1) = (length y1.2.2.2.2.2.2.2.2.1)) then (Option.bind (l54_2 ((IntKind.wrap .i64 ((IntKind.wrap .i64 ((getD y1.1 0 (0 : Int)) + (256 : Int))) + (1 : Int))), (IntKind.wrap .i64 ((getD y1.1 1 (0 : Int)) + (1 : Int))), (take ((Int.toNat (IntKind.wrap .i64 ((getD y1.1 2 (0 : Int)) + (4 : Int)))) - 0) (drop 0 (List.set (List.set (List.set (List.set (List.set (List.set (List.set (List.set (List.set (List.set (List.set (List.set (List.set (List.set (List.set (List.set (List.set (List.set (List.set (replicate 19 (0 : Int)) 0 (16 : Int)) 1 (17 : Int)) 2 (18 : Int)) 3 (0 : Int)) 4 (8 : Int)) 5 (7 : Int)) 6 (9 : Int)) 7 (6 : Int)) 8 (10 : Int)) 9 (5 : Int)) 10 (11 : Int)) 11 (4 : Int)) 12 (12 : Int)) 13 (3 : Int)) 14 (13 : Int)) 15 (2 : Int)) 16 (14 : Int)) 17 (1 : Int)) 18 (15 : Int)))), ((((Int.toNat (IntKind.wrap .i64 ((getD y1.1 2 (0 : Int)) + (4 : Int)))) - 0) : Nat) : Int), (0 : Int), y1.2.2.1, y1.2.2.2.1, y1.2.2.2.2.1, y1.2.2.2.2.2.1, y1.2.2.2.2.2.2.1, y1.2.2.2.2.2.2.2.1, (replicate 19 (0 : Int)), y1.2.2.2.2.2.2.2.2.1, ())) (Sum.elim (fun y2 => (if ((length y2.2.2.2.2.2.2.2.2.1) = (length y2.2.2.2.2.2.2.2.2.1)) then (if ((length y2.2.2.2.2.2.2.2.2.2.1) = (length y2.2.2.2.2.2.2.2.2.2.1)) then (Option.bind (b54_1 (y2.1, y2.2.1, y2.2.2.1, y2.2.2.2.1, y2.2.2.2.2.1, y2.2.2.2.2.2.1, y2.2.2.2.2.2.2.1, y2.2.2.2.2.2.2.2.1, y2.2.2.2.2.2.2.2.2.1, y2.2.2.2.2.2.2.2.2.2.1, ())) (Sum.elim (fun y3 => (if ((y3.1 != (0 : Int)) = true) then (if ((length y3.2.2.2.2.2.2.2.2.2.1) = (length y3.2.2.2.2.2.2.2.2.2.1)) then (some (y3.1, y3.2.2.2.1, y3.2.2.2.2.1, y3.2.2.2.2.2.1, y3.2.2.2.2.2.2.1, y3.2.2.2.2.2.2.2.1, y3.2.2.2.2.2.2.2.2.1, y3.2.2.2.2.2.2.2.2.2.1, ()))
 else none)
 else none)) (Sum.elim (fun y3 => (if ((y3.1 != (0 : Int)) = true) then (if ((length y3.2.2.2.2.2.2.2.2.2.2.2.2.1) = (length y3.2.2.2.2.2.2.2.2.2.2.2.2.1)) then (some (y3.1, y3.2.2.2.1, y3.2.2.2.2.1, y3.2.2.2.2.2.1, y3.2.2.2.2.2.2.1, y3.2.2.2.2.2.2.2.1, y3.2.2.2.2.2.2.2.2.1, y3.2.2.2.2.2.2.2.2.2.2.2.2.1, ()))
 else none)
 else (if ((length y3.2.2.2.2.2.2.2.2.2.2.2.2.1) = (length y3.2.2.2.2.2.2.2.2.2.2.2.2.1)) then (if ((length y3.2.2.2.2.2.2.2.2.2.2.2.2.2.1) = (length y3.2.2.2.2.2.2.2.2.2.2.2.2.2.1)) then (Option.bind (f77 ((IntKind.wrap .i64 (y3.2.1 + y3.2.2.1)), y3.2.2.2.1, y3.2.2.2.2.1, y3.2.2.2.2.2.1, y3.2.2.2.2.2.2.1, y3.2.2.2.2.2.2.2.1, y3.2.2.2.2.2.2.2.2.1, y3.2.2.2.2.2.2.2.2.2.2.2.2.1, y3.2.2.2.2.2.2.2.2.2.1, y3.2.2.2.2.2.2.2.2.2.2.1, y3.2.2.2.2.2.2.2.2.2.2.2.1, y3.2.2.2.2.2.2.2.2.2.2.2.2.2.1, ())) (fun y4 => (if ((y4.2.1 != (0 : Int)) = true) then (if ((length y4.2.2.2.2.2.2.2.2.1) = (length y4.2.2.2.2.2.2.2.2.1)) then (some (y4.2.1, y4.2.2.1, y4.2.2.2.1, y4.2.2.2.2.1, y4.2.2.2.2.2.1, y4.2.2.2.2.2.2.1, y4.2.2.2.2.2.2.2.1, y4.2.2.2.2.2.2.2.2.1, ()))
 else none)
 else (if ((256 : Int) < (((length y4.1) : Nat) : Int)) then (if (((getD y4.1 256 (0 : Int)) == (0 : Int)) = true) then (if ((length y4.2.2.2.2.2.2.2.2.1) = (length y4.2.2.2.2.2.2.2.2.1)) then (some ((4 : Int), y4.2.2.1, y4.2.2.2.1, y4.2.2.2.2.1, y4.2.2.2.2.2.1, y4.2.2.2.2.2.2.1, y4.2.2.2.2.2.2.2.1, y4.2.2.2.2.2.2.2.2.1, ()))
 else none)
 else (if ((0 : Int) ≤ y3.2.1) then (if (y3.2.1 ≤ (((length y4.1) : Nat) : Int)) then (Option.bind (f32 ((take (Int.toNat y3.2.1) y4.1), ())) (Sum.elim (fun y5 => (if ((y5.1 != (0 : Int)) = true) then (if ((length y4.2.2.2.2.2.2.2.2.1) = (length y4.2.2.2.2.2.2.2.2.1)) then (some (y5.1, y4.2.2.1, y4.2.2.2.1, y4.2.2.2.2.1, y4.2.2.2.2.2.1, y4.2.2.2.2.2.2.1, y4.2.2.2.2.2.2.2.1, y4.2.2.2.2.2.2.2.2.1, ()))
 else none)
 else (if ((0 : Int) ≤ y3.2.1) then (if (y3.2.1 ≤ (((length y4.1) : Nat) : Int)) then (Option.bind (f32 ((drop (Int.toNat y3.2.1) y4.1), ())) (Sum.elim (fun y6 => (if ((y6.1 != (0 : Int)) = true) then (if ((length y4.2.2.2.2.2.2.2.2.1) = (length y4.2.2.2.2.2.2.2.2.1)) then (some (y6.1, y4.2.2.1, y4.2.2.2.1, y4.2.2.2.2.1, y4.2.2.2.2.2.1, y4.2.2.2.2.2.2.1, y4.2.2.2.2.2.2.2.1, y4.2.2.2.2.2.2.2.2.1, ()))
 else none)
 else none)) (fun y6 => (if ((y6.1 != (0 : Int)) = true) then (if ((length y4.2.2.2.2.2.2.2.2.1) = (length y4.2.2.2.2.2.2.2.2.1)) then (some (y6.1, y4.2.2.1, y4.2.2.2.1, y4.2.2.2.2.1, y4.2.2.2.2.2.1, y4.2.2.2.2.2.2.1, y4.2.2.2.2.2.2.2.1, y4.2.2.2.2.2.2.2.2.1, ()))
 else none)
 else none))))
 else none)
 else none))) (fun y5 => (if ((y5.1 != (0 : Int)) = true) then (if ((length y4.2.2.2.2.2.2.2.2.1) = (length y4.2.2.2.2.2.2.2.2.1)) then (some (y5.1, y4.2.2.1, y4.2.2.2.1, y4.2.2.2.2.1, y4.2.2.2.2.2.1, y4.2.2.2.2.2.2.1, y4.2.2.2.2.2.2.2.1, y4.2.2.2.2.2.2.2.2.1, ()))
 else none)
 else (if ((0 : Int) ≤ y3.2.1) then (if (y3.2.1 ≤ (((length y4.1) : Nat) : Int)) then (Option.bind (f32 ((drop (Int.toNat y3.2.1) y4.1), ())) (Sum.elim (fun y6 => (if ((y6.1 != (0 : Int)) = true) then (if ((length y4.2.2.2.2.2.2.2.2.1) = (length y4.2.2.2.2.2.2.2.2.1)) then (some (y6.1, y4.2.2.1, y4.2.2.2.1, y4.2.2.2.2.1, y4.2.2.2.2.2.1, y4.2.2.2.2.2.2.1, y4.2.2.2.2.2.2.2.1, y4.2.2.2.2.2.2.2.2.1, ()))
 else none)
 else none)) (fun y6 => (if ((y6.1 != (0 : Int)) = true) then (if ((length y4.2.2.2.2.2.2.2.2.1) = (length y4.2.2.2.2.2.2.2.2.1)) then (some (y6.1, y4.2.2.1, y4.2.2.2.1, y4.2.2.2.2.1, y4.2.2.2.2.2.1, y4.2.2.2.2.2.2.1, y4.2.2.2.2.2.2.2.1, y4.2.2.2.2.2.2.2.2.1, ()))
 else none)
 else (if ((length y4.2.2.2.2.2.2.2.2.1) = (length y4.2.2.2.2.2.2.2.2.1)) then (if ((length y5.2.2.2.2.1) = (length y5.2.2.2.2.1)) then (if ((length y6.2.2.2.2.1) = (length y6.2.2.2.2.1)) then (Option.bind (f76 (y4.2.2.1, y4.2.2.2.1, y4.2.2.2.2.1, y4.2.2.2.2.2.1, y4.2.2.2.2.2.2.1, y4.2.2.2.2.2.2.2.1, y4.2.2.2.2.2.2.2.2.1, y5.2.1, y5.2.2.1, y5.2.2.2.1, y5.2.2.2.2.1, y6.2.1, y6.2.2.1, y6.2.2.2.1, y6.2.2.2.2.1, ())) (fun y7 => (if ((length y7.2.2.2.2.2.2.2.2.2.2.2.2.2.2.2.1) = (length y7.2.2.2.2.2.2.2.2.2.2.2.2.2.2.2.1)) then (some (y7.1, y7.2.1, y7.2.2.1, y7.2.2.2.1, y7.2.2.2.2.1, y7.2.2.2.2.2.1, y7.2.2.2.2.2.2.1, y7.2.2.2.2.2.2.2.2.2.2.2.2.2.2.2.1, ()))
 else none)))
 else none)
 else none)
 else none)))))
 else none)
 else none)))))
 else none)
 else none))
 else none))))
 else none)
 else none))) Empty.elim)))
 else none)
 else none)) (Sum.elim (fun y2 => (if ((length y2.2.2.2.2.2.2.2.1) = (length y2.2.2.2.2.2.2.2.1)) then (some (y2.1, y2.2.1, y2.2.2.1, y2.2.2.2.1, y2.2.2.2.2.1, y2.2.2.2.2.2.1, y2.2.2.2.2.2.2.1, y2.2.2.2.2.2.2.2.1, ()))
 else none)) Empty.elim)))
 else none)
 else none)
 else none)
 else none)))
 else none)
 else none))))
 else none)
theorem f54_eq (x : gi54.D) : f54 x = evF P (T77.orc _) Try.f54.ntmps fx54 c54 (planAt 64 [([tt, tt, tt, tt, tt, tt, tt, ff], ⟨g54_1, o54_1, b54_1⟩), ([tt, tt, tt, tt, tt, tt, ff, tt, ff], ⟨g54_2, o54_2, l54_2⟩)]) gi54 x (fnK fx54 [go54]) := by kernel_rfl
theorem pf54 : AllSub P Try.f54.ntmps fx54 c54 [([tt, tt, tt, tt, tt, tt, tt, ff], ⟨g54_1, o54_1, b54_1⟩), ([tt, tt, tt, tt, tt, tt, ff, tt, ff], ⟨g54_2, o54_2, l54_2⟩)] := And.intro s54_1_ok (And.intro s54_2_ok (trivial))
theorem qf54 : PlanOk P Try.f54.ntmps fx54 (planAt 64 [([tt, tt, tt, tt, tt, tt, tt, ff], ⟨g54_1, o54_1, b54_1⟩), ([tt, tt, tt, tt, tt, tt, ff, tt, ff], ⟨g54_2, o54_2, l54_2⟩)]) c54 := planAt_ok pf54
theorem f54_ok : EntOk P 54 ⟨gi54, [go54], f54⟩ :=
  ent_ok (fn := Try.f54) (gi := gi54) (gos := [go54]) (f := f54) (c := c54) (fx := fx54) ⟨Try.func54, by kernel_rfl, rfl, by decide +kernel, rfl, rfl⟩ (by kernel_rfl) (Table.ok T77_ok _) hmix (qf54) f54_eq
noncomputable def T54 : Table := T77.add 54 [⟨gi54, [go54], f54⟩] []
theorem T54_ok : TableOk P T54 := Table.plus T77_ok (es := [⟨gi54, [go54], f54⟩]) ⟨f54_ok, trivial⟩ []

noncomputable def c24 : Code := Func.code Try.f24
abbrev gi24 : Sg := ⟨[0, 1], [.lf (.sl (.int .u8)), .lf (.int .i64)], []⟩
abbrev go24 : Sg := ⟨[4, 5, 6], [.lf (.sl (.pair (.int .i64) (.pair (.int .i64) (.int .i64)))), .lf (.int .i64), .lf (.int .i64)], []⟩
def fx24 : List Bool := []
abbrev g24_2 : Sg := ⟨[0, 7, 8], [.lf (.sl (.int .u8)), .lf (.ptr 0 0), .lf (.sl (.int .i64))], [some (.box true [.lf (.ptr 1 0), .lf (.gr (.pair (.int .i64) (.pair (.int .i64) (.int .i64))) 2), .lf (.int .i64), .lf (.int .i64)]), some (.box true [.lf (.sl (.int .u8)), .lf (.int .i64), .lf (.int .i64), .lf (.int .i64)]), some (.arr true (.pair (.int .i64) (.pair (.int .i64) (.int .i64))))]⟩
abbrev o24_2 : Outs := [(.normal, ⟨[0, 7, 8, 9], [.lf (.sl (.int .u8)), .lf (.ptr 0 0), .lf (.sl (.int .i64)), .lf (.int .i64)], [some (.box true [.lf (.ptr 1 0), .lf (.gr (.pair (.int .i64) (.pair (.int .i64) (.int .i64))) 2), .lf (.int .i64), .lf (.int .i64)]), some (.box true [.lf (.sl (.int .u8)), .lf (.int .i64), .lf (.int .i64), .lf (.int .i64)]), some (.arr true (.pair (.int .i64) (.pair (.int .i64) (.int .i64))))]⟩)]
noncomputable def b24_2 (x : g24_2.D) : Option (outD o24_2) :=
  (if ((1 : Int) < (((length x.2.1) : Nat) : Int)) then (if (((getD x.2.1 1 (0 : Int)) == (0 : Int)) = true) then (if ((length x.2.2.2.2.2.2.2.2.1) = (length x.2.2.2.2.2.2.2.2.1)) then (Option.bind (f52 (x.2.2.1, x.2.2.2.1, x.2.2.2.2.1, x.2.2.2.2.2.1, x.2.2.2.2.2.2.1, x.2.2.2.2.2.2.2.1, x.2.2.2.2.2.2.2.2.1, ())) (fun y1 => (if ((length y1.2.2.2.2.2.2.2.1) = (length y1.2.2.2.2.2.2.2.1)) then (some (Sum.inl (x.1, x.2.1, y1.1, y1.2.1, y1.2.2.1, y1.2.2.2.1, y1.2.2.2.2.1, y1.2.2.2.2.2.1, y1.2.2.2.2.2.2.1, y1.2.2.2.2.2.2.2.1, ())))
 else none)))
 else none)
 else (if (((getD x.2.1 1 (0 : Int)) == (1 : Int)) = true) then (if ((length x.2.2.2.2.2.2.2.2.1) = (length x.2.2.2.2.2.2.2.2.1)) then (Option.bind (f53 (x.2.2.1, x.2.2.2.1, x.2.2.2.2.1, x.2.2.2.2.2.1, x.2.2.2.2.2.2.1, x.2.2.2.2.2.2.2.1, x.2.2.2.2.2.2.2.2.1, ())) (fun y1 => (if ((length y1.2.2.2.2.2.2.2.1) = (length y1.2.2.2.2.2.2.2.1)) then (some (Sum.inl (x.1, x.2.1, y1.1, y1.2.1, y1.2.2.1, y1.2.2.2.1, y1.2.2.2.2.1, y1.2.2.2.2.2.1, y1.2.2.2.2.2.2.1, y1.2.2.2.2.2.2.2.1, ())))
 else none)))
 else none)
 else (if (((getD x.2.1 1 (0 : Int)) == (2 : Int)) = true) then (if ((length x.2.2.2.2.2.2.2.2.1) = (length x.2.2.2.2.2.2.2.2.1)) then (Option.bind (f54 (x.2.2.1, x.2.2.2.1, x.2.2.2.2.1, x.2.2.2.2.2.1, x.2.2.2.2.2.2.1, x.2.2.2.2.2.2.2.1, x.2.2.2.2.2.2.2.2.1, ())) (fun y1 => (if ((length y1.2.2.2.2.2.2.2.1) = (length y1.2.2.2.2.2.2.2.1)) then (some (Sum.inl (x.1, x.2.1, y1.1, y1.2.1, y1.2.2.1, y1.2.2.2.1, y1.2.2.2.2.1, y1.2.2.2.2.2.1, y1.2.2.2.2.2.2.1, y1.2.2.2.2.2.2.2.1, ())))
 else none)))
 else none)
 else (if ((length x.2.2.2.2.2.2.2.2.1) = (length x.2.2.2.2.2.2.2.2.1)) then (some (Sum.inl (x.1, x.2.1, (4 : Int), x.2.2.1, x.2.2.2.1, x.2.2.2.2.1, x.2.2.2.2.2.1, x.2.2.2.2.2.2.1, x.2.2.2.2.2.2.2.1, x.2.2.2.2.2.2.2.2.1, ())))
 else none))))
 else none)
theorem b24_2_eq (x : g24_2.D) : b24_2 x = evF P (T54.orc _) Try.f24.ntmps fx24 (Code.at [tt, ff, tt, tt, tt, ff, ff, ff, ff, tt, tt, ff] c24) (planAt 64 []) g24_2 x (injK fx24 o24_2 some) := by kernel_rfl
theorem s24_2_ok : SubOk P Try.f24.ntmps fx24 (Code.at [tt, ff, tt, tt, tt, ff, ff, ff, ff, tt, tt, ff] c24) ⟨g24_2, o24_2, b24_2⟩ :=
  sub_ok (g := g24_2) (outs := o24_2) (f := b24_2) (Table.ok T54_ok _) hmix (planAt_ok (P := P) (n := Try.f24.ntmps) (fx := fx24) (c := (Code.at [tt, ff, tt, tt, tt, ff, ff, ff, ff, tt, tt, ff] c24)) (d := 64) (l := []) trivial) b24_2_eq
abbrev g24_1 : Sg := ⟨[0, 7], [.lf (.sl (.int .u8)), .lf (.ptr 0 0)], [some (.box true [.lf (.ptr 1 0), .lf (.gr (.pair (.int .i64) (.pair (.int .i64) (.int .i64))) 2), .lf (.int .i64), .lf (.int .i64)]), some (.box true [.lf (.sl (.int .u8)), .lf (.int .i64), .lf (.int .i64), .lf (.int .i64)]), some (.arr true (.pair (.int .i64) (.pair (.int .i64) (.int .i64))))]⟩
abbrev o24_1 : Outs := [(.ret, ⟨[4, 5, 6], [.lf (.sl (.pair (.int .i64) (.pair (.int .i64) (.int .i64)))), .lf (.int .i64), .lf (.int .i64)], []⟩), (.exit 0, ⟨[0, 7], [.lf (.sl (.int .u8)), .lf (.ptr 0 0)], [some (.box true [.lf (.ptr 1 0), .lf (.gr (.pair (.int .i64) (.pair (.int .i64) (.int .i64))) 2), .lf (.int .i64), .lf (.int .i64)]), some (.box true [.lf (.sl (.int .u8)), .lf (.int .i64), .lf (.int .i64), .lf (.int .i64)]), some (.arr true (.pair (.int .i64) (.pair (.int .i64) (.int .i64))))]⟩)]
noncomputable def b24_1 (x : g24_1.D) : Option (outD ((.normal, g24_1) :: o24_1)) :=
  (if ((length x.2.2.2.2.2.2.2.1) = (length x.2.2.2.2.2.2.2.1)) then (Option.bind (f51 ((take 2 (drop 0 (List.set (List.set (replicate 2 (0 : Int)) 0 (1 : Int)) 1 (2 : Int)))), x.2.1, x.2.2.1, x.2.2.2.1, x.2.2.2.2.1, x.2.2.2.2.2.1, x.2.2.2.2.2.2.1, x.2.2.2.2.2.2.2.1, ())) (fun y1 => (if ((y1.2.1 != (0 : Int)) = true) then (some (Sum.inr (Sum.inl ([], (0 : Int), y1.2.1, ()))))
 else (if ((length y1.2.2.2.2.2.2.2.2.1) = (length y1.2.2.2.2.2.2.2.2.1)) then (Option.bind (b24_2 (x.1, y1.1, y1.2.2.1, y1.2.2.2.1, y1.2.2.2.2.1, y1.2.2.2.2.2.1, y1.2.2.2.2.2.2.1, y1.2.2.2.2.2.2.2.1, y1.2.2.2.2.2.2.2.2.1, ())) (Sum.elim (fun y2 => (if ((y2.2.2.1 != (0 : Int)) = true) then (some (Sum.inr (Sum.inl ([], (0 : Int), y2.2.2.1, ()))))
 else (if ((0 : Int) < (((length y2.2.1) : Nat) : Int)) then (if (((getD y2.2.1 0 (0 : Int)) == (1 : Int)) = true) then (if ((length y2.2.2.2.2.2.2.2.2.2.1) = (length y2.2.2.2.2.2.2.2.2.2.1)) then (some (Sum.inr (Sum.inr (Sum.inl (y2.1, y2.2.2.2.1, y2.2.2.2.2.1, y2.2.2.2.2.2.1, y2.2.2.2.2.2.2.1, y2.2.2.2.2.2.2.2.1, y2.2.2.2.2.2.2.2.2.1, y2.2.2.2.2.2.2.2.2.2.1, ())))))
 else none)
 else (if ((length y2.2.2.2.2.2.2.2.2.2.1) = (length y2.2.2.2.2.2.2.2.2.2.1)) then (some (Sum.inl (y2.1, y2.2.2.2.1, y2.2.2.2.2.1, y2.2.2.2.2.2.1, y2.2.2.2.2.2.2.1, y2.2.2.2.2.2.2.2.1, y2.2.2.2.2.2.2.2.2.1, y2.2.2.2.2.2.2.2.2.2.1, ())))
 else none))
 else none))) Empty.elim))
 else none))))
 else none)
theorem b24_1_eq (x : g24_1.D) : b24_1 x = evF P (T54.orc _) Try.f24.ntmps fx24 (Code.at [tt, ff, tt, tt, tt, ff, ff, ff] c24) (planAt 64 [([ff, tt, tt, ff], ⟨g24_2, o24_2, b24_2⟩)]) g24_1 x (injK fx24 ((.normal, g24_1) :: o24_1) some) := by kernel_rfl
noncomputable def l24_1 : g24_1.D → Option (outD o24_1) := loopN g24_1 o24_1 b24_1 18446744073709551616
theorem p24_1 : AllSub P Try.f24.ntmps fx24 (Code.at [tt, ff, tt, tt, tt, ff, ff, ff] c24) [([ff, tt, tt, ff], ⟨g24_2, o24_2, b24_2⟩)] := And.intro s24_2_ok (trivial)
theorem q24_1 : PlanOk P Try.f24.ntmps fx24 (planAt 64 [([ff, tt, tt, ff], ⟨g24_2, o24_2, b24_2⟩)]) (Code.at [tt, ff, tt, tt, tt, ff, ff, ff] c24) := planAt_ok p24_1
theorem at24_1 : Code.at [tt, ff, tt, tt, tt, ff, ff] c24 = .loop (Code.at [tt, ff, tt, tt, tt, ff, ff, ff] c24) := by kernel_rfl
theorem s24_1_ok : SubOk P Try.f24.ntmps fx24 (Code.at [tt, ff, tt, tt, tt, ff, ff] c24) ⟨g24_1, o24_1, l24_1⟩ := by
  rw [at24_1]
  exact loop_ok (sub_ok (g := g24_1) (outs := ((.normal, g24_1) :: o24_1)) (f := b24_1) (Table.ok T54_ok _) hmix (q24_1) b24_1_eq) rfl _
noncomputable def f24 (x : gi24.D) : Option go24.D :=
  (if ((decide (x.2.1 < (0 : Int))) = true) then (some ([], (0 : Int), (1 : Int), ()))
 else (if ((decide (x.2.1 > (1048576 : Int))) = true) then (some ([], (0 : Int), (1 : Int), ()))
 else (Option.bind (f50 (x.1, ())) (fun y1 => (Option.bind (l24_1 (x.1, (0 : Int), x.2.1, y1.1, y1.2.1, y1.2.2.1, y1.2.2.2.1, [], ())) (Sum.elim (fun y2 => (some (y2.1, y2.2.1, y2.2.2.1, ()))) (Sum.elim (fun y2 => (Option.bind (f55 (y2.2.2.2.1, y2.2.2.2.2.1, y2.2.2.2.2.2.1, y2.2.2.2.2.2.2.1, ())) (fun y3 => (some ((take (length y2.2.2.2.2.2.2.2.1) (drop 0 y2.2.2.2.2.2.2.2.1)), (IntKind.wrap .i64 ((((length y2.1) : Nat) : Int) - (IntKind.wrap .i64 (Int.tdiv y3.1 (8 : Int))))), (0 : Int), ()))))) Empty.elim)))))))
theorem f24_eq (x : gi24.D) : f24 x = evF P (T54.orc _) Try.f24.ntmps fx24 c24 (planAt 64 [([tt, ff, tt, tt, tt, ff, ff], ⟨g24_1, o24_1, l24_1⟩)]) gi24 x (fnK fx24 [go24]) := by kernel_rfl
theorem pf24 : AllSub P Try.f24.ntmps fx24 c24 [([tt, ff, tt, tt, tt, ff, ff], ⟨g24_1, o24_1, l24_1⟩)] := And.intro s24_1_ok (trivial)
theorem qf24 : PlanOk P Try.f24.ntmps fx24 (planAt 64 [([tt, ff, tt, tt, tt, ff, ff], ⟨g24_1, o24_1, l24_1⟩)]) c24 := planAt_ok pf24
theorem f24_ok : EntOk P 24 ⟨gi24, [go24], f24⟩ :=
  ent_ok (fn := Try.f24) (gi := gi24) (gos := [go24]) (f := f24) (c := c24) (fx := fx24) ⟨Try.func24, by kernel_rfl, rfl, by decide +kernel, rfl, rfl⟩ (by kernel_rfl) (Table.ok T54_ok _) hmix (qf24) f24_eq
noncomputable def T24 : Table := T54.add 24 [⟨gi24, [go24], f24⟩] []
theorem T24_ok : TableOk P T24 := Table.plus T54_ok (es := [⟨gi24, [go24], f24⟩]) ⟨f24_ok, trivial⟩ []

noncomputable def c25 : Code := Func.code Try.f25
abbrev gi25 : Sg := ⟨[0, 1], [.lf (.sl (.pair (.int .i64) (.pair (.int .i64) (.int .i64)))), .lf (.int .i64)], []⟩
abbrev go25 : Sg := ⟨[4, 5], [.lf (.sl (.int .u8)), .lf (.int .i64)], []⟩
def fx25 : List Bool := []
abbrev g25_2 : Sg := ⟨[1, 6, 8, 19, 20, 21, 51, 52], [.lf (.int .i64), .lf (.gr (.int .u8) 0), .lf (.ptr 1 0), .lf (.sl (.pair (.int .i64) (.pair (.int .i64) (.int .i64)))), .lf (.int .i64), .lf (.int .i64), .lf (.int .i64), .lf (.int .i64)], [some (.arr true (.int .u8)), some (.box true [.lf (.int .i64), .lf (.int .i64), .lf (.int .i64)])]⟩
abbrev o25_2 : Outs := [(.exit 3, ⟨[1, 6, 19, 20, 21], [.lf (.int .i64), .lf (.gr (.int .u8) 0), .lf (.sl (.pair (.int .i64) (.pair (.int .i64) (.int .i64)))), .lf (.int .i64), .lf (.int .i64)], [some (.arr true (.int .u8))]⟩)]
noncomputable def b25_2 (x : g25_2.D) : Option (outD ((.normal, g25_2) :: o25_2)) :=
  (if ((decide (x.2.2.2.2.2.1 < x.2.2.2.2.1)) = true) then (if ((0 : Int) ≤ (IntKind.wrap .i64 ((((length x.2.2.2.2.2.2.1) : Nat) : Int) - x.2.2.2.2.2.2.2.2.2.1))) then (if ((IntKind.wrap .i64 ((((length x.2.2.2.2.2.2.1) : Nat) : Int) - x.2.2.2.2.2.2.2.2.2.1)) < (((length x.2.2.2.2.2.2.1) : Nat) : Int)) then (if (((length (take (length x.2.2.2.2.2.2.1) (drop 0 x.2.2.2.2.2.2.1))) + (length (take 1 (drop 0 (List.set (replicate 1 (0 : Int)) 0 (getD x.2.2.2.2.2.2.1 (0 + (Int.toNat (IntKind.wrap .i64 ((((length x.2.2.2.2.2.2.1) : Nat) : Int) - x.2.2.2.2.2.2.2.2.2.1)))) (0 : Int))))))) ≤ 140737488355328) then (if ((length ((take (length x.2.2.2.2.2.2.1) (drop 0 x.2.2.2.2.2.2.1)) ++ (take 1 (drop 0 (List.set (replicate 1 (0 : Int)) 0 (getD x.2.2.2.2.2.2.1 (0 + (Int.toNat (IntKind.wrap .i64 ((((length x.2.2.2.2.2.2.1) : Nat) : Int) - x.2.2.2.2.2.2.2.2.2.1)))) (0 : Int))))))) = (length ((take (length x.2.2.2.2.2.2.1) (drop 0 x.2.2.2.2.2.2.1)) ++ (take 1 (drop 0 (List.set (replicate 1 (0 : Int)) 0 (getD x.2.2.2.2.2.2.1 (0 + (Int.toNat (IntKind.wrap .i64 ((((length x.2.2.2.2.2.2.1) : Nat) : Int) - x.2.2.2.2.2.2.2.2.2.1)))) (0 : Int)))))))) then (some (Sum.inl (x.1, x.2.1, x.2.2.1, x.2.2.2.1, x.2.2.2.2.1, (IntKind.wrap .i64 (x.2.2.2.2.2.1 + (1 : Int))), ((take (length x.2.2.2.2.2.2.1) (drop 0 x.2.2.2.2.2.2.1)) ++ (take 1 (drop 0 (List.set (replicate 1 (0 : Int)) 0 (getD x.2.2.2.2.2.2.1 (0 + (Int.toNat (IntKind.wrap .i64 ((((length x.2.2.2.2.2.2.1) : Nat) : Int) - x.2.2.2.2.2.2.2.2.2.1)))) (0 : Int)))))), x.2.2.2.2.2.2.2.1, x.2.2.2.2.2.2.2.2.1, x.2.2.2.2.2.2.2.2.2.1, ())))
 else none)
 else none)
 else none)
 else none)
 else (if ((length x.2.2.2.2.2.2.1) = (length x.2.2.2.2.2.2.1)) then (some (Sum.inr (Sum.inl (x.1, x.2.1, x.2.2.1, x.2.2.2.1, x.2.2.2.2.2.2.1, ()))))
 else none))
theorem b25_2_eq (x : g25_2.D) : b25_2 x = evF P (T24.orc _) Try.f25.ntmps fx25 (Code.at [tt, tt, tt, ff, tt, ff, ff, tt, tt, ff, ff, tt, tt, tt, ff, ff] c25) (planAt 64 []) g25_2 x (injK fx25 ((.normal, g25_2) :: o25_2) some) := by kernel_rfl
noncomputable def l25_2 : g25_2.D → Option (outD o25_2) := loopN g25_2 o25_2 b25_2 18446744073709551616
theorem at25_2 : Code.at [tt, tt, tt, ff, tt, ff, ff, tt, tt, ff, ff, tt, tt, tt, ff] c25 = .loop (Code.at [tt, tt, tt, ff, tt, ff, ff, tt, tt, ff, ff, tt, tt, tt, ff, ff] c25) := by kernel_rfl
theorem s25_2_ok : SubOk P Try.f25.ntmps fx25 (Code.at [tt, tt, tt, ff, tt, ff, ff, tt, tt, ff, ff, tt, tt, tt, ff] c25) ⟨g25_2, o25_2, l25_2⟩ := by
  rw [at25_2]
  exact loop_ok (sub_ok (g := g25_2) (outs := ((.normal, g25_2) :: o25_2)) (f := b25_2) (Table.ok T24_ok _) hmix (planAt_ok (P := P) (n := Try.f25.ntmps) (fx := fx25) (c := (Code.at [tt, tt, tt, ff, tt, ff, ff, tt, tt, ff, ff, tt, tt, tt, ff, ff] c25)) (d := 64) (l := []) trivial) b25_2_eq) rfl _
abbrev g25_1 : Sg := ⟨[1, 6, 19, 20, 21], [.lf (.int .i64), .lf (.gr (.int .u8) 0), .lf (.sl (.pair (.int .i64) (.pair (.int .i64) (.int .i64)))), .lf (.int .i64), .lf (.int .i64)], [some (.arr true (.int .u8))]⟩
abbrev o25_1 : Outs := [(.exit 0, ⟨[6], [.lf (.gr (.int .u8) 0)], [some (.arr true (.int .u8))]⟩), (.ret, ⟨[4, 5], [.lf (.sl (.int .u8)), .lf (.int .i64)], []⟩)]
noncomputable def b25_1 (x : g25_1.D) : Option (outD ((.normal, g25_1) :: o25_1)) :=
  (if ((decide (x.2.2.2.1 < x.2.2.1)) = true) then (if ((0 : Int) ≤ x.2.2.2.1) then (if (x.2.2.2.1 < (((length x.2.1) : Nat) : Int)) then (if ((decide ((getD x.2.1 (Int.toNat x.2.2.2.1) ((0 : Int), (0 : Int), (0 : Int))).2.2 > (((length x.2.2.2.2.1) : Nat) : Int))) = true) then (some (Sum.inr (Sum.inr (Sum.inl ([], (4 : Int), ())))))
 else (if ((decide ((IntKind.wrap .i64 ((((length x.2.2.2.2.1) : Nat) : Int) + (Max.max (getD x.2.1 (Int.toNat x.2.2.2.1) ((0 : Int), (0 : Int), (0 : Int))).2.1 (1 : Int)))) > x.1)) = true) then (some (Sum.inr (Sum.inr (Sum.inl ([], (2 : Int), ())))))
 else (if (((getD x.2.1 (Int.toNat x.2.2.2.1) ((0 : Int), (0 : Int), (0 : Int))).2.1 == (0 : Int)) = true) then (if (((length (take (length x.2.2.2.2.1) (drop 0 x.2.2.2.2.1))) + (length (take 1 (drop 0 (List.set (replicate 1 (0 : Int)) 0 (IntKind.wrap .u8 (getD x.2.1 (Int.toNat x.2.2.2.1) ((0 : Int), (0 : Int), (0 : Int))).1)))))) ≤ 140737488355328) then (if ((length ((take (length x.2.2.2.2.1) (drop 0 x.2.2.2.2.1)) ++ (take 1 (drop 0 (List.set (replicate 1 (0 : Int)) 0 (IntKind.wrap .u8 (getD x.2.1 (Int.toNat x.2.2.2.1) ((0 : Int), (0 : Int), (0 : Int))).1)))))) = (length ((take (length x.2.2.2.2.1) (drop 0 x.2.2.2.2.1)) ++ (take 1 (drop 0 (List.set (replicate 1 (0 : Int)) 0 (IntKind.wrap .u8 (getD x.2.1 (Int.toNat x.2.2.2.1) ((0 : Int), (0 : Int), (0 : Int))).1))))))) then (Option.bind (l25_2 (x.1, x.2.1, x.2.2.1, x.2.2.2.1, (getD x.2.1 (Int.toNat x.2.2.2.1) ((0 : Int), (0 : Int), (0 : Int))).2.1, (0 : Int), ((take (length x.2.2.2.2.1) (drop 0 x.2.2.2.2.1)) ++ (take 1 (drop 0 (List.set (replicate 1 (0 : Int)) 0 (IntKind.wrap .u8 (getD x.2.1 (Int.toNat x.2.2.2.1) ((0 : Int), (0 : Int), (0 : Int))).1))))), (getD x.2.1 (Int.toNat x.2.2.2.1) ((0 : Int), (0 : Int), (0 : Int))).1, (getD x.2.1 (Int.toNat x.2.2.2.1) ((0 : Int), (0 : Int), (0 : Int))).2.1, (getD x.2.1 (Int.toNat x.2.2.2.1) ((0 : Int), (0 : Int), (0 : Int))).2.2, ())) (Sum.elim (fun y1 => (if ((length y1.2.2.2.2.1) = (length y1.2.2.2.2.1)) then (some (Sum.inl (y1.1, y1.2.1, y1.2.2.1, (IntKind.wrap .i64 (y1.2.2.2.1 + (1 : Int))), y1.2.2.2.2.1, ())))
 else none)) Empty.elim))
 else none)
 else none)
 else (if ((length x.2.2.2.2.1) = (length x.2.2.2.2.1)) then (Option.bind (l25_2 (x.1, x.2.1, x.2.2.1, x.2.2.2.1, (getD x.2.1 (Int.toNat x.2.2.2.1) ((0 : Int), (0 : Int), (0 : Int))).2.1, (0 : Int), x.2.2.2.2.1, (getD x.2.1 (Int.toNat x.2.2.2.1) ((0 : Int), (0 : Int), (0 : Int))).1, (getD x.2.1 (Int.toNat x.2.2.2.1) ((0 : Int), (0 : Int), (0 : Int))).2.1, (getD x.2.1 (Int.toNat x.2.2.2.1) ((0 : Int), (0 : Int), (0 : Int))).2.2, ())) (Sum.elim (fun y1 => (if ((length y1.2.2.2.2.1) = (length y1.2.2.2.2.1)) then (some (Sum.inl (y1.1, y1.2.1, y1.2.2.1, (IntKind.wrap .i64 (y1.2.2.2.1 + (1 : Int))), y1.2.2.2.2.1, ())))
 else none)) Empty.elim))
 else none))))
 else none)
 else none)
 else (if ((length x.2.2.2.2.1) = (length x.2.2.2.2.1)) then (some (Sum.inr (Sum.inl (x.2.2.2.2.1, ()))))
 else none))
theorem b25_1_eq (x : g25_1.D) : b25_1 x = evF P (T24.orc _) Try.f25.ntmps fx25 (Code.at [tt, tt, tt, ff, tt, ff, ff] c25) (planAt 64 [([tt, tt, ff, ff, tt, tt, tt, ff], ⟨g25_2, o25_2, l25_2⟩)]) g25_1 x (injK fx25 ((.normal, g25_1) :: o25_1) some) := by kernel_rfl
noncomputable def l25_1 : g25_1.D → Option (outD o25_1) := loopN g25_1 o25_1 b25_1 18446744073709551616
theorem p25_1 : AllSub P Try.f25.ntmps fx25 (Code.at [tt, tt, tt, ff, tt, ff, ff] c25) [([tt, tt, ff, ff, tt, tt, tt, ff], ⟨g25_2, o25_2, l25_2⟩)] := And.intro s25_2_ok (trivial)
theorem q25_1 : PlanOk P Try.f25.ntmps fx25 (planAt 64 [([tt, tt, ff, ff, tt, tt, tt, ff], ⟨g25_2, o25_2, l25_2⟩)]) (Code.at [tt, tt, tt, ff, tt, ff, ff] c25) := planAt_ok p25_1
theorem at25_1 : Code.at [tt, tt, tt, ff, tt, ff] c25 = .loop (Code.at [tt, tt, tt, ff, tt, ff, ff] c25) := by kernel_rfl
theorem s25_1_ok : SubOk P Try.f25.ntmps fx25 (Code.at [tt, tt, tt, ff, tt, ff] c25) ⟨g25_1, o25_1, l25_1⟩ := by
  rw [at25_1]
  exact loop_ok (sub_ok (g := g25_1) (outs := ((.normal, g25_1) :: o25_1)) (f := b25_1) (Table.ok T24_ok _) hmix (q25_1) b25_1_eq) rfl _
noncomputable def f25 (x : gi25.D) : Option go25.D :=
  (if ((decide (x.2.1 < (0 : Int))) = true) then (some ([], (1 : Int), ()))
 else (if ((decide (x.2.1 > (1048576 : Int))) = true) then (some ([], (1 : Int), ()))
 else (Option.bind (f29_b (x.1, ())) (fun y1 => (if (y1.1 = true) then (some ([], (1 : Int), ()))
 else (Option.bind (l25_1 (x.2.1, x.1, (((length x.1) : Nat) : Int), (0 : Int), [], ())) (Sum.elim (fun y2 => (some ((take (length y2.1) (drop 0 y2.1)), (0 : Int), ()))) (Sum.elim (fun y2 => (some (y2.1, y2.2.1, ()))) Empty.elim))))))))
theorem f25_eq (x : gi25.D) : f25 x = evF P (T24.orc _) Try.f25.ntmps fx25 c25 (planAt 64 [([tt, tt, tt, ff, tt, ff], ⟨g25_1, o25_1, l25_1⟩)]) gi25 x (fnK fx25 [go25]) := by kernel_rfl
theorem pf25 : AllSub P Try.f25.ntmps fx25 c25 [([tt, tt, tt, ff, tt, ff], ⟨g25_1, o25_1, l25_1⟩)] := And.intro s25_1_ok (trivial)
theorem qf25 : PlanOk P Try.f25.ntmps fx25 (planAt 64 [([tt, tt, tt, ff, tt, ff], ⟨g25_1, o25_1, l25_1⟩)]) c25 := planAt_ok pf25
theorem f25_ok : EntOk P 25 ⟨gi25, [go25], f25⟩ :=
  ent_ok (fn := Try.f25) (gi := gi25) (gos := [go25]) (f := f25) (c := c25) (fx := fx25) ⟨Try.func25, by kernel_rfl, rfl, by decide +kernel, rfl, rfl⟩ (by kernel_rfl) (Table.ok T24_ok _) hmix (qf25) f25_eq
noncomputable def T25 : Table := T24.add 25 [⟨gi25, [go25], f25⟩] []
theorem T25_ok : TableOk P T25 := Table.plus T24_ok (es := [⟨gi25, [go25], f25⟩]) ⟨f25_ok, trivial⟩ []

noncomputable def c18 : Code := Func.code Try.f18
abbrev gi18 : Sg := ⟨[0, 1], [.lf (.sl (.int .u8)), .lf (.int .i64)], []⟩
abbrev go18 : Sg := ⟨[4, 5, 6], [.lf (.sl (.int .u8)), .lf (.int .i64), .lf (.int .i64)], []⟩
def fx18 : List Bool := []
noncomputable def f18 (x : gi18.D) : Option go18.D :=
  (Option.bind (f24 (x.1, x.2.1, ())) (fun y1 => (if ((y1.2.2.1 != (0 : Int)) = true) then (some ([], (0 : Int), y1.2.2.1, ()))
 else (Option.bind (f25 (y1.1, x.2.1, ())) (fun y2 => (some (y2.1, y1.2.1, y2.2.1, ())))))))
theorem f18_eq (x : gi18.D) : f18 x = evF P (T25.orc _) Try.f18.ntmps fx18 c18 (planAt 64 []) gi18 x (fnK fx18 [go18]) := by kernel_rfl
theorem f18_ok : EntOk P 18 ⟨gi18, [go18], f18⟩ :=
  ent_ok (fn := Try.f18) (gi := gi18) (gos := [go18]) (f := f18) (c := c18) (fx := fx18) ⟨Try.func18, by kernel_rfl, rfl, by decide +kernel, rfl, rfl⟩ (by kernel_rfl) (Table.ok T25_ok _) hmix (planAt_ok (P := P) (n := Try.f18.ntmps) (fx := fx18) (c := c18) (d := 64) (l := []) trivial) f18_eq
noncomputable def T18 : Table := T25.add 18 [⟨gi18, [go18], f18⟩] []
theorem T18_ok : TableOk P T18 := Table.plus T25_ok (es := [⟨gi18, [go18], f18⟩]) ⟨f18_ok, trivial⟩ []

noncomputable def c12 : Code := Func.code Try.f12
abbrev gi12 : Sg := ⟨[0, 1], [.lf (.sl (.int .u8)), .lf (.int .i64)], []⟩
abbrev go12 : Sg := ⟨[4, 5], [.lf (.sl (.int .u8)), .lf (.int .i64)], []⟩
def fx12 : List Bool := []
abbrev g12_1 : Sg := ⟨[6, 10, 77, 78, 79], [.lf (.sl (.int .u8)), .lf (.int .i64), .lf (.sl (.int .u8)), .lf (.int .i64), .lf (.int .i64)], []⟩
abbrev o12_1 : Outs := [(.exit 1, ⟨[6, 10], [.lf (.sl (.int .u8)), .lf (.int .i64)], []⟩)]
noncomputable def b12_1 (x : g12_1.D) : Option (outD ((.normal, g12_1) :: o12_1)) :=
  (if ((decide (x.2.2.2.2.1 < x.2.2.2.1)) = true) then (if ((0 : Int) ≤ x.2.2.2.2.1) then (if (x.2.2.2.2.1 < (((length x.2.2.1) : Nat) : Int)) then (some (Sum.inl (x.1, (IntKind.wrap .i64 (((BitVec.toNat ((BitVec.ofInt 64 (IntKind.wrap .i64 (x.2.1 * (256 : Int)))) ||| (BitVec.ofInt 64 (IntKind.wrap .i64 (getD x.2.2.1 (Int.toNat x.2.2.2.2.1) (0 : Int)))))) : Nat) : Int)), x.2.2.1, x.2.2.2.1, (IntKind.wrap .i64 (x.2.2.2.2.1 + (1 : Int))), ())))
 else none)
 else none)
 else (some (Sum.inr (Sum.inl (x.1, x.2.1, ())))))
theorem b12_1_eq (x : g12_1.D) : b12_1 x = evF P (T18.orc _) Try.f12.ntmps fx12 (Code.at [tt, tt, tt, tt, tt, tt, tt, ff, tt, ff, ff] c12) (planAt 64 []) g12_1 x (injK fx12 ((.normal, g12_1) :: o12_1) some) := by kernel_rfl
noncomputable def l12_1 : g12_1.D → Option (outD o12_1) := loopN g12_1 o12_1 b12_1 18446744073709551616
theorem at12_1 : Code.at [tt, tt, tt, tt, tt, tt, tt, ff, tt, ff] c12 = .loop (Code.at [tt, tt, tt, tt, tt, tt, tt, ff, tt, ff, ff] c12) := by kernel_rfl
theorem s12_1_ok : SubOk P Try.f12.ntmps fx12 (Code.at [tt, tt, tt, tt, tt, tt, tt, ff, tt, ff] c12) ⟨g12_1, o12_1, l12_1⟩ := by
  rw [at12_1]
  exact loop_ok (sub_ok (g := g12_1) (outs := ((.normal, g12_1) :: o12_1)) (f := b12_1) (Table.ok T18_ok _) hmix (planAt_ok (P := P) (n := Try.f12.ntmps) (fx := fx12) (c := (Code.at [tt, tt, tt, tt, tt, tt, tt, ff, tt, ff, ff] c12)) (d := 64) (l := []) trivial) b12_1_eq) rfl _
noncomputable def f12 (x : gi12.D) : Option go12.D :=
  (if ((decide (x.2.1 < (0 : Int))) = true) then (some ([], (1 : Int), ()))
 else (if ((decide (x.2.1 > (1048576 : Int))) = true) then (some ([], (1 : Int), ()))
 else (if ((decide ((((length x.1) : Nat) : Int) < (2 : Int))) = true) then (some ([], (6 : Int), ()))
 else (if ((0 : Int) < (((length x.1) : Nat) : Int)) then (if (((IntKind.wrap .u8 (((BitVec.toNat ((BitVec.ofInt 8 (getD x.1 0 (0 : Int))) &&& (BitVec.ofInt 8 (15 : Int)))) : Nat) : Int)) != (8 : Int)) = true) then (some ([], (4 : Int), ()))
 else (if ((0 : Int) < (((length x.1) : Nat) : Int)) then (if ((decide ((Int.fdiv (getD x.1 0 (0 : Int)) (16 : Int)) > (7 : Int))) = true) then (some ([], (4 : Int), ()))
 else (if ((0 : Int) < (((length x.1) : Nat) : Int)) then (if ((1 : Int) < (((length x.1) : Nat) : Int)) then (if (((Int.tmod (IntKind.wrap .i64 (((BitVec.toNat ((BitVec.ofInt 64 (IntKind.wrap .i64 ((IntKind.wrap .i64 (getD x.1 0 (0 : Int))) * (256 : Int)))) ||| (BitVec.ofInt 64 (IntKind.wrap .i64 (getD x.1 1 (0 : Int)))))) : Nat) : Int)) (31 : Int)) != (0 : Int)) = true) then (some ([], (4 : Int), ()))
 else (if ((1 : Int) < (((length x.1) : Nat) : Int)) then (if (((IntKind.wrap .u8 (((BitVec.toNat ((BitVec.ofInt 8 (getD x.1 1 (0 : Int))) &&& (BitVec.ofInt 8 (32 : Int)))) : Nat) : Int)) != (0 : Int)) = true) then (some ([], (4 : Int), ()))
 else (if ((2 : Int) ≤ (((length x.1) : Nat) : Int)) then (Option.bind (f18 ((drop 2 x.1), x.2.1, ())) (fun y1 => (if ((y1.2.2.1 != (0 : Int)) = true) then (some ([], y1.2.2.1, ()))
 else (if ((0 : Int) ≤ (IntKind.wrap .i64 ((2 : Int) + y1.2.1))) then (if ((IntKind.wrap .i64 ((2 : Int) + y1.2.1)) ≤ (((length x.1) : Nat) : Int)) then (if ((decide ((((length (drop (Int.toNat (IntKind.wrap .i64 ((2 : Int) + y1.2.1))) x.1)) : Nat) : Int) < (4 : Int))) = true) then (some ([], (6 : Int), ()))
 else (if ((4 : Int) ≤ (((length (drop (Int.toNat (IntKind.wrap .i64 ((2 : Int) + y1.2.1))) x.1)) : Nat) : Int)) then (Option.bind (l12_1 (y1.1, (0 : Int), (take 4 (drop (Int.toNat (IntKind.wrap .i64 ((2 : Int) + y1.2.1))) x.1)), (((length (take 4 (drop (Int.toNat (IntKind.wrap .i64 ((2 : Int) + y1.2.1))) x.1))) : Nat) : Int), (0 : Int), ())) (Sum.elim (fun y2 => (Option.bind (f7 (y2.1, ())) (fun y3 => (if ((y2.2.1 != y3.1) = true) then (some ([], (7 : Int), ()))
 else (some (y2.1, (0 : Int), ())))))) Empty.elim))
 else none))
 else none)
 else none))))
 else none))
 else none))
 else none)
 else none))
 else none))
 else none))))
theorem f12_eq (x : gi12.D) : f12 x = evF P (T18.orc _) Try.f12.ntmps fx12 c12 (planAt 64 [([tt, tt, tt, tt, tt, tt, tt, ff, tt, ff], ⟨g12_1, o12_1, l12_1⟩)]) gi12 x (fnK fx12 [go12]) := by kernel_rfl
theorem pf12 : AllSub P Try.f12.ntmps fx12 c12 [([tt, tt, tt, tt, tt, tt, tt, ff, tt, ff], ⟨g12_1, o12_1, l12_1⟩)] := And.intro s12_1_ok (trivial)
theorem qf12 : PlanOk P Try.f12.ntmps fx12 (planAt 64 [([tt, tt, tt, tt, tt, tt, tt, ff, tt, ff], ⟨g12_1, o12_1, l12_1⟩)]) c12 := planAt_ok pf12
theorem f12_ok : EntOk P 12 ⟨gi12, [go12], f12⟩ :=
  ent_ok (fn := Try.f12) (gi := gi12) (gos := [go12]) (f := f12) (c := c12) (fx := fx12) ⟨Try.func12, by kernel_rfl, rfl, by decide +kernel, rfl, rfl⟩ (by kernel_rfl) (Table.ok T18_ok _) hmix (qf12) f12_eq
noncomputable def T12 : Table := T18.add 12 [⟨gi12, [go12], f12⟩] []
theorem T12_ok : TableOk P T12 := Table.plus T18_ok (es := [⟨gi12, [go12], f12⟩]) ⟨f12_ok, trivial⟩ []

noncomputable def c58 : Code := Func.code Try.f58
abbrev gi58 : Sg := ⟨[0], [.lf (.sl (.int .u8))], []⟩
abbrev go58 : Sg := ⟨[2], [.lf (.gr .bool 0)], [some (.arr true .bool)]⟩
def fx58 : List Bool := []
abbrev g58_2 : Sg := ⟨[0, 3, 4, 5, 6], [.lf (.sl (.int .u8)), .lf (.gr .bool 0), .lf (.int .i64), .lf (.int .i64), .lf (.int .i64)], [some (.arr true .bool)]⟩
abbrev o58_2 : Outs := [(.exit 2, ⟨[0, 3, 4], [.lf (.sl (.int .u8)), .lf (.gr .bool 0), .lf (.int .i64)], [some (.arr true .bool)]⟩)]
noncomputable def b58_2 (x : g58_2.D) : Option (outD ((.normal, g58_2) :: o58_2)) :=
  (if ((decide (x.2.2.2.1 < (8 : Int))) = true) then (if (((length (take (length x.2.2.2.2.1) (drop 0 x.2.2.2.2.1))) + (length (take 1 (drop 0 (List.set (replicate 1 false) 0 ((Int.tmod x.2.2.1 (2 : Int)) == (1 : Int))))))) ≤ 140737488355328) then (if ((length ((take (length x.2.2.2.2.1) (drop 0 x.2.2.2.2.1)) ++ (take 1 (drop 0 (List.set (replicate 1 false) 0 ((Int.tmod x.2.2.1 (2 : Int)) == (1 : Int))))))) = (length ((take (length x.2.2.2.2.1) (drop 0 x.2.2.2.2.1)) ++ (take 1 (drop 0 (List.set (replicate 1 false) 0 ((Int.tmod x.2.2.1 (2 : Int)) == (1 : Int)))))))) then (some (Sum.inl (x.1, x.2.1, (IntKind.wrap .i64 (Int.tdiv x.2.2.1 (2 : Int))), (IntKind.wrap .i64 (x.2.2.2.1 + (1 : Int))), ((take (length x.2.2.2.2.1) (drop 0 x.2.2.2.2.1)) ++ (take 1 (drop 0 (List.set (replicate 1 false) 0 ((Int.tmod x.2.2.1 (2 : Int)) == (1 : Int)))))), ())))
 else none)
 else none)
 else (if ((length x.2.2.2.2.1) = (length x.2.2.2.2.1)) then (some (Sum.inr (Sum.inl (x.1, x.2.1, x.2.2.2.2.1, ()))))
 else none))
theorem b58_2_eq (x : g58_2.D) : b58_2 x = evF P (T12.orc _) Try.f58.ntmps fx58 (Code.at [tt, tt, ff, tt, ff, ff, tt, ff, ff, tt, tt, ff, ff] c58) (planAt 64 []) g58_2 x (injK fx58 ((.normal, g58_2) :: o58_2) some) := by kernel_rfl
noncomputable def l58_2 : g58_2.D → Option (outD o58_2) := loopN g58_2 o58_2 b58_2 18446744073709551616
theorem at58_2 : Code.at [tt, tt, ff, tt, ff, ff, tt, ff, ff, tt, tt, ff] c58 = .loop (Code.at [tt, tt, ff, tt, ff, ff, tt, ff, ff, tt, tt, ff, ff] c58) := by kernel_rfl
theorem s58_2_ok : SubOk P Try.f58.ntmps fx58 (Code.at [tt, tt, ff, tt, ff, ff, tt, ff, ff, tt, tt, ff] c58) ⟨g58_2, o58_2, l58_2⟩ := by
  rw [at58_2]
  exact loop_ok (sub_ok (g := g58_2) (outs := ((.normal, g58_2) :: o58_2)) (f := b58_2) (Table.ok T12_ok _) hmix (planAt_ok (P := P) (n := Try.f58.ntmps) (fx := fx58) (c := (Code.at [tt, tt, ff, tt, ff, ff, tt, ff, ff, tt, tt, ff, ff] c58)) (d := 64) (l := []) trivial) b58_2_eq) rfl _
abbrev g58_1 : Sg := ⟨[0, 3, 4], [.lf (.sl (.int .u8)), .lf (.gr .bool 0), .lf (.int .i64)], [some (.arr true .bool)]⟩
abbrev o58_1 : Outs := [(.exit 0, ⟨[3], [.lf (.gr .bool 0)], [some (.arr true .bool)]⟩)]
noncomputable def b58_1 (x : g58_1.D) : Option (outD ((.normal, g58_1) :: o58_1)) :=
  (if ((decide (x.2.1 < (((length x.1) : Nat) : Int))) = true) then (if ((0 : Int) ≤ x.2.1) then (if (x.2.1 < (((length x.1) : Nat) : Int)) then (if ((length x.2.2.1) = (length x.2.2.1)) then (Option.bind (l58_2 (x.1, x.2.1, (IntKind.wrap .i64 (getD x.1 (Int.toNat x.2.1) (0 : Int))), (0 : Int), x.2.2.1, ())) (Sum.elim (fun y1 => (if ((length y1.2.2.1) = (length y1.2.2.1)) then (some (Sum.inl (y1.1, (IntKind.wrap .i64 (y1.2.1 + (1 : Int))), y1.2.2.1, ())))
 else none)) Empty.elim))
 else none)
 else none)
 else none)
 else (if ((length x.2.2.1) = (length x.2.2.1)) then (some (Sum.inr (Sum.inl (x.2.2.1, ()))))
 else none))
theorem b58_1_eq (x : g58_1.D) : b58_1 x = evF P (T12.orc _) Try.f58.ntmps fx58 (Code.at [tt, tt, ff, tt, ff, ff] c58) (planAt 64 [([tt, ff, ff, tt, tt, ff], ⟨g58_2, o58_2, l58_2⟩)]) g58_1 x (injK fx58 ((.normal, g58_1) :: o58_1) some) := by kernel_rfl
noncomputable def l58_1 : g58_1.D → Option (outD o58_1) := loopN g58_1 o58_1 b58_1 18446744073709551616
theorem p58_1 : AllSub P Try.f58.ntmps fx58 (Code.at [tt, tt, ff, tt, ff, ff] c58) [([tt, ff, ff, tt, tt, ff], ⟨g58_2, o58_2, l58_2⟩)] := And.intro s58_2_ok (trivial)
theorem q58_1 : PlanOk P Try.f58.ntmps fx58 (planAt 64 [([tt, ff, ff, tt, tt, ff], ⟨g58_2, o58_2, l58_2⟩)]) (Code.at [tt, tt, ff, tt, ff, ff] c58) := planAt_ok p58_1
theorem at58_1 : Code.at [tt, tt, ff, tt, ff] c58 = .loop (Code.at [tt, tt, ff, tt, ff, ff] c58) := by kernel_rfl
theorem s58_1_ok : SubOk P Try.f58.ntmps fx58 (Code.at [tt, tt, ff, tt, ff] c58) ⟨g58_1, o58_1, l58_1⟩ := by
  rw [at58_1]
  exact loop_ok (sub_ok (g := g58_1) (outs := ((.normal, g58_1) :: o58_1)) (f := b58_1) (Table.ok T12_ok _) hmix (q58_1) b58_1_eq) rfl _
noncomputable def f58 (x : gi58.D) : Option go58.D :=
  (Option.bind (l58_1 (x.1, (0 : Int), [], ())) (Sum.elim (fun y1 => (if ((length y1.1) = (length y1.1)) then (some (y1.1, ()))
 else none)) Empty.elim))
theorem f58_eq (x : gi58.D) : f58 x = evF P (T12.orc _) Try.f58.ntmps fx58 c58 (planAt 64 [([tt, tt, ff, tt, ff], ⟨g58_1, o58_1, l58_1⟩)]) gi58 x (fnK fx58 [go58]) := by kernel_rfl
theorem pf58 : AllSub P Try.f58.ntmps fx58 c58 [([tt, tt, ff, tt, ff], ⟨g58_1, o58_1, l58_1⟩)] := And.intro s58_1_ok (trivial)
theorem qf58 : PlanOk P Try.f58.ntmps fx58 (planAt 64 [([tt, tt, ff, tt, ff], ⟨g58_1, o58_1, l58_1⟩)]) c58 := planAt_ok pf58
theorem f58_ok : EntOk P 58 ⟨gi58, [go58], f58⟩ :=
  ent_ok (fn := Try.f58) (gi := gi58) (gos := [go58]) (f := f58) (c := c58) (fx := fx58) ⟨Try.func58, by kernel_rfl, rfl, by decide +kernel, rfl, rfl⟩ (by kernel_rfl) (Table.ok T12_ok _) hmix (qf58) f58_eq
noncomputable def T58 : Table := T12.add 58 [⟨gi58, [go58], f58⟩] []
theorem T58_ok : TableOk P T58 := Table.plus T12_ok (es := [⟨gi58, [go58], f58⟩]) ⟨f58_ok, trivial⟩ []

noncomputable def c90 : Code := Func.code Try.f90
abbrev gi90 : Sg := ⟨[0], [.lf (.sl .bool)], []⟩
abbrev go90 : Sg := ⟨[2], [.lf (.int .i64)], []⟩
def fx90 : List Bool := []
abbrev g90_1 : Sg := ⟨[0, 3, 4], [.lf (.sl .bool), .lf (.int .i64), .lf (.int .i64)], []⟩
abbrev o90_1 : Outs := [(.exit 0, ⟨[3], [.lf (.int .i64)], []⟩)]
noncomputable def b90_1 (x : g90_1.D) : Option (outD ((.normal, g90_1) :: o90_1)) :=
  (if ((decide (x.2.2.1 ≥ (0 : Int))) = true) then (if ((0 : Int) ≤ x.2.2.1) then (if (x.2.2.1 < (((length x.1) : Nat) : Int)) then (if ((getD x.1 (Int.toNat x.2.2.1) false) = true) then (some (Sum.inl (x.1, (IntKind.wrap .i64 ((IntKind.wrap .i64 ((2 : Int) * x.2.1)) + (1 : Int))), (IntKind.wrap .i64 (x.2.2.1 - (1 : Int))), ())))
 else (some (Sum.inl (x.1, (IntKind.wrap .i64 ((2 : Int) * x.2.1)), (IntKind.wrap .i64 (x.2.2.1 - (1 : Int))), ()))))
 else none)
 else none)
 else (some (Sum.inr (Sum.inl (x.2.1, ())))))
theorem b90_1_eq (x : g90_1.D) : b90_1 x = evF P (T58.orc _) Try.f90.ntmps fx90 (Code.at [tt, tt, ff, tt, ff, ff] c90) (planAt 64 []) g90_1 x (injK fx90 ((.normal, g90_1) :: o90_1) some) := by kernel_rfl
noncomputable def l90_1 : g90_1.D → Option (outD o90_1) := loopN g90_1 o90_1 b90_1 18446744073709551616
theorem at90_1 : Code.at [tt, tt, ff, tt, ff] c90 = .loop (Code.at [tt, tt, ff, tt, ff, ff] c90) := by kernel_rfl
theorem s90_1_ok : SubOk P Try.f90.ntmps fx90 (Code.at [tt, tt, ff, tt, ff] c90) ⟨g90_1, o90_1, l90_1⟩ := by
  rw [at90_1]
  exact loop_ok (sub_ok (g := g90_1) (outs := ((.normal, g90_1) :: o90_1)) (f := b90_1) (Table.ok T58_ok _) hmix (planAt_ok (P := P) (n := Try.f90.ntmps) (fx := fx90) (c := (Code.at [tt, tt, ff, tt, ff, ff] c90)) (d := 64) (l := []) trivial) b90_1_eq) rfl _
noncomputable def f90 (x : gi90.D) : Option go90.D :=
  (Option.bind (l90_1 (x.1, (0 : Int), (IntKind.wrap .i64 ((((length x.1) : Nat) : Int) - (1 : Int))), ())) (Sum.elim (fun y1 => (some (y1.1, ()))) Empty.elim))
theorem f90_eq (x : gi90.D) : f90 x = evF P (T58.orc _) Try.f90.ntmps fx90 c90 (planAt 64 [([tt, tt, ff, tt, ff], ⟨g90_1, o90_1, l90_1⟩)]) gi90 x (fnK fx90 [go90]) := by kernel_rfl
theorem pf90 : AllSub P Try.f90.ntmps fx90 c90 [([tt, tt, ff, tt, ff], ⟨g90_1, o90_1, l90_1⟩)] := And.intro s90_1_ok (trivial)
theorem qf90 : PlanOk P Try.f90.ntmps fx90 (planAt 64 [([tt, tt, ff, tt, ff], ⟨g90_1, o90_1, l90_1⟩)]) c90 := planAt_ok pf90
theorem f90_ok : EntOk P 90 ⟨gi90, [go90], f90⟩ :=
  ent_ok (fn := Try.f90) (gi := gi90) (gos := [go90]) (f := f90) (c := c90) (fx := fx90) ⟨Try.func90, by kernel_rfl, rfl, by decide +kernel, rfl, rfl⟩ (by kernel_rfl) (Table.ok T58_ok _) hmix (qf90) f90_eq
noncomputable def T90 : Table := T58.add 90 [⟨gi90, [go90], f90⟩] []
theorem T90_ok : TableOk P T90 := Table.plus T58_ok (es := [⟨gi90, [go90], f90⟩]) ⟨f90_ok, trivial⟩ []

noncomputable def c78 : Code := Func.code Try.f78
abbrev gi78 : Sg := ⟨[0, 1], [.lf (.ptr 0 0), .lf (.int .i64)], [some (.box true [.lf (.sl .bool), .lf (.int .i64)])]⟩
abbrev go78 : Sg := ⟨[4, 5], [.lf (.int .i64), .lf (.int .i64)], [some (.box true [.lf (.sl .bool), .lf (.int .i64)])]⟩
def fx78 : List Bool := [tt]
noncomputable def f78 (x : gi78.D) : Option go78.D :=
  (if ((decide (x.1 < (0 : Int))) = true) then (some ((0 : Int), (1 : Int), x.2.1, x.2.2.1, ()))
 else (if ((decide (x.1 > (24 : Int))) = true) then (some ((0 : Int), (1 : Int), x.2.1, x.2.2.1, ()))
 else (if ((decide (x.1 > (IntKind.wrap .i64 ((((length x.2.1) : Nat) : Int) - x.2.2.1)))) = true) then (some ((0 : Int), (6 : Int), x.2.1, x.2.2.1, ()))
 else (if ((0 : Int) ≤ (IntKind.wrap .i64 (x.2.2.1 + x.1))) then (if ((IntKind.wrap .i64 (x.2.2.1 + x.1)) ≤ (((length x.2.1) : Nat) : Int)) then (if ((0 : Int) ≤ (IntKind.wrap .i64 ((IntKind.wrap .i64 (x.2.2.1 + x.1)) - x.1))) then (if ((IntKind.wrap .i64 ((IntKind.wrap .i64 (x.2.2.1 + x.1)) - x.1)) ≤ (((Int.toNat (IntKind.wrap .i64 (x.2.2.1 + x.1))) : Nat) : Int)) then (Option.bind (f90 ((drop (Int.toNat (IntKind.wrap .i64 ((IntKind.wrap .i64 (x.2.2.1 + x.1)) - x.1))) (take (Int.toNat (IntKind.wrap .i64 (x.2.2.1 + x.1))) x.2.1)), ())) (fun y1 => (some (y1.1, (0 : Int), x.2.1, (IntKind.wrap .i64 (x.2.2.1 + x.1)), ()))))
 else none)
 else none)
 else none)
 else none))))
theorem f78_eq (x : gi78.D) : f78 x = evF P (T90.orc _) Try.f78.ntmps fx78 c78 (planAt 64 []) gi78 x (fnK fx78 [go78]) := by kernel_rfl
theorem f78_ok : EntOk P 78 ⟨gi78, [go78], f78⟩ :=
  ent_ok (fn := Try.f78) (gi := gi78) (gos := [go78]) (f := f78) (c := c78) (fx := fx78) ⟨Try.func78, by kernel_rfl, rfl, by decide +kernel, rfl, rfl⟩ (by kernel_rfl) (Table.ok T90_ok _) hmix (planAt_ok (P := P) (n := Try.f78.ntmps) (fx := fx78) (c := c78) (d := 64) (l := []) trivial) f78_eq
noncomputable def T78 : Table := T90.add 78 [⟨gi78, [go78], f78⟩] []
theorem T78_ok : TableOk P T78 := Table.plus T90_ok (es := [⟨gi78, [go78], f78⟩]) ⟨f78_ok, trivial⟩ []

noncomputable def c91 : Code := Func.code Try.f91
abbrev gi91 : Sg := ⟨[0], [.lf (.ptr 0 0)], [some (.box true [.lf (.sl .bool), .lf (.int .i64)])]⟩
abbrev go91 : Sg := ⟨[2], [.lf (.int .i64)], [some (.box true [.lf (.sl .bool), .lf (.int .i64)])]⟩
def fx91 : List Bool := [tt]
abbrev g91_1 : Sg := ⟨[0], [.lf (.ptr 0 0)], [some (.box true [.lf (.sl .bool), .lf (.int .i64)])]⟩
abbrev o91_1 : Outs := [(.exit 0, ⟨[], [], [some (.box true [.lf (.sl .bool), .lf (.int .i64)])]⟩)]
noncomputable def b91_1 (x : g91_1.D) : Option (outD ((.normal, g91_1) :: o91_1)) :=
  (if (((Int.tmod x.2.1 (8 : Int)) != (0 : Int)) = true) then (some (Sum.inl (x.1, (IntKind.wrap .i64 (x.2.1 + (1 : Int))), ())))
 else (some (Sum.inr (Sum.inl (x.1, x.2.1, ())))))
theorem b91_1_eq (x : g91_1.D) : b91_1 x = evF P (T78.orc _) Try.f91.ntmps fx91 (Code.at [tt, ff, ff, ff] c91) (planAt 64 []) g91_1 x (injK fx91 ((.normal, g91_1) :: o91_1) some) := by kernel_rfl
noncomputable def l91_1 : g91_1.D → Option (outD o91_1) := loopN g91_1 o91_1 b91_1 18446744073709551616
theorem at91_1 : Code.at [tt, ff, ff] c91 = .loop (Code.at [tt, ff, ff, ff] c91) := by kernel_rfl
theorem s91_1_ok : SubOk P Try.f91.ntmps fx91 (Code.at [tt, ff, ff] c91) ⟨g91_1, o91_1, l91_1⟩ := by
  rw [at91_1]
  exact loop_ok (sub_ok (g := g91_1) (outs := ((.normal, g91_1) :: o91_1)) (f := b91_1) (Table.ok T78_ok _) hmix (planAt_ok (P := P) (n := Try.f91.ntmps) (fx := fx91) (c := (Code.at [tt, ff, ff, ff] c91)) (d := 64) (l := []) trivial) b91_1_eq) rfl _
noncomputable def f91 (x : gi91.D) : Option go91.D :=
  (Option.bind (l91_1 (x.1, x.2.1, ())) (Sum.elim (fun y1 => (some ((0 : Int), y1.1, y1.2.1, ()))) Empty.elim))
theorem f91_eq (x : gi91.D) : f91 x = evF P (T78.orc _) Try.f91.ntmps fx91 c91 (planAt 64 [([tt, ff, ff], ⟨g91_1, o91_1, l91_1⟩)]) gi91 x (fnK fx91 [go91]) := by kernel_rfl
theorem pf91 : AllSub P Try.f91.ntmps fx91 c91 [([tt, ff, ff], ⟨g91_1, o91_1, l91_1⟩)] := And.intro s91_1_ok (trivial)
theorem qf91 : PlanOk P Try.f91.ntmps fx91 (planAt 64 [([tt, ff, ff], ⟨g91_1, o91_1, l91_1⟩)]) c91 := planAt_ok pf91
theorem f91_ok : EntOk P 91 ⟨gi91, [go91], f91⟩ :=
  ent_ok (fn := Try.f91) (gi := gi91) (gos := [go91]) (f := f91) (c := c91) (fx := fx91) ⟨Try.func91, by kernel_rfl, rfl, by decide +kernel, rfl, rfl⟩ (by kernel_rfl) (Table.ok T78_ok _) hmix (qf91) f91_eq
noncomputable def T91 : Table := T78.add 91 [⟨gi91, [go91], f91⟩] []
theorem T91_ok : TableOk P T91 := Table.plus T78_ok (es := [⟨gi91, [go91], f91⟩]) ⟨f91_ok, trivial⟩ []

noncomputable def c92 : Code := Func.code Try.f92
abbrev gi92 : Sg := ⟨[0, 1], [.lf (.ptr 0 0), .lf (.int .i64)], [some (.box true [.lf (.sl .bool), .lf (.int .i64)])]⟩
abbrev go92 : Sg := ⟨[4, 5], [.lf (.gr (.int .u8) 1), .lf (.int .i64)], [some (.box true [.lf (.sl .bool), .lf (.int .i64)]), some (.arr true (.int .u8))]⟩
def fx92 : List Bool := [tt]
noncomputable def f92 (x : gi92.D) : Option go92.D :=
  (if ((decide (x.1 < (0 : Int))) = true) then (some ((1 : Int), x.2.1, x.2.2.1, [], ()))
 else (Option.bind (f91 (x.2.1, x.2.2.1, ())) (fun y1 => (if ((decide (x.1 > (IntKind.wrap .i64 (Int.tdiv (IntKind.wrap .i64 ((((length y1.2.1) : Nat) : Int) - y1.2.2.1)) (8 : Int))))) = true) then (some ((6 : Int), y1.2.1, y1.2.2.1, [], ()))
 else (if ((0 : Int) ≤ (IntKind.wrap .i64 (y1.2.2.1 + (IntKind.wrap .i64 ((8 : Int) * x.1))))) then (if ((IntKind.wrap .i64 (y1.2.2.1 + (IntKind.wrap .i64 ((8 : Int) * x.1)))) ≤ (((length y1.2.1) : Nat) : Int)) then (if ((0 : Int) ≤ (IntKind.wrap .i64 ((IntKind.wrap .i64 (y1.2.2.1 + (IntKind.wrap .i64 ((8 : Int) * x.1)))) - (IntKind.wrap .i64 ((8 : Int) * x.1))))) then (if ((IntKind.wrap .i64 ((IntKind.wrap .i64 (y1.2.2.1 + (IntKind.wrap .i64 ((8 : Int) * x.1)))) - (IntKind.wrap .i64 ((8 : Int) * x.1)))) ≤ (((Int.toNat (IntKind.wrap .i64 (y1.2.2.1 + (IntKind.wrap .i64 ((8 : Int) * x.1))))) : Nat) : Int)) then (Option.bind (f49 ((drop (Int.toNat (IntKind.wrap .i64 ((IntKind.wrap .i64 (y1.2.2.1 + (IntKind.wrap .i64 ((8 : Int) * x.1)))) - (IntKind.wrap .i64 ((8 : Int) * x.1))))) (take (Int.toNat (IntKind.wrap .i64 (y1.2.2.1 + (IntKind.wrap .i64 ((8 : Int) * x.1))))) y1.2.1)), ())) (fun y2 => (if ((length y2.1) = (length y2.1)) then (some ((0 : Int), y1.2.1, (IntKind.wrap .i64 (y1.2.2.1 + (IntKind.wrap .i64 ((8 : Int) * x.1)))), y2.1, ()))
 else none)))
 else none)
 else none)
 else none)
 else none)))))
theorem f92_eq (x : gi92.D) : f92 x = evF P (T91.orc _) Try.f92.ntmps fx92 c92 (planAt 64 []) gi92 x (fnK fx92 [go92]) := by kernel_rfl
theorem f92_ok : EntOk P 92 ⟨gi92, [go92], f92⟩ :=
  ent_ok (fn := Try.f92) (gi := gi92) (gos := [go92]) (f := f92) (c := c92) (fx := fx92) ⟨Try.func92, by kernel_rfl, rfl, by decide +kernel, rfl, rfl⟩ (by kernel_rfl) (Table.ok T91_ok _) hmix (planAt_ok (P := P) (n := Try.f92.ntmps) (fx := fx92) (c := c92) (d := 64) (l := []) trivial) f92_eq
noncomputable def T92 : Table := T91.add 92 [⟨gi92, [go92], f92⟩] []
theorem T92_ok : TableOk P T92 := Table.plus T91_ok (es := [⟨gi92, [go92], f92⟩]) ⟨f92_ok, trivial⟩ []

noncomputable def c60 : Code := Func.code Try.f60
abbrev gi60 : Sg := ⟨[0], [.agg [.lf (.int .i64), .lf (.int .i64), .lf (.int .i64)]], []⟩
abbrev go60 : Sg := ⟨[2], [.lf (.int .i64)], []⟩
def fx60 : List Bool := []
noncomputable def f60 (x : gi60.D) : Option go60.D :=
  (some ((Max.max x.2.1 (1 : Int)), ()))
theorem f60_eq (x : gi60.D) : f60 x = evF P (T92.orc _) Try.f60.ntmps fx60 c60 (planAt 64 []) gi60 x (fnK fx60 [go60]) := by kernel_rfl
theorem f60_ok : EntOk P 60 ⟨gi60, [go60], f60⟩ :=
  ent_ok (fn := Try.f60) (gi := gi60) (gos := [go60]) (f := f60) (c := c60) (fx := fx60) ⟨Try.func60, by kernel_rfl, rfl, by decide +kernel, rfl, rfl⟩ (by kernel_rfl) (Table.ok T92_ok _) hmix (planAt_ok (P := P) (n := Try.f60.ntmps) (fx := fx60) (c := c60) (d := 64) (l := []) trivial) f60_eq
noncomputable def T60 : Table := T92.add 60 [⟨gi60, [go60], f60⟩] []
theorem T60_ok : TableOk P T60 := Table.plus T92_ok (es := [⟨gi60, [go60], f60⟩]) ⟨f60_ok, trivial⟩ []

noncomputable def c93 : Code := Func.code Try.f93
abbrev gi93 : Sg := ⟨[0, 1], [.lf (.ptr 0 0), .agg [.lf (.int .i64), .lf (.int .i64), .lf (.int .i64)]], [some (.box true [.lf (.ptr 1 0), .lf (.gr (.pair (.int .i64) (.pair (.int .i64) (.int .i64))) 2), .lf (.int .i64), .lf (.int .i64)]), some (.box true [.lf (.sl .bool), .lf (.int .i64)]), some (.arr true (.pair (.int .i64) (.pair (.int .i64) (.int .i64))))]⟩
abbrev go93 : Sg := ⟨[4], [.lf (.int .i64)], [some (.box true [.lf (.ptr 1 0), .lf (.gr (.pair (.int .i64) (.pair (.int .i64) (.int .i64))) 3), .lf (.int .i64), .lf (.int .i64)]), some (.box true [.lf (.sl .bool), .lf (.int .i64)]), none, some (.arr true (.pair (.int .i64) (.pair (.int .i64) (.int .i64))))]⟩
def fx93 : List Bool := [tt, tt, ff]
noncomputable def f93 (x : gi93.D) : Option go93.D :=
  (if ((decide (x.2.2.1 > x.2.2.2.1)) = true) then (if ((length x.2.2.2.2.2.2.2.1) = (length x.2.2.2.2.2.2.2.1)) then (some ((4 : Int), x.2.2.2.1, x.2.2.2.2.1, x.2.2.2.2.2.1, x.2.2.2.2.2.2.1, x.2.2.2.2.2.2.2.1, ()))
 else none)
 else (Option.bind (f60 (x.1, x.2.1, x.2.2.1, ())) (fun y1 => (if ((decide ((IntKind.wrap .i64 (x.2.2.2.1 + y1.1)) > x.2.2.2.2.1)) = true) then (if ((length x.2.2.2.2.2.2.2.1) = (length x.2.2.2.2.2.2.2.1)) then (some ((2 : Int), x.2.2.2.1, x.2.2.2.2.1, x.2.2.2.2.2.1, x.2.2.2.2.2.2.1, x.2.2.2.2.2.2.2.1, ()))
 else none)
 else (if (((length (take (length x.2.2.2.2.2.2.2.1) (drop 0 x.2.2.2.2.2.2.2.1))) + (length (take 1 (drop 0 (List.set (replicate 1 ((0 : Int), (0 : Int), (0 : Int))) 0 (x.1, x.2.1, x.2.2.1)))))) ≤ 5864062014805) then (Option.bind (f60 (x.1, x.2.1, x.2.2.1, ())) (fun y2 => (if ((length ((take (length x.2.2.2.2.2.2.2.1) (drop 0 x.2.2.2.2.2.2.2.1)) ++ (take 1 (drop 0 (List.set (replicate 1 ((0 : Int), (0 : Int), (0 : Int))) 0 (x.1, x.2.1, x.2.2.1)))))) = (length ((take (length x.2.2.2.2.2.2.2.1) (drop 0 x.2.2.2.2.2.2.2.1)) ++ (take 1 (drop 0 (List.set (replicate 1 ((0 : Int), (0 : Int), (0 : Int))) 0 (x.1, x.2.1, x.2.2.1))))))) then (some ((0 : Int), (IntKind.wrap .i64 (x.2.2.2.1 + y2.1)), x.2.2.2.2.1, x.2.2.2.2.2.1, x.2.2.2.2.2.2.1, ((take (length x.2.2.2.2.2.2.2.1) (drop 0 x.2.2.2.2.2.2.2.1)) ++ (take 1 (drop 0 (List.set (replicate 1 ((0 : Int), (0 : Int), (0 : Int))) 0 (x.1, x.2.1, x.2.2.1))))), ()))
 else none)))
 else none)))))
theorem f93_eq (x : gi93.D) : f93 x = evF P (T60.orc _) Try.f93.ntmps fx93 c93 (planAt 64 []) gi93 x (fnK fx93 [go93]) := by kernel_rfl
theorem f93_ok : EntOk P 93 ⟨gi93, [go93], f93⟩ :=
  ent_ok (fn := Try.f93) (gi := gi93) (gos := [go93]) (f := f93) (c := c93) (fx := fx93) ⟨Try.func93, by kernel_rfl, rfl, by decide +kernel, rfl, rfl⟩ (by kernel_rfl) (Table.ok T60_ok _) hmix (planAt_ok (P := P) (n := Try.f93.ntmps) (fx := fx93) (c := c93) (d := 64) (l := []) trivial) f93_eq
noncomputable def T93 : Table := T60.add 93 [⟨gi93, [go93], f93⟩] []
theorem T93_ok : TableOk P T93 := Table.plus T60_ok (es := [⟨gi93, [go93], f93⟩]) ⟨f93_ok, trivial⟩ []

noncomputable def c79 : Code := Func.code Try.f79
abbrev gi79 : Sg := ⟨[0], [.lf (.ptr 0 0)], [some (.box true [.lf (.ptr 1 0), .lf (.gr (.pair (.int .i64) (.pair (.int .i64) (.int .i64))) 2), .lf (.int .i64), .lf (.int .i64)]), some (.box true [.lf (.sl .bool), .lf (.int .i64)]), some (.arr true (.pair (.int .i64) (.pair (.int .i64) (.int .i64))))]⟩
abbrev go79 : Sg := ⟨[2], [.lf (.int .i64)], [some (.box true [.lf (.ptr 1 0), .lf (.gr (.pair (.int .i64) (.pair (.int .i64) (.int .i64))) 3), .lf (.int .i64), .lf (.int .i64)]), some (.box true [.lf (.sl .bool), .lf (.int .i64)]), none, some (.arr true (.pair (.int .i64) (.pair (.int .i64) (.int .i64))))]⟩
def fx79 : List Bool := [tt, tt, ff]
abbrev g79_1 : Sg := ⟨[0, 3, 6, 7], [.lf (.ptr 0 0), .lf (.int .i64), .lf (.sl (.int .u8)), .lf (.int .i64)], [some (.box true [.lf (.ptr 1 0), .lf (.gr (.pair (.int .i64) (.pair (.int .i64) (.int .i64))) 3), .lf (.int .i64), .lf (.int .i64)]), some (.box true [.lf (.sl .bool), .lf (.int .i64)]), none, some (.arr true (.pair (.int .i64) (.pair (.int .i64) (.int .i64))))]⟩
abbrev o79_1 : Outs := [(.exit 0, ⟨[], [], [some (.box true [.lf (.ptr 1 0), .lf (.gr (.pair (.int .i64) (.pair (.int .i64) (.int .i64))) 3), .lf (.int .i64), .lf (.int .i64)]), some (.box true [.lf (.sl .bool), .lf (.int .i64)]), none, some (.arr true (.pair (.int .i64) (.pair (.int .i64) (.int .i64))))]⟩)]
noncomputable def b79_1 (x : g79_1.D) : Option (outD ((.normal, g79_1) :: o79_1)) :=
  (if ((decide (x.2.2.1 < x.1)) = true) then (if ((0 : Int) ≤ x.2.2.1) then (if (x.2.2.1 < (((length x.2.1) : Nat) : Int)) then (if ((length x.2.2.2.2.2.2.2.1) = (length x.2.2.2.2.2.2.2.1)) then (Option.bind (f93 ((IntKind.wrap .i64 (getD x.2.1 (Int.toNat x.2.2.1) (0 : Int))), (0 : Int), (0 : Int), x.2.2.2.1, x.2.2.2.2.1, x.2.2.2.2.2.1, x.2.2.2.2.2.2.1, x.2.2.2.2.2.2.2.1, ())) (fun y1 => (if ((length y1.2.2.2.2.2.1) = (length y1.2.2.2.2.2.1)) then (some (Sum.inl (x.1, x.2.1, (IntKind.wrap .i64 (x.2.2.1 + (1 : Int))), y1.2.1, y1.2.2.1, y1.2.2.2.1, y1.2.2.2.2.1, y1.2.2.2.2.2.1, ())))
 else none)))
 else none)
 else none)
 else none)
 else (if ((length x.2.2.2.2.2.2.2.1) = (length x.2.2.2.2.2.2.2.1)) then (some (Sum.inr (Sum.inl (x.2.2.2.1, x.2.2.2.2.1, x.2.2.2.2.2.1, x.2.2.2.2.2.2.1, x.2.2.2.2.2.2.2.1, ()))))
 else none))
theorem b79_1_eq (x : g79_1.D) : b79_1 x = evF P (T93.orc _) Try.f79.ntmps fx79 (Code.at [tt, tt, tt, tt, tt, tt, tt, tt, tt, tt, ff, tt, ff, ff] c79) (planAt 64 []) g79_1 x (injK fx79 ((.normal, g79_1) :: o79_1) some) := by kernel_rfl
noncomputable def l79_1 : g79_1.D → Option (outD o79_1) := loopN g79_1 o79_1 b79_1 18446744073709551616
theorem at79_1 : Code.at [tt, tt, tt, tt, tt, tt, tt, tt, tt, tt, ff, tt, ff] c79 = .loop (Code.at [tt, tt, tt, tt, tt, tt, tt, tt, tt, tt, ff, tt, ff, ff] c79) := by kernel_rfl
theorem s79_1_ok : SubOk P Try.f79.ntmps fx79 (Code.at [tt, tt, tt, tt, tt, tt, tt, tt, tt, tt, ff, tt, ff] c79) ⟨g79_1, o79_1, l79_1⟩ := by
  rw [at79_1]
  exact loop_ok (sub_ok (g := g79_1) (outs := ((.normal, g79_1) :: o79_1)) (f := b79_1) (Table.ok T93_ok _) hmix (planAt_ok (P := P) (n := Try.f79.ntmps) (fx := fx79) (c := (Code.at [tt, tt, tt, tt, tt, tt, tt, tt, tt, tt, ff, tt, ff, ff] c79)) (d := 64) (l := []) trivial) b79_1_eq) rfl _
noncomputable def f79 (x : gi79.D) : Option go79.D :=
  (Option.bind (f91 (x.2.2.1, x.2.2.2.1, ())) (fun y1 => (Option.bind (f78 ((16 : Int), y1.2.1, y1.2.2.1, ())) (fun y2 => (if ((y2.2.1 != (0 : Int)) = true) then (if ((length x.2.2.2.2.1) = (length x.2.2.2.2.1)) then (some (y2.2.1, x.1, x.2.1, y2.2.2.1, y2.2.2.2.1, x.2.2.2.2.1, ()))
 else none)
 else (Option.bind (f78 ((16 : Int), y2.2.2.1, y2.2.2.2.1, ())) (fun y3 => (if ((y3.2.1 != (0 : Int)) = true) then (if ((length x.2.2.2.2.1) = (length x.2.2.2.2.1)) then (some (y3.2.1, x.1, x.2.1, y3.2.2.1, y3.2.2.2.1, x.2.2.2.2.1, ()))
 else none)
 else (if (((IntKind.wrap .i64 (y2.1 + y3.1)) != (65535 : Int)) = true) then (if ((length x.2.2.2.2.1) = (length x.2.2.2.2.1)) then (some ((4 : Int), x.1, x.2.1, y3.2.2.1, y3.2.2.2.1, x.2.2.2.2.1, ()))
 else none)
 else (Option.bind (f92 (y2.1, y3.2.2.1, y3.2.2.2.1, ())) (fun y4 => (if ((y4.1 != (0 : Int)) = true) then (if ((length x.2.2.2.2.1) = (length x.2.2.2.2.1)) then (some (y4.1, x.1, x.2.1, y4.2.1, y4.2.2.1, x.2.2.2.2.1, ()))
 else none)
 else (if ((decide ((IntKind.wrap .i64 (x.1 + y2.1)) > x.2.1)) = true) then (if ((length x.2.2.2.2.1) = (length x.2.2.2.2.1)) then (some ((2 : Int), x.1, x.2.1, y4.2.1, y4.2.2.1, x.2.2.2.2.1, ()))
 else none)
 else (if ((length x.2.2.2.2.1) = (length x.2.2.2.2.1)) then (Option.bind (l79_1 (y2.1, (take (length y4.2.2.2.1) (drop 0 y4.2.2.2.1)), (0 : Int), x.1, x.2.1, y4.2.1, y4.2.2.1, x.2.2.2.2.1, ())) (Sum.elim (fun y5 => (if ((length y5.2.2.2.2.1) = (length y5.2.2.2.2.1)) then (some ((0 : Int), y5.1, y5.2.1, y5.2.2.1, y5.2.2.2.1, y5.2.2.2.2.1, ()))
 else none)) Empty.elim))
 else none))))))))))))))
theorem f79_eq (x : gi79.D) : f79 x = evF P (T93.orc _) Try.f79.ntmps fx79 c79 (planAt 64 [([tt, tt, tt, tt, tt, tt, tt, tt, tt, tt, ff, tt, ff], ⟨g79_1, o79_1, l79_1⟩)]) gi79 x (fnK fx79 [go79]) := by kernel_rfl
theorem pf79 : AllSub P Try.f79.ntmps fx79 c79 [([tt, tt, tt, tt, tt, tt, tt, tt, tt, tt, ff, tt, ff], ⟨g79_1, o79_1, l79_1⟩)] := And.intro s79_1_ok (trivial)
theorem qf79 : PlanOk P Try.f79.ntmps fx79 (planAt 64 [([tt, tt, tt, tt, tt, tt, tt, tt, tt, tt, ff, tt, ff], ⟨g79_1, o79_1, l79_1⟩)]) c79 := planAt_ok pf79
theorem f79_ok : EntOk P 79 ⟨gi79, [go79], f79⟩ :=
  ent_ok (fn := Try.f79) (gi := gi79) (gos := [go79]) (f := f79) (c := c79) (fx := fx79) ⟨Try.func79, by kernel_rfl, rfl, by decide +kernel, rfl, rfl⟩ (by kernel_rfl) (Table.ok T93_ok _) hmix (qf79) f79_eq
noncomputable def T79 : Table := T93.add 79 [⟨gi79, [go79], f79⟩] []
theorem T79_ok : TableOk P T79 := Table.plus T93_ok (es := [⟨gi79, [go79], f79⟩]) ⟨f79_ok, trivial⟩ []

noncomputable def c94 : Code := Func.code Try.f94
abbrev gi94 : Sg := ⟨[0, 1], [.lf (.sl (.int .i64)), .lf (.ptr 0 0)], [some (.box true [.lf (.sl .bool), .lf (.int .i64)])]⟩
abbrev go94 : Sg := ⟨[4, 5], [.lf (.int .i64), .lf (.int .i64)], [some (.box true [.lf (.sl .bool), .lf (.int .i64)])]⟩
def fx94 : List Bool := [tt]
abbrev g94_2 : Sg := ⟨[0, 1, 6, 8, 9, 12], [.lf (.sl (.int .i64)), .lf (.ptr 0 0), .lf (.sl (.int .i64)), .lf (.int .i64), .lf (.int .i64), .lf (.int .i64)], [some (.box true [.lf (.sl .bool), .lf (.int .i64)])]⟩
abbrev o94_2 : Outs := [(.exit 2, ⟨[0, 1, 6, 8, 9], [.lf (.sl (.int .i64)), .lf (.ptr 0 0), .lf (.sl (.int .i64)), .lf (.int .i64), .lf (.int .i64)], [some (.box true [.lf (.sl .bool), .lf (.int .i64)])]⟩), (.ret, ⟨[4, 5], [.lf (.int .i64), .lf (.int .i64)], [some (.box true [.lf (.sl .bool), .lf (.int .i64)])]⟩)]
noncomputable def b94_2 (x : g94_2.D) : Option (outD ((.normal, g94_2) :: o94_2)) :=
  (if ((decide (x.2.2.2.2.1 < (((length x.1) : Nat) : Int))) = true) then (if ((0 : Int) ≤ x.2.2.2.2.1) then (if (x.2.2.2.2.1 < (((length x.1) : Nat) : Int)) then (if (((getD x.1 (Int.toNat x.2.2.2.2.1) (0 : Int)) == x.2.2.2.1) = true) then (if ((0 : Int) ≤ x.2.2.2.2.1) then (if (x.2.2.2.2.1 < (((length x.2.1) : Nat) : Int)) then (if (((getD x.2.1 (Int.toNat x.2.2.2.2.1) (0 : Int)) == x.2.2.1) = true) then (some (Sum.inr (Sum.inr (Sum.inl (x.2.2.2.2.1, (0 : Int), x.2.2.2.2.2.1, x.2.2.2.2.2.2.1, ())))))
 else (some (Sum.inl (x.1, x.2.1, x.2.2.1, x.2.2.2.1, (IntKind.wrap .i64 (x.2.2.2.2.1 + (1 : Int))), x.2.2.2.2.2.1, x.2.2.2.2.2.2.1, ()))))
 else none)
 else none)
 else (some (Sum.inl (x.1, x.2.1, x.2.2.1, x.2.2.2.1, (IntKind.wrap .i64 (x.2.2.2.2.1 + (1 : Int))), x.2.2.2.2.2.1, x.2.2.2.2.2.2.1, ()))))
 else none)
 else none)
 else (some (Sum.inr (Sum.inl (x.1, x.2.1, x.2.2.1, x.2.2.2.1, x.2.2.2.2.2.1, x.2.2.2.2.2.2.1, ())))))
theorem b94_2_eq (x : g94_2.D) : b94_2 x = evF P (T79.orc _) Try.f94.ntmps fx94 (Code.at [tt, tt, tt, ff, tt, ff, ff, tt, ff, ff, tt, tt, tt, tt, ff, ff] c94) (planAt 64 []) g94_2 x (injK fx94 ((.normal, g94_2) :: o94_2) some) := by kernel_rfl
noncomputable def l94_2 : g94_2.D → Option (outD o94_2) := loopN g94_2 o94_2 b94_2 18446744073709551616
theorem at94_2 : Code.at [tt, tt, tt, ff, tt, ff, ff, tt, ff, ff, tt, tt, tt, tt, ff] c94 = .loop (Code.at [tt, tt, tt, ff, tt, ff, ff, tt, ff, ff, tt, tt, tt, tt, ff, ff] c94) := by kernel_rfl
theorem s94_2_ok : SubOk P Try.f94.ntmps fx94 (Code.at [tt, tt, tt, ff, tt, ff, ff, tt, ff, ff, tt, tt, tt, tt, ff] c94) ⟨g94_2, o94_2, l94_2⟩ := by
  rw [at94_2]
  exact loop_ok (sub_ok (g := g94_2) (outs := ((.normal, g94_2) :: o94_2)) (f := b94_2) (Table.ok T79_ok _) hmix (planAt_ok (P := P) (n := Try.f94.ntmps) (fx := fx94) (c := (Code.at [tt, tt, tt, ff, tt, ff, ff, tt, ff, ff, tt, tt, tt, tt, ff, ff] c94)) (d := 64) (l := []) trivial) b94_2_eq) rfl _
abbrev g94_1 : Sg := ⟨[0, 1, 6, 8, 9], [.lf (.sl (.int .i64)), .lf (.ptr 0 0), .lf (.sl (.int .i64)), .lf (.int .i64), .lf (.int .i64)], [some (.box true [.lf (.sl .bool), .lf (.int .i64)])]⟩
abbrev o94_1 : Outs := [(.exit 0, ⟨[], [], [some (.box true [.lf (.sl .bool), .lf (.int .i64)])]⟩), (.ret, ⟨[4, 5], [.lf (.int .i64), .lf (.int .i64)], [some (.box true [.lf (.sl .bool), .lf (.int .i64)])]⟩)]
noncomputable def b94_1 (x : g94_1.D) : Option (outD ((.normal, g94_1) :: o94_1)) :=
  (if ((decide (x.2.2.2.1 ≤ (15 : Int))) = true) then (Option.bind (f78 ((1 : Int), x.2.2.2.2.1, x.2.2.2.2.2.1, ())) (fun y1 => (if ((y1.2.1 != (0 : Int)) = true) then (some (Sum.inr (Sum.inr (Sum.inl ((0 : Int), y1.2.1, y1.2.2.1, y1.2.2.2.1, ())))))
 else (Option.bind (l94_2 (x.1, x.2.1, (IntKind.wrap .i64 ((IntKind.wrap .i64 ((2 : Int) * x.2.2.1)) + y1.1)), x.2.2.2.1, (0 : Int), y1.2.2.1, y1.2.2.2.1, ())) (Sum.elim (fun y2 => (some (Sum.inl (y2.1, y2.2.1, y2.2.2.1, (IntKind.wrap .i64 (y2.2.2.2.1 + (1 : Int))), y2.2.2.2.2.1, y2.2.2.2.2.2.1, ())))) (Sum.elim (fun y2 => (some (Sum.inr (Sum.inr (Sum.inl (y2.1, y2.2.1, y2.2.2.1, y2.2.2.2.1, ())))))) Empty.elim))))))
 else (some (Sum.inr (Sum.inl (x.2.2.2.2.1, x.2.2.2.2.2.1, ())))))
theorem b94_1_eq (x : g94_1.D) : b94_1 x = evF P (T79.orc _) Try.f94.ntmps fx94 (Code.at [tt, tt, tt, ff, tt, ff, ff] c94) (planAt 64 [([tt, ff, ff, tt, tt, tt, tt, ff], ⟨g94_2, o94_2, l94_2⟩)]) g94_1 x (injK fx94 ((.normal, g94_1) :: o94_1) some) := by kernel_rfl
noncomputable def l94_1 : g94_1.D → Option (outD o94_1) := loopN g94_1 o94_1 b94_1 18446744073709551616
theorem p94_1 : AllSub P Try.f94.ntmps fx94 (Code.at [tt, tt, tt, ff, tt, ff, ff] c94) [([tt, ff, ff, tt, tt, tt, tt, ff], ⟨g94_2, o94_2, l94_2⟩)] := And.intro s94_2_ok (trivial)
theorem q94_1 : PlanOk P Try.f94.ntmps fx94 (planAt 64 [([tt, ff, ff, tt, tt, tt, tt, ff], ⟨g94_2, o94_2, l94_2⟩)]) (Code.at [tt, tt, tt, ff, tt, ff, ff] c94) := planAt_ok p94_1
theorem at94_1 : Code.at [tt, tt, tt, ff, tt, ff] c94 = .loop (Code.at [tt, tt, tt, ff, tt, ff, ff] c94) := by kernel_rfl
theorem s94_1_ok : SubOk P Try.f94.ntmps fx94 (Code.at [tt, tt, tt, ff, tt, ff] c94) ⟨g94_1, o94_1, l94_1⟩ := by
  rw [at94_1]
  exact loop_ok (sub_ok (g := g94_1) (outs := ((.normal, g94_1) :: o94_1)) (f := b94_1) (Table.ok T79_ok _) hmix (q94_1) b94_1_eq) rfl _
noncomputable def f94 (x : gi94.D) : Option go94.D :=
  (Option.bind (f67 (x.1, ())) (fun y1 => (Option.bind (l94_1 (x.1, (take (length y1.2.1) (drop 0 y1.2.1)), (0 : Int), (1 : Int), x.2.1, x.2.2.1, ())) (Sum.elim (fun y2 => (some ((0 : Int), (4 : Int), y2.1, y2.2.1, ()))) (Sum.elim (fun y2 => (some (y2.1, y2.2.1, y2.2.2.1, y2.2.2.2.1, ()))) Empty.elim)))))
theorem f94_eq (x : gi94.D) : f94 x = evF P (T79.orc _) Try.f94.ntmps fx94 c94 (planAt 64 [([tt, tt, tt, ff, tt, ff], ⟨g94_1, o94_1, l94_1⟩)]) gi94 x (fnK fx94 [go94]) := by kernel_rfl
theorem pf94 : AllSub P Try.f94.ntmps fx94 c94 [([tt, tt, tt, ff, tt, ff], ⟨g94_1, o94_1, l94_1⟩)] := And.intro s94_1_ok (trivial)
theorem qf94 : PlanOk P Try.f94.ntmps fx94 (planAt 64 [([tt, tt, tt, ff, tt, ff], ⟨g94_1, o94_1, l94_1⟩)]) c94 := planAt_ok pf94
theorem f94_ok : EntOk P 94 ⟨gi94, [go94], f94⟩ :=
  ent_ok (fn := Try.f94) (gi := gi94) (gos := [go94]) (f := f94) (c := c94) (fx := fx94) ⟨Try.func94, by kernel_rfl, rfl, by decide +kernel, rfl, rfl⟩ (by kernel_rfl) (Table.ok T79_ok _) hmix (qf94) f94_eq
noncomputable def T94 : Table := T79.add 94 [⟨gi94, [go94], f94⟩] []
theorem T94_ok : TableOk P T94 := Table.plus T79_ok (es := [⟨gi94, [go94], f94⟩]) ⟨f94_ok, trivial⟩ []

noncomputable def c80 : Code := Func.code Try.f80
abbrev gi80 : Sg := ⟨[0, 1, 2], [.lf (.ptr 0 0), .lf (.sl (.int .i64)), .lf (.sl (.int .i64))], [some (.box true [.lf (.ptr 1 0), .lf (.gr (.pair (.int .i64) (.pair (.int .i64) (.int .i64))) 2), .lf (.int .i64), .lf (.int .i64)]), some (.box true [.lf (.sl .bool), .lf (.int .i64)]), some (.arr true (.pair (.int .i64) (.pair (.int .i64) (.int .i64))))]⟩
abbrev go80 : Sg := ⟨[6], [.lf (.int .i64)], [some (.box true [.lf (.ptr 1 0), .lf (.gr (.pair (.int .i64) (.pair (.int .i64) (.int .i64))) 3), .lf (.int .i64), .lf (.int .i64)]), some (.box true [.lf (.sl .bool), .lf (.int .i64)]), none, some (.arr true (.pair (.int .i64) (.pair (.int .i64) (.int .i64))))]⟩
def fx80 : List Bool := [tt, tt, ff]
abbrev g80_1 : Sg := ⟨[0, 1, 2], [.lf (.ptr 0 0), .lf (.sl (.int .i64)), .lf (.sl (.int .i64))], [some (.box true [.lf (.ptr 1 0), .lf (.gr (.pair (.int .i64) (.pair (.int .i64) (.int .i64))) 3), .lf (.int .i64), .lf (.int .i64)]), some (.box true [.lf (.sl .bool), .lf (.int .i64)]), none, some (.arr true (.pair (.int .i64) (.pair (.int .i64) (.int .i64))))]⟩
abbrev o80_1 : Outs := [(.ret, ⟨[6], [.lf (.int .i64)], [some (.box true [.lf (.ptr 1 0), .lf (.gr (.pair (.int .i64) (.pair (.int .i64) (.int .i64))) 3), .lf (.int .i64), .lf (.int .i64)]), some (.box true [.lf (.sl .bool), .lf (.int .i64)]), none, some (.arr true (.pair (.int .i64) (.pair (.int .i64) (.int .i64))))]⟩)]
noncomputable def b80_1 (x : g80_1.D) : Option (outD ((.normal, g80_1) :: o80_1)) :=
  (Option.bind (f94 (x.1, x.2.2.2.2.1, x.2.2.2.2.2.1, ())) (fun y1 => (if ((y1.2.1 != (0 : Int)) = true) then (if ((length x.2.2.2.2.2.2.1) = (length x.2.2.2.2.2.2.1)) then (some (Sum.inr (Sum.inl (y1.2.1, x.2.2.1, x.2.2.2.1, y1.2.2.1, y1.2.2.2.1, x.2.2.2.2.2.2.1, ()))))
 else none)
 else (if ((y1.1 == (256 : Int)) = true) then (if ((length x.2.2.2.2.2.2.1) = (length x.2.2.2.2.2.2.1)) then (some (Sum.inr (Sum.inl ((0 : Int), x.2.2.1, x.2.2.2.1, y1.2.2.1, y1.2.2.2.1, x.2.2.2.2.2.2.1, ()))))
 else none)
 else (if ((decide (y1.1 < (256 : Int))) = true) then (if ((length x.2.2.2.2.2.2.1) = (length x.2.2.2.2.2.2.1)) then (Option.bind (f93 (y1.1, (0 : Int), (0 : Int), x.2.2.1, x.2.2.2.1, y1.2.2.1, y1.2.2.2.1, x.2.2.2.2.2.2.1, ())) (fun y2 => (if ((y2.1 != (0 : Int)) = true) then (if ((length y2.2.2.2.2.2.1) = (length y2.2.2.2.2.2.1)) then (some (Sum.inr (Sum.inl (y2.1, y2.2.1, y2.2.2.1, y2.2.2.2.1, y2.2.2.2.2.1, y2.2.2.2.2.2.1, ()))))
 else none)
 else (if ((length y2.2.2.2.2.2.1) = (length y2.2.2.2.2.2.1)) then (some (Sum.inl (x.1, x.2.1, y2.2.1, y2.2.2.1, y2.2.2.2.1, y2.2.2.2.2.1, y2.2.2.2.2.2.1, ())))
 else none))))
 else none)
 else (if ((decide (y1.1 > (285 : Int))) = true) then (if ((length x.2.2.2.2.2.2.1) = (length x.2.2.2.2.2.2.1)) then (some (Sum.inr (Sum.inl ((4 : Int), x.2.2.1, x.2.2.2.1, y1.2.2.1, y1.2.2.2.1, x.2.2.2.2.2.2.1, ()))))
 else none)
 else (Option.bind (f46 (y1.1, ())) (fun y2 => (Option.bind (f78 (y2.2.1, y1.2.2.1, y1.2.2.2.1, ())) (fun y3 => (if ((y3.2.1 != (0 : Int)) = true) then (if ((length x.2.2.2.2.2.2.1) = (length x.2.2.2.2.2.2.1)) then (some (Sum.inr (Sum.inl (y3.2.1, x.2.2.1, x.2.2.2.1, y3.2.2.1, y3.2.2.2.1, x.2.2.2.2.2.2.1, ()))))
 else none)
 else (Option.bind (f94 (x.2.1, y3.2.2.1, y3.2.2.2.1, ())) (fun y4 => (if ((y4.2.1 != (0 : Int)) = true) then (if ((length x.2.2.2.2.2.2.1) = (length x.2.2.2.2.2.2.1)) then (some (Sum.inr (Sum.inl (y4.2.1, x.2.2.1, x.2.2.2.1, y4.2.2.1, y4.2.2.2.1, x.2.2.2.2.2.2.1, ()))))
 else none)
 else (if ((decide (y4.1 > (29 : Int))) = true) then (if ((length x.2.2.2.2.2.2.1) = (length x.2.2.2.2.2.2.1)) then (some (Sum.inr (Sum.inl ((4 : Int), x.2.2.1, x.2.2.2.1, y4.2.2.1, y4.2.2.2.1, x.2.2.2.2.2.2.1, ()))))
 else none)
 else (Option.bind (f48 (y4.1, ())) (fun y5 => (Option.bind (f78 (y5.2.1, y4.2.2.1, y4.2.2.2.1, ())) (fun y6 => (if ((y6.2.1 != (0 : Int)) = true) then (if ((length x.2.2.2.2.2.2.1) = (length x.2.2.2.2.2.2.1)) then (some (Sum.inr (Sum.inl (y6.2.1, x.2.2.1, x.2.2.2.1, y6.2.2.1, y6.2.2.2.1, x.2.2.2.2.2.2.1, ()))))
 else none)
 else (if ((length x.2.2.2.2.2.2.1) = (length x.2.2.2.2.2.2.1)) then (Option.bind (f93 ((0 : Int), (IntKind.wrap .i64 (y2.1 + y3.1)), (IntKind.wrap .i64 (y5.1 + y6.1)), x.2.2.1, x.2.2.2.1, y6.2.2.1, y6.2.2.2.1, x.2.2.2.2.2.2.1, ())) (fun y7 => (if ((y7.1 != (0 : Int)) = true) then (if ((length y7.2.2.2.2.2.1) = (length y7.2.2.2.2.2.1)) then (some (Sum.inr (Sum.inl (y7.1, y7.2.1, y7.2.2.1, y7.2.2.2.1, y7.2.2.2.2.1, y7.2.2.2.2.2.1, ()))))
 else none)
 else (if ((length y7.2.2.2.2.2.1) = (length y7.2.2.2.2.2.1)) then (some (Sum.inl (x.1, x.2.1, y7.2.1, y7.2.2.1, y7.2.2.2.1, y7.2.2.2.2.1, y7.2.2.2.2.2.1, ())))
 else none))))
 else none)))))))))))))))))))))
theorem b80_1_eq (x : g80_1.D) : b80_1 x = evF P (T94.orc _) Try.f80.ntmps fx80 (Code.at [tt, ff, ff] c80) (planAt 64 []) g80_1 x (injK fx80 ((.normal, g80_1) :: o80_1) some) := by kernel_rfl
noncomputable def l80_1 : g80_1.D → Option (outD o80_1) := loopN g80_1 o80_1 b80_1 18446744073709551616
theorem at80_1 : Code.at [tt, ff] c80 = .loop (Code.at [tt, ff, ff] c80) := by kernel_rfl
theorem s80_1_ok : SubOk P Try.f80.ntmps fx80 (Code.at [tt, ff] c80) ⟨g80_1, o80_1, l80_1⟩ := by
  rw [at80_1]
  exact loop_ok (sub_ok (g := g80_1) (outs := ((.normal, g80_1) :: o80_1)) (f := b80_1) (Table.ok T94_ok _) hmix (planAt_ok (P := P) (n := Try.f80.ntmps) (fx := fx80) (c := (Code.at [tt, ff, ff] c80)) (d := 64) (l := []) trivial) b80_1_eq) rfl _
noncomputable def f80 (x : gi80.D) : Option go80.D :=
  (if ((length x.2.2.2.2.2.2.1) = (length x.2.2.2.2.2.2.1)) then (Option.bind (l80_1 (x.1, x.2.1, x.2.2.1, x.2.2.2.1, x.2.2.2.2.1, x.2.2.2.2.2.1, x.2.2.2.2.2.2.1, ())) (Sum.elim (fun y1 => (if ((length y1.2.2.2.2.2.1) = (length y1.2.2.2.2.2.1)) then (some (y1.1, y1.2.1, y1.2.2.1, y1.2.2.2.1, y1.2.2.2.2.1, y1.2.2.2.2.2.1, ()))
 else none)) Empty.elim))
 else none)
theorem f80_eq (x : gi80.D) : f80 x = evF P (T94.orc _) Try.f80.ntmps fx80 c80 (planAt 64 [([tt, ff], ⟨g80_1, o80_1, l80_1⟩)]) gi80 x (fnK fx80 [go80]) := by kernel_rfl
theorem pf80 : AllSub P Try.f80.ntmps fx80 c80 [([tt, ff], ⟨g80_1, o80_1, l80_1⟩)] := And.intro s80_1_ok (trivial)
theorem qf80 : PlanOk P Try.f80.ntmps fx80 (planAt 64 [([tt, ff], ⟨g80_1, o80_1, l80_1⟩)]) c80 := planAt_ok pf80
theorem f80_ok : EntOk P 80 ⟨gi80, [go80], f80⟩ :=
  ent_ok (fn := Try.f80) (gi := gi80) (gos := [go80]) (f := f80) (c := c80) (fx := fx80) ⟨Try.func80, by kernel_rfl, rfl, by decide +kernel, rfl, rfl⟩ (by kernel_rfl) (Table.ok T94_ok _) hmix (qf80) f80_eq
noncomputable def T80 : Table := T94.add 80 [⟨gi80, [go80], f80⟩] []
theorem T80_ok : TableOk P T80 := Table.plus T94_ok (es := [⟨gi80, [go80], f80⟩]) ⟨f80_ok, trivial⟩ []

noncomputable def c95 : Code := Func.code Try.f95
abbrev gi95 : Sg := ⟨[0], [.lf (.sl (.int .i64))], []⟩
abbrev go95 : Sg := ⟨[2], [.lf (.int .i64)], []⟩
def fx95 : List Bool := []
abbrev g95_1 : Sg := ⟨[0, 5, 6, 7], [.lf (.sl (.int .i64)), .lf (.int .i64), .lf (.int .i64), .lf (.int .i64)], []⟩
abbrev o95_1 : Outs := [(.exit 0, ⟨[0, 5, 6], [.lf (.sl (.int .i64)), .lf (.int .i64), .lf (.int .i64)], []⟩)]
noncomputable def b95_1 (x : g95_1.D) : Option (outD ((.normal, g95_1) :: o95_1)) :=
  (if ((decide (x.2.2.2.1 < (((length x.1) : Nat) : Int))) = true) then (if ((0 : Int) ≤ x.2.2.2.1) then (if (x.2.2.2.1 < (((length x.1) : Nat) : Int)) then (if ((decide ((getD x.1 (Int.toNat x.2.2.2.1) (0 : Int)) > (0 : Int))) = true) then (if ((0 : Int) ≤ x.2.2.2.1) then (if (x.2.2.2.1 < (((length x.1) : Nat) : Int)) then (if (((getD x.1 (Int.toNat x.2.2.2.1) (0 : Int)) == (1 : Int)) = true) then (some (Sum.inl (x.1, (IntKind.wrap .i64 (x.2.1 + (1 : Int))), (IntKind.wrap .i64 (x.2.2.1 + (1 : Int))), (IntKind.wrap .i64 (x.2.2.2.1 + (1 : Int))), ())))
 else (some (Sum.inl (x.1, (IntKind.wrap .i64 (x.2.1 + (1 : Int))), x.2.2.1, (IntKind.wrap .i64 (x.2.2.2.1 + (1 : Int))), ()))))
 else none)
 else none)
 else (if ((0 : Int) ≤ x.2.2.2.1) then (if (x.2.2.2.1 < (((length x.1) : Nat) : Int)) then (if (((getD x.1 (Int.toNat x.2.2.2.1) (0 : Int)) == (1 : Int)) = true) then (some (Sum.inl (x.1, x.2.1, (IntKind.wrap .i64 (x.2.2.1 + (1 : Int))), (IntKind.wrap .i64 (x.2.2.2.1 + (1 : Int))), ())))
 else (some (Sum.inl (x.1, x.2.1, x.2.2.1, (IntKind.wrap .i64 (x.2.2.2.1 + (1 : Int))), ()))))
 else none)
 else none))
 else none)
 else none)
 else (some (Sum.inr (Sum.inl (x.1, x.2.1, x.2.2.1, ())))))
theorem b95_1_eq (x : g95_1.D) : b95_1 x = evF P (T80.orc _) Try.f95.ntmps fx95 (Code.at [tt, tt, tt, tt, tt, ff, tt, ff, ff] c95) (planAt 64 []) g95_1 x (injK fx95 ((.normal, g95_1) :: o95_1) some) := by kernel_rfl
noncomputable def l95_1 : g95_1.D → Option (outD o95_1) := loopN g95_1 o95_1 b95_1 18446744073709551616
theorem at95_1 : Code.at [tt, tt, tt, tt, tt, ff, tt, ff] c95 = .loop (Code.at [tt, tt, tt, tt, tt, ff, tt, ff, ff] c95) := by kernel_rfl
theorem s95_1_ok : SubOk P Try.f95.ntmps fx95 (Code.at [tt, tt, tt, tt, tt, ff, tt, ff] c95) ⟨g95_1, o95_1, l95_1⟩ := by
  rw [at95_1]
  exact loop_ok (sub_ok (g := g95_1) (outs := ((.normal, g95_1) :: o95_1)) (f := b95_1) (Table.ok T80_ok _) hmix (planAt_ok (P := P) (n := Try.f95.ntmps) (fx := fx95) (c := (Code.at [tt, tt, tt, tt, tt, ff, tt, ff, ff] c95)) (d := 64) (l := []) trivial) b95_1_eq) rfl _
noncomputable def f95 (x : gi95.D) : Option go95.D :=
  (Option.bind (f67 (x.1, ())) (fun y1 => (if ((y1.1 != (0 : Int)) = true) then (some (y1.1, ()))
 else (Option.bind (l95_1 (x.1, (0 : Int), (0 : Int), (0 : Int), ())) (Sum.elim (fun y2 => (Option.bind (f85 (y2.1, ())) (fun y3 => (if ((y3.1 == (32768 : Int)) = true) then (some ((0 : Int), ()))
 else (if ((y2.2.1 == (0 : Int)) = true) then (some ((0 : Int), ()))
 else (if ((y2.2.1 == (1 : Int)) = true) then (if ((y2.2.2.1 == (1 : Int)) = true) then (some ((0 : Int), ()))
 else (some ((4 : Int), ())))
 else (some ((4 : Int), ())))))))) Empty.elim)))))
theorem f95_eq (x : gi95.D) : f95 x = evF P (T80.orc _) Try.f95.ntmps fx95 c95 (planAt 64 [([tt, tt, tt, tt, tt, ff, tt, ff], ⟨g95_1, o95_1, l95_1⟩)]) gi95 x (fnK fx95 [go95]) := by kernel_rfl
theorem pf95 : AllSub P Try.f95.ntmps fx95 c95 [([tt, tt, tt, tt, tt, ff, tt, ff], ⟨g95_1, o95_1, l95_1⟩)] := And.intro s95_1_ok (trivial)
theorem qf95 : PlanOk P Try.f95.ntmps fx95 (planAt 64 [([tt, tt, tt, tt, tt, ff, tt, ff], ⟨g95_1, o95_1, l95_1⟩)]) c95 := planAt_ok pf95
theorem f95_ok : EntOk P 95 ⟨gi95, [go95], f95⟩ :=
  ent_ok (fn := Try.f95) (gi := gi95) (gos := [go95]) (f := f95) (c := c95) (fx := fx95) ⟨Try.func95, by kernel_rfl, rfl, by decide +kernel, rfl, rfl⟩ (by kernel_rfl) (Table.ok T80_ok _) hmix (qf95) f95_eq
noncomputable def T95 : Table := T80.add 95 [⟨gi95, [go95], f95⟩] []
theorem T95_ok : TableOk P T95 := Table.plus T80_ok (es := [⟨gi95, [go95], f95⟩]) ⟨f95_ok, trivial⟩ []

noncomputable def c81 : Code := Func.code Try.f81
abbrev gi81 : Sg := ⟨[0], [.lf (.ptr 0 0)], [some (.box true [.lf (.ptr 1 0), .lf (.gr (.pair (.int .i64) (.pair (.int .i64) (.int .i64))) 2), .lf (.int .i64), .lf (.int .i64)]), some (.box true [.lf (.sl .bool), .lf (.int .i64)]), some (.arr true (.pair (.int .i64) (.pair (.int .i64) (.int .i64))))]⟩
abbrev go81 : Sg := ⟨[2], [.lf (.int .i64)], [some (.box true [.lf (.ptr 1 0), .lf (.gr (.pair (.int .i64) (.pair (.int .i64) (.int .i64))) 3), .lf (.int .i64), .lf (.int .i64)]), some (.box true [.lf (.sl .bool), .lf (.int .i64)]), none, some (.arr true (.pair (.int .i64) (.pair (.int .i64) (.int .i64))))]⟩
def fx81 : List Bool := [tt, tt, ff]
abbrev g81_6 : Sg := ⟨[0, 3, 8, 12, 13, 17, 18, 19, 20], [.lf (.ptr 0 0), .lf (.int .i64), .lf (.sl (.int .i64)), .lf (.int .i64), .lf (.gr (.int .i64) 3), .lf (.int .i64), .lf (.int .i64), .lf (.int .i64), .lf (.int .i64)], [some (.box true [.lf (.ptr 1 0), .lf (.gr (.pair (.int .i64) (.pair (.int .i64) (.int .i64))) 4), .lf (.int .i64), .lf (.int .i64)]), some (.box true [.lf (.sl .bool), .lf (.int .i64)]), none, some (.arr true (.int .i64)), some (.arr true (.pair (.int .i64) (.pair (.int .i64) (.int .i64))))]⟩
abbrev o81_6 : Outs := [(.exit 4, ⟨[0, 3, 8, 12, 13], [.lf (.ptr 0 0), .lf (.int .i64), .lf (.sl (.int .i64)), .lf (.int .i64), .lf (.gr (.int .i64) 3)], [some (.box true [.lf (.ptr 1 0), .lf (.gr (.pair (.int .i64) (.pair (.int .i64) (.int .i64))) 4), .lf (.int .i64), .lf (.int .i64)]), some (.box true [.lf (.sl .bool), .lf (.int .i64)]), none, some (.arr true (.int .i64)), some (.arr true (.pair (.int .i64) (.pair (.int .i64) (.int .i64))))]⟩)]
noncomputable def b81_6 (x : g81_6.D) : Option (outD ((.normal, g81_6) :: o81_6)) :=
  (if ((decide (x.2.2.2.2.2.2.1 < (IntKind.wrap .i64 (x.2.2.2.1 + x.2.2.2.2.2.1)))) = true) then (if (((length (take (length x.2.2.2.2.2.2.2.2.2.2.2.1) (drop 0 x.2.2.2.2.2.2.2.2.2.2.2.1))) + (length (take 1 (drop 0 (List.set (replicate 1 (0 : Int)) 0 x.2.2.2.2.1))))) ≤ 17592186044416) then (if ((length ((take (length x.2.2.2.2.2.2.2.2.2.2.2.1) (drop 0 x.2.2.2.2.2.2.2.2.2.2.2.1)) ++ (take 1 (drop 0 (List.set (replicate 1 (0 : Int)) 0 x.2.2.2.2.1))))) = (length ((take (length x.2.2.2.2.2.2.2.2.2.2.2.1) (drop 0 x.2.2.2.2.2.2.2.2.2.2.2.1)) ++ (take 1 (drop 0 (List.set (replicate 1 (0 : Int)) 0 x.2.2.2.2.1)))))) then (if ((length x.2.2.2.2.2.2.2.2.2.2.2.2.1) = (length x.2.2.2.2.2.2.2.2.2.2.2.2.1)) then (some (Sum.inl (x.1, x.2.1, x.2.2.1, x.2.2.2.1, x.2.2.2.2.1, x.2.2.2.2.2.1, (IntKind.wrap .i64 (x.2.2.2.2.2.2.1 + (1 : Int))), x.2.2.2.2.2.2.2.1, x.2.2.2.2.2.2.2.2.1, x.2.2.2.2.2.2.2.2.2.1, x.2.2.2.2.2.2.2.2.2.2.1, ((take (length x.2.2.2.2.2.2.2.2.2.2.2.1) (drop 0 x.2.2.2.2.2.2.2.2.2.2.2.1)) ++ (take 1 (drop 0 (List.set (replicate 1 (0 : Int)) 0 x.2.2.2.2.1)))), x.2.2.2.2.2.2.2.2.2.2.2.2.1, ())))
 else none)
 else none)
 else none)
 else (if ((length x.2.2.2.2.2.2.2.2.2.2.2.1) = (length x.2.2.2.2.2.2.2.2.2.2.2.1)) then (if ((length x.2.2.2.2.2.2.2.2.2.2.2.2.1) = (length x.2.2.2.2.2.2.2.2.2.2.2.2.1)) then (some (Sum.inr (Sum.inl (x.1, x.2.1, x.2.2.1, x.2.2.2.2.2.2.2.1, x.2.2.2.2.2.2.2.2.1, x.2.2.2.2.2.2.2.2.2.1, x.2.2.2.2.2.2.2.2.2.2.1, x.2.2.2.2.2.2.2.2.2.2.2.1, x.2.2.2.2.2.2.2.2.2.2.2.2.1, ()))))
 else none)
 else none))
theorem b81_6_eq (x : g81_6.D) : b81_6 x = evF P (T95.orc _) Try.f81.ntmps fx81 (Code.at [tt, tt, tt, tt, tt, tt, tt, tt, tt, tt, tt, tt, tt, tt, tt, ff, ff, ff, tt, ff, tt, tt, tt, tt, tt, tt, tt, tt, tt, tt, tt, tt, tt, ff, ff] c81) (planAt 64 []) g81_6 x (injK fx81 ((.normal, g81_6) :: o81_6) some) := by kernel_rfl
noncomputable def l81_6 : g81_6.D → Option (outD o81_6) := loopN g81_6 o81_6 b81_6 18446744073709551616
theorem at81_6 : Code.at [tt, tt, tt, tt, tt, tt, tt, tt, tt, tt, tt, tt, tt, tt, tt, ff, ff, ff, tt, ff, tt, tt, tt, tt, tt, tt, tt, tt, tt, tt, tt, tt, tt, ff] c81 = .loop (Code.at [tt, tt, tt, tt, tt, tt, tt, tt, tt, tt, tt, tt, tt, tt, tt, ff, ff, ff, tt, ff, tt, tt, tt, tt, tt, tt, tt, tt, tt, tt, tt, tt, tt, ff, ff] c81) := by kernel_rfl
theorem s81_6_ok : SubOk P Try.f81.ntmps fx81 (Code.at [tt, tt, tt, tt, tt, tt, tt, tt, tt, tt, tt, tt, tt, tt, tt, ff, ff, ff, tt, ff, tt, tt, tt, tt, tt, tt, tt, tt, tt, tt, tt, tt, tt, ff] c81) ⟨g81_6, o81_6, l81_6⟩ := by
  rw [at81_6]
  exact loop_ok (sub_ok (g := g81_6) (outs := ((.normal, g81_6) :: o81_6)) (f := b81_6) (Table.ok T95_ok _) hmix (planAt_ok (P := P) (n := Try.f81.ntmps) (fx := fx81) (c := (Code.at [tt, tt, tt, tt, tt, tt, tt, tt, tt, tt, tt, tt, tt, tt, tt, ff, ff, ff, tt, ff, tt, tt, tt, tt, tt, tt, tt, tt, tt, tt, tt, tt, tt, ff, ff] c81)) (d := 64) (l := []) trivial) b81_6_eq) rfl _
abbrev g81_5 : Sg := ⟨[0, 3, 8, 12, 13, 14, 16, 17, 18], [.lf (.ptr 0 0), .lf (.int .i64), .lf (.sl (.int .i64)), .lf (.int .i64), .lf (.gr (.int .i64) 3), .lf (.int .i64), .lf (.int .i64), .lf (.int .i64), .lf (.int .i64)], [some (.box true [.lf (.ptr 1 0), .lf (.gr (.pair (.int .i64) (.pair (.int .i64) (.int .i64))) 4), .lf (.int .i64), .lf (.int .i64)]), some (.box true [.lf (.sl .bool), .lf (.int .i64)]), none, some (.arr true (.int .i64)), some (.arr true (.pair (.int .i64) (.pair (.int .i64) (.int .i64))))]⟩
abbrev o81_5 : Outs := [(.normal, ⟨[0, 3, 8, 12, 13, 16, 17, 18], [.lf (.ptr 0 0), .lf (.int .i64), .lf (.sl (.int .i64)), .lf (.int .i64), .lf (.gr (.int .i64) 3), .lf (.int .i64), .lf (.int .i64), .lf (.int .i64)], [some (.box true [.lf (.ptr 1 0), .lf (.gr (.pair (.int .i64) (.pair (.int .i64) (.int .i64))) 4), .lf (.int .i64), .lf (.int .i64)]), some (.box true [.lf (.sl .bool), .lf (.int .i64)]), none, some (.arr true (.int .i64)), some (.arr true (.pair (.int .i64) (.pair (.int .i64) (.int .i64))))]⟩)]
noncomputable def b81_5 (x : g81_5.D) : Option (outD o81_5) :=
  (if ((x.2.2.2.1 == (18 : Int)) = true) then (if ((length x.2.2.2.2.2.2.2.2.2.2.2.1) = (length x.2.2.2.2.2.2.2.2.2.2.2.1)) then (if ((length x.2.2.2.2.2.2.2.2.2.2.2.2.1) = (length x.2.2.2.2.2.2.2.2.2.2.2.2.1)) then (some (Sum.inl (x.1, x.2.1, x.2.2.1, (7 : Int), (11 : Int), x.2.2.2.2.2.2.1, x.2.2.2.2.2.2.2.1, x.2.2.2.2.2.2.2.2.1, x.2.2.2.2.2.2.2.2.2.1, x.2.2.2.2.2.2.2.2.2.2.1, x.2.2.2.2.2.2.2.2.2.2.2.1, x.2.2.2.2.2.2.2.2.2.2.2.2.1, ())))
 else none)
 else none)
 else (if ((length x.2.2.2.2.2.2.2.2.2.2.2.1) = (length x.2.2.2.2.2.2.2.2.2.2.2.1)) then (if ((length x.2.2.2.2.2.2.2.2.2.2.2.2.1) = (length x.2.2.2.2.2.2.2.2.2.2.2.2.1)) then (some (Sum.inl (x.1, x.2.1, x.2.2.1, x.2.2.2.2.1, x.2.2.2.2.2.1, x.2.2.2.2.2.2.1, x.2.2.2.2.2.2.2.1, x.2.2.2.2.2.2.2.2.1, x.2.2.2.2.2.2.2.2.2.1, x.2.2.2.2.2.2.2.2.2.2.1, x.2.2.2.2.2.2.2.2.2.2.2.1, x.2.2.2.2.2.2.2.2.2.2.2.2.1, ())))
 else none)
 else none))
theorem b81_5_eq (x : g81_5.D) : b81_5 x = evF P (T95.orc _) Try.f81.ntmps fx81 (Code.at [tt, tt, tt, tt, tt, tt, tt, tt, tt, tt, tt, tt, tt, tt, tt, ff, ff, ff, tt, ff, tt, tt, tt, tt, tt, tt, tt, tt, ff] c81) (planAt 64 []) g81_5 x (injK fx81 o81_5 some) := by kernel_rfl
theorem s81_5_ok : SubOk P Try.f81.ntmps fx81 (Code.at [tt, tt, tt, tt, tt, tt, tt, tt, tt, tt, tt, tt, tt, tt, tt, ff, ff, ff, tt, ff, tt, tt, tt, tt, tt, tt, tt, tt, ff] c81) ⟨g81_5, o81_5, b81_5⟩ :=
  sub_ok (g := g81_5) (outs := o81_5) (f := b81_5) (Table.ok T95_ok _) hmix (planAt_ok (P := P) (n := Try.f81.ntmps) (fx := fx81) (c := (Code.at [tt, tt, tt, tt, tt, tt, tt, tt, tt, tt, tt, tt, tt, tt, tt, ff, ff, ff, tt, ff, tt, tt, tt, tt, tt, tt, tt, tt, ff] c81)) (d := 64) (l := []) trivial) b81_5_eq
abbrev g81_4 : Sg := ⟨[0, 3, 8, 12, 13, 14, 16, 17, 18], [.lf (.ptr 0 0), .lf (.int .i64), .lf (.sl (.int .i64)), .lf (.int .i64), .lf (.gr (.int .i64) 3), .lf (.int .i64), .lf (.int .i64), .lf (.int .i64), .lf (.int .i64)], [some (.box true [.lf (.ptr 1 0), .lf (.gr (.pair (.int .i64) (.pair (.int .i64) (.int .i64))) 4), .lf (.int .i64), .lf (.int .i64)]), some (.box true [.lf (.sl .bool), .lf (.int .i64)]), none, some (.arr true (.int .i64)), some (.arr true (.pair (.int .i64) (.pair (.int .i64) (.int .i64))))]⟩
abbrev o81_4 : Outs := [(.normal, ⟨[0, 3, 8, 12, 13, 14, 16, 17, 18], [.lf (.ptr 0 0), .lf (.int .i64), .lf (.sl (.int .i64)), .lf (.int .i64), .lf (.gr (.int .i64) 3), .lf (.int .i64), .lf (.int .i64), .lf (.int .i64), .lf (.int .i64)], [some (.box true [.lf (.ptr 1 0), .lf (.gr (.pair (.int .i64) (.pair (.int .i64) (.int .i64))) 4), .lf (.int .i64), .lf (.int .i64)]), some (.box true [.lf (.sl .bool), .lf (.int .i64)]), none, some (.arr true (.int .i64)), some (.arr true (.pair (.int .i64) (.pair (.int .i64) (.int .i64))))]⟩)]
noncomputable def b81_4 (x : g81_4.D) : Option (outD o81_4) :=
  (if ((x.2.2.2.1 == (17 : Int)) = true) then (if ((length x.2.2.2.2.2.2.2.2.2.2.2.1) = (length x.2.2.2.2.2.2.2.2.2.2.2.1)) then (if ((length x.2.2.2.2.2.2.2.2.2.2.2.2.1) = (length x.2.2.2.2.2.2.2.2.2.2.2.2.1)) then (some (Sum.inl (x.1, x.2.1, x.2.2.1, x.2.2.2.1, (3 : Int), x.2.2.2.2.2.1, x.2.2.2.2.2.2.1, x.2.2.2.2.2.2.2.1, x.2.2.2.2.2.2.2.2.1, x.2.2.2.2.2.2.2.2.2.1, x.2.2.2.2.2.2.2.2.2.2.1, x.2.2.2.2.2.2.2.2.2.2.2.1, x.2.2.2.2.2.2.2.2.2.2.2.2.1, ())))
 else none)
 else none)
 else (if ((length x.2.2.2.2.2.2.2.2.2.2.2.1) = (length x.2.2.2.2.2.2.2.2.2.2.2.1)) then (if ((length x.2.2.2.2.2.2.2.2.2.2.2.2.1) = (length x.2.2.2.2.2.2.2.2.2.2.2.2.1)) then (some (Sum.inl (x.1, x.2.1, x.2.2.1, x.2.2.2.1, x.2.2.2.2.1, x.2.2.2.2.2.1, x.2.2.2.2.2.2.1, x.2.2.2.2.2.2.2.1, x.2.2.2.2.2.2.2.2.1, x.2.2.2.2.2.2.2.2.2.1, x.2.2.2.2.2.2.2.2.2.2.1, x.2.2.2.2.2.2.2.2.2.2.2.1, x.2.2.2.2.2.2.2.2.2.2.2.2.1, ())))
 else none)
 else none))
theorem b81_4_eq (x : g81_4.D) : b81_4 x = evF P (T95.orc _) Try.f81.ntmps fx81 (Code.at [tt, tt, tt, tt, tt, tt, tt, tt, tt, tt, tt, tt, tt, tt, tt, ff, ff, ff, tt, ff, tt, tt, tt, tt, tt, tt, tt, ff] c81) (planAt 64 []) g81_4 x (injK fx81 o81_4 some) := by kernel_rfl
theorem s81_4_ok : SubOk P Try.f81.ntmps fx81 (Code.at [tt, tt, tt, tt, tt, tt, tt, tt, tt, tt, tt, tt, tt, tt, tt, ff, ff, ff, tt, ff, tt, tt, tt, tt, tt, tt, tt, ff] c81) ⟨g81_4, o81_4, b81_4⟩ :=
  sub_ok (g := g81_4) (outs := o81_4) (f := b81_4) (Table.ok T95_ok _) hmix (planAt_ok (P := P) (n := Try.f81.ntmps) (fx := fx81) (c := (Code.at [tt, tt, tt, tt, tt, tt, tt, tt, tt, tt, tt, tt, tt, tt, tt, ff, ff, ff, tt, ff, tt, tt, tt, tt, tt, tt, tt, ff] c81)) (d := 64) (l := []) trivial) b81_4_eq
abbrev g81_3 : Sg := ⟨[0, 3, 8, 12, 13, 14, 16, 17, 18], [.lf (.ptr 0 0), .lf (.int .i64), .lf (.sl (.int .i64)), .lf (.int .i64), .lf (.gr (.int .i64) 3), .lf (.int .i64), .lf (.int .i64), .lf (.int .i64), .lf (.int .i64)], [some (.box true [.lf (.ptr 1 0), .lf (.gr (.pair (.int .i64) (.pair (.int .i64) (.int .i64))) 4), .lf (.int .i64), .lf (.int .i64)]), some (.box true [.lf (.sl .bool), .lf (.int .i64)]), none, some (.arr true (.int .i64)), some (.arr true (.pair (.int .i64) (.pair (.int .i64) (.int .i64))))]⟩
abbrev o81_3 : Outs := [(.ret, ⟨[2], [.lf (.int .i64)], [some (.box true [.lf (.ptr 1 0), .lf (.gr (.pair (.int .i64) (.pair (.int .i64) (.int .i64))) 3), .lf (.int .i64), .lf (.int .i64)]), some (.box true [.lf (.sl .bool), .lf (.int .i64)]), none, some (.arr true (.pair (.int .i64) (.pair (.int .i64) (.int .i64))))]⟩), (.normal, ⟨[0, 3, 8, 12, 13, 14, 16, 17, 18], [.lf (.ptr 0 0), .lf (.int .i64), .lf (.sl (.int .i64)), .lf (.int .i64), .lf (.gr (.int .i64) 3), .lf (.int .i64), .lf (.int .i64), .lf (.int .i64), .lf (.int .i64)], [some (.box true [.lf (.ptr 1 0), .lf (.gr (.pair (.int .i64) (.pair (.int .i64) (.int .i64))) 4), .lf (.int .i64), .lf (.int .i64)]), some (.box true [.lf (.sl .bool), .lf (.int .i64)]), none, some (.arr true (.int .i64)), some (.arr true (.pair (.int .i64) (.pair (.int .i64) (.int .i64))))]⟩)]
noncomputable def b81_3 (x : g81_3.D) : Option (outD o81_3) :=
  (if ((x.2.2.2.1 == (16 : Int)) = true) then (if (((((length x.2.2.2.2.2.2.2.2.2.2.2.1) : Nat) : Int) == (0 : Int)) = true) then (if ((length x.2.2.2.2.2.2.2.2.2.2.2.2.1) = (length x.2.2.2.2.2.2.2.2.2.2.2.2.1)) then (some (Sum.inl ((4 : Int), x.2.2.2.2.2.2.2.1, x.2.2.2.2.2.2.2.2.1, x.2.2.2.2.2.2.2.2.2.1, x.2.2.2.2.2.2.2.2.2.2.1, x.2.2.2.2.2.2.2.2.2.2.2.2.1, ())))
 else none)
 else (if ((0 : Int) ≤ (IntKind.wrap .i64 ((((length x.2.2.2.2.2.2.2.2.2.2.2.1) : Nat) : Int) - (1 : Int)))) then (if ((IntKind.wrap .i64 ((((length x.2.2.2.2.2.2.2.2.2.2.2.1) : Nat) : Int) - (1 : Int))) < (((length x.2.2.2.2.2.2.2.2.2.2.2.1) : Nat) : Int)) then (if ((length x.2.2.2.2.2.2.2.2.2.2.2.1) = (length x.2.2.2.2.2.2.2.2.2.2.2.1)) then (if ((length x.2.2.2.2.2.2.2.2.2.2.2.2.1) = (length x.2.2.2.2.2.2.2.2.2.2.2.2.1)) then (some (Sum.inr (Sum.inl (x.1, x.2.1, x.2.2.1, x.2.2.2.1, x.2.2.2.2.1, x.2.2.2.2.2.1, (getD x.2.2.2.2.2.2.2.2.2.2.2.1 (0 + (Int.toNat (IntKind.wrap .i64 ((((length x.2.2.2.2.2.2.2.2.2.2.2.1) : Nat) : Int) - (1 : Int))))) (0 : Int)), x.2.2.2.2.2.2.2.1, x.2.2.2.2.2.2.2.2.1, x.2.2.2.2.2.2.2.2.2.1, x.2.2.2.2.2.2.2.2.2.2.1, x.2.2.2.2.2.2.2.2.2.2.2.1, x.2.2.2.2.2.2.2.2.2.2.2.2.1, ()))))
 else none)
 else none)
 else none)
 else none))
 else (if ((length x.2.2.2.2.2.2.2.2.2.2.2.1) = (length x.2.2.2.2.2.2.2.2.2.2.2.1)) then (if ((length x.2.2.2.2.2.2.2.2.2.2.2.2.1) = (length x.2.2.2.2.2.2.2.2.2.2.2.2.1)) then (some (Sum.inr (Sum.inl (x.1, x.2.1, x.2.2.1, x.2.2.2.1, x.2.2.2.2.1, x.2.2.2.2.2.1, x.2.2.2.2.2.2.1, x.2.2.2.2.2.2.2.1, x.2.2.2.2.2.2.2.2.1, x.2.2.2.2.2.2.2.2.2.1, x.2.2.2.2.2.2.2.2.2.2.1, x.2.2.2.2.2.2.2.2.2.2.2.1, x.2.2.2.2.2.2.2.2.2.2.2.2.1, ()))))
 else none)
 else none))
theorem b81_3_eq (x : g81_3.D) : b81_3 x = evF P (T95.orc _) Try.f81.ntmps fx81 (Code.at [tt, tt, tt, tt, tt, tt, tt, tt, tt, tt, tt, tt, tt, tt, tt, ff, ff, ff, tt, ff, tt, tt, tt, tt, tt, tt, ff] c81) (planAt 64 []) g81_3 x (injK fx81 o81_3 some) := by kernel_rfl
theorem s81_3_ok : SubOk P Try.f81.ntmps fx81 (Code.at [tt, tt, tt, tt, tt, tt, tt, tt, tt, tt, tt, tt, tt, tt, tt, ff, ff, ff, tt, ff, tt, tt, tt, tt, tt, tt, ff] c81) ⟨g81_3, o81_3, b81_3⟩ :=
  sub_ok (g := g81_3) (outs := o81_3) (f := b81_3) (Table.ok T95_ok _) hmix (planAt_ok (P := P) (n := Try.f81.ntmps) (fx := fx81) (c := (Code.at [tt, tt, tt, tt, tt, tt, tt, tt, tt, tt, tt, tt, tt, tt, tt, ff, ff, ff, tt, ff, tt, tt, tt, tt, tt, tt, ff] c81)) (d := 64) (l := []) trivial) b81_3_eq
abbrev g81_2 : Sg := ⟨[0, 3, 8, 12, 13], [.lf (.ptr 0 0), .lf (.int .i64), .lf (.sl (.int .i64)), .lf (.int .i64), .lf (.gr (.int .i64) 3)], [some (.box true [.lf (.ptr 1 0), .lf (.gr (.pair (.int .i64) (.pair (.int .i64) (.int .i64))) 4), .lf (.int .i64), .lf (.int .i64)]), some (.box true [.lf (.sl .bool), .lf (.int .i64)]), none, some (.arr true (.int .i64)), some (.arr true (.pair (.int .i64) (.pair (.int .i64) (.int .i64))))]⟩
abbrev o81_2 : Outs := [(.exit 2, ⟨[0, 3, 13], [.lf (.ptr 0 0), .lf (.int .i64), .lf (.gr (.int .i64) 3)], [some (.box true [.lf (.ptr 1 0), .lf (.gr (.pair (.int .i64) (.pair (.int .i64) (.int .i64))) 4), .lf (.int .i64), .lf (.int .i64)]), some (.box true [.lf (.sl .bool), .lf (.int .i64)]), none, some (.arr true (.int .i64)), some (.arr true (.pair (.int .i64) (.pair (.int .i64) (.int .i64))))]⟩), (.ret, ⟨[2], [.lf (.int .i64)], [some (.box true [.lf (.ptr 1 0), .lf (.gr (.pair (.int .i64) (.pair (.int .i64) (.int .i64))) 3), .lf (.int .i64), .lf (.int .i64)]), some (.box true [.lf (.sl .bool), .lf (.int .i64)]), none, some (.arr true (.pair (.int .i64) (.pair (.int .i64) (.int .i64))))]⟩)]
noncomputable def b81_2 (x : g81_2.D) : Option (outD ((.normal, g81_2) :: o81_2)) :=
  (if ((decide ((((length x.2.2.2.2.2.2.2.1) : Nat) : Int) < x.2.2.1)) = true) then (Option.bind (f94 (x.2.1, x.2.2.2.2.2.1, x.2.2.2.2.2.2.1, ())) (fun y1 => (if ((y1.2.1 != (0 : Int)) = true) then (if ((length x.2.2.2.2.2.2.2.2.1) = (length x.2.2.2.2.2.2.2.2.1)) then (some (Sum.inr (Sum.inr (Sum.inl (y1.2.1, x.2.2.2.1, x.2.2.2.2.1, y1.2.2.1, y1.2.2.2.1, x.2.2.2.2.2.2.2.2.1, ())))))
 else none)
 else (if ((decide (y1.1 < (16 : Int))) = true) then (if (((length (take (length x.2.2.2.2.2.2.2.1) (drop 0 x.2.2.2.2.2.2.2.1))) + (length (take 1 (drop 0 (List.set (replicate 1 (0 : Int)) 0 y1.1))))) ≤ 17592186044416) then (if ((length ((take (length x.2.2.2.2.2.2.2.1) (drop 0 x.2.2.2.2.2.2.2.1)) ++ (take 1 (drop 0 (List.set (replicate 1 (0 : Int)) 0 y1.1))))) = (length ((take (length x.2.2.2.2.2.2.2.1) (drop 0 x.2.2.2.2.2.2.2.1)) ++ (take 1 (drop 0 (List.set (replicate 1 (0 : Int)) 0 y1.1)))))) then (if ((length x.2.2.2.2.2.2.2.2.1) = (length x.2.2.2.2.2.2.2.2.1)) then (some (Sum.inl (x.1, x.2.1, x.2.2.1, x.2.2.2.1, x.2.2.2.2.1, y1.2.2.1, y1.2.2.2.1, ((take (length x.2.2.2.2.2.2.2.1) (drop 0 x.2.2.2.2.2.2.2.1)) ++ (take 1 (drop 0 (List.set (replicate 1 (0 : Int)) 0 y1.1)))), x.2.2.2.2.2.2.2.2.1, ())))
 else none)
 else none)
 else none)
 else (if ((length x.2.2.2.2.2.2.2.1) = (length x.2.2.2.2.2.2.2.1)) then (if ((length x.2.2.2.2.2.2.2.2.1) = (length x.2.2.2.2.2.2.2.2.1)) then (Option.bind (b81_3 (x.1, x.2.1, x.2.2.1, y1.1, (2 : Int), (3 : Int), (0 : Int), x.2.2.2.1, x.2.2.2.2.1, y1.2.2.1, y1.2.2.2.1, x.2.2.2.2.2.2.2.1, x.2.2.2.2.2.2.2.2.1, ())) (Sum.elim (fun y2 => (if ((length y2.2.2.2.2.2.1) = (length y2.2.2.2.2.2.1)) then (some (Sum.inr (Sum.inr (Sum.inl (y2.1, y2.2.1, y2.2.2.1, y2.2.2.2.1, y2.2.2.2.2.1, y2.2.2.2.2.2.1, ())))))
 else none)) (Sum.elim (fun y2 => (if ((length y2.2.2.2.2.2.2.2.2.2.2.2.1) = (length y2.2.2.2.2.2.2.2.2.2.2.2.1)) then (if ((length y2.2.2.2.2.2.2.2.2.2.2.2.2.1) = (length y2.2.2.2.2.2.2.2.2.2.2.2.2.1)) then (Option.bind (b81_4 (y2.1, y2.2.1, y2.2.2.1, y2.2.2.2.1, y2.2.2.2.2.1, y2.2.2.2.2.2.1, y2.2.2.2.2.2.2.1, y2.2.2.2.2.2.2.2.1, y2.2.2.2.2.2.2.2.2.1, y2.2.2.2.2.2.2.2.2.2.1, y2.2.2.2.2.2.2.2.2.2.2.1, y2.2.2.2.2.2.2.2.2.2.2.2.1, y2.2.2.2.2.2.2.2.2.2.2.2.2.1, ())) (Sum.elim (fun y3 => (if ((length y3.2.2.2.2.2.2.2.2.2.2.2.1) = (length y3.2.2.2.2.2.2.2.2.2.2.2.1)) then (if ((length y3.2.2.2.2.2.2.2.2.2.2.2.2.1) = (length y3.2.2.2.2.2.2.2.2.2.2.2.2.1)) then (Option.bind (b81_5 (y3.1, y3.2.1, y3.2.2.1, y3.2.2.2.1, y3.2.2.2.2.1, y3.2.2.2.2.2.1, y3.2.2.2.2.2.2.1, y3.2.2.2.2.2.2.2.1, y3.2.2.2.2.2.2.2.2.1, y3.2.2.2.2.2.2.2.2.2.1, y3.2.2.2.2.2.2.2.2.2.2.1, y3.2.2.2.2.2.2.2.2.2.2.2.1, y3.2.2.2.2.2.2.2.2.2.2.2.2.1, ())) (Sum.elim (fun y4 => (Option.bind (f78 (y4.2.2.2.1, y4.2.2.2.2.2.2.2.2.1, y4.2.2.2.2.2.2.2.2.2.1, ())) (fun y5 => (if ((y5.2.1 != (0 : Int)) = true) then (if ((length y4.2.2.2.2.2.2.2.2.2.2.2.1) = (length y4.2.2.2.2.2.2.2.2.2.2.2.1)) then (some (Sum.inr (Sum.inr (Sum.inl (y5.2.1, y4.2.2.2.2.2.2.1, y4.2.2.2.2.2.2.2.1, y5.2.2.1, y5.2.2.2.1, y4.2.2.2.2.2.2.2.2.2.2.2.1, ())))))
 else none)
 else (if ((decide ((IntKind.wrap .i64 ((IntKind.wrap .i64 ((((length y4.2.2.2.2.2.2.2.2.2.2.1) : Nat) : Int) + y4.2.2.2.2.1)) + y5.1)) > y4.2.2.1)) = true) then (if ((length y4.2.2.2.2.2.2.2.2.2.2.2.1) = (length y4.2.2.2.2.2.2.2.2.2.2.2.1)) then (some (Sum.inr (Sum.inr (Sum.inl ((4 : Int), y4.2.2.2.2.2.2.1, y4.2.2.2.2.2.2.2.1, y5.2.2.1, y5.2.2.2.1, y4.2.2.2.2.2.2.2.2.2.2.2.1, ())))))
 else none)
 else (if ((length y4.2.2.2.2.2.2.2.2.2.2.1) = (length y4.2.2.2.2.2.2.2.2.2.2.1)) then (if ((length y4.2.2.2.2.2.2.2.2.2.2.2.1) = (length y4.2.2.2.2.2.2.2.2.2.2.2.1)) then (Option.bind (l81_6 (y4.1, y4.2.1, y4.2.2.1, y4.2.2.2.2.1, y4.2.2.2.2.2.1, y5.1, (0 : Int), y4.2.2.2.2.2.2.1, y4.2.2.2.2.2.2.2.1, y5.2.2.1, y5.2.2.2.1, y4.2.2.2.2.2.2.2.2.2.2.1, y4.2.2.2.2.2.2.2.2.2.2.2.1, ())) (Sum.elim (fun y6 => (if ((length y6.2.2.2.2.2.2.2.1) = (length y6.2.2.2.2.2.2.2.1)) then (if ((length y6.2.2.2.2.2.2.2.2.1) = (length y6.2.2.2.2.2.2.2.2.1)) then (some (Sum.inl (y6.1, y6.2.1, y6.2.2.1, y6.2.2.2.1, y6.2.2.2.2.1, y6.2.2.2.2.2.1, y6.2.2.2.2.2.2.1, y6.2.2.2.2.2.2.2.1, y6.2.2.2.2.2.2.2.2.1, ())))
 else none)
 else none)) Empty.elim))
 else none)
 else none)))))) Empty.elim))
 else none)
 else none)) Empty.elim))
 else none)
 else none)) Empty.elim)))
 else none)
 else none)))))
 else (if ((length x.2.2.2.2.2.2.2.1) = (length x.2.2.2.2.2.2.2.1)) then (if ((length x.2.2.2.2.2.2.2.2.1) = (length x.2.2.2.2.2.2.2.2.1)) then (some (Sum.inr (Sum.inl (x.1, x.2.2.2.1, x.2.2.2.2.1, x.2.2.2.2.2.1, x.2.2.2.2.2.2.1, x.2.2.2.2.2.2.2.1, x.2.2.2.2.2.2.2.2.1, ()))))
 else none)
 else none))
theorem b81_2_eq (x : g81_2.D) : b81_2 x = evF P (T95.orc _) Try.f81.ntmps fx81 (Code.at [tt, tt, tt, tt, tt, tt, tt, tt, tt, tt, tt, tt, tt, tt, tt, ff, ff, ff] c81) (planAt 64 [([tt, ff, tt, tt, tt, tt, tt, tt, ff], ⟨g81_3, o81_3, b81_3⟩), ([tt, ff, tt, tt, tt, tt, tt, tt, tt, ff], ⟨g81_4, o81_4, b81_4⟩), ([tt, ff, tt, tt, tt, tt, tt, tt, tt, tt, ff], ⟨g81_5, o81_5, b81_5⟩), ([tt, ff, tt, tt, tt, tt, tt, tt, tt, tt, tt, tt, tt, tt, tt, ff], ⟨g81_6, o81_6, l81_6⟩)]) g81_2 x (injK fx81 ((.normal, g81_2) :: o81_2) some) := by kernel_rfl
noncomputable def l81_2 : g81_2.D → Option (outD o81_2) := loopN g81_2 o81_2 b81_2 18446744073709551616
theorem p81_2 : AllSub P Try.f81.ntmps fx81 (Code.at [tt, tt, tt, tt, tt, tt, tt, tt, tt, tt, tt, tt, tt, tt, tt, ff, ff, ff] c81) [([tt, ff, tt, tt, tt, tt, tt, tt, ff], ⟨g81_3, o81_3, b81_3⟩), ([tt, ff, tt, tt, tt, tt, tt, tt, tt, ff], ⟨g81_4, o81_4, b81_4⟩), ([tt, ff, tt, tt, tt, tt, tt, tt, tt, tt, ff], ⟨g81_5, o81_5, b81_5⟩), ([tt, ff, tt, tt, tt, tt, tt, tt, tt, tt, tt, tt, tt, tt, tt, ff], ⟨g81_6, o81_6, l81_6⟩)] := And.intro s81_3_ok (And.intro s81_4_ok (And.intro s81_5_ok (And.intro s81_6_ok (trivial))))
theorem q81_2 : PlanOk P Try.f81.ntmps fx81 (planAt 64 [([tt, ff, tt, tt, tt, tt, tt, tt, ff], ⟨g81_3, o81_3, b81_3⟩), ([tt, ff, tt, tt, tt, tt, tt, tt, tt, ff], ⟨g81_4, o81_4, b81_4⟩), ([tt, ff, tt, tt, tt, tt, tt, tt, tt, tt, ff], ⟨g81_5, o81_5, b81_5⟩), ([tt, ff, tt, tt, tt, tt, tt, tt, tt, tt, tt, tt, tt, tt, tt, ff], ⟨g81_6, o81_6, l81_6⟩)]) (Code.at [tt, tt, tt, tt, tt, tt, tt, tt, tt, tt, tt, tt, tt, tt, tt, ff, ff, ff] c81) := planAt_ok p81_2
theorem at81_2 : Code.at [tt, tt, tt, tt, tt, tt, tt, tt, tt, tt, tt, tt, tt, tt, tt, ff, ff] c81 = .loop (Code.at [tt, tt, tt, tt, tt, tt, tt, tt, tt, tt, tt, tt, tt, tt, tt, ff, ff, ff] c81) := by kernel_rfl
theorem s81_2_ok : SubOk P Try.f81.ntmps fx81 (Code.at [tt, tt, tt, tt, tt, tt, tt, tt, tt, tt, tt, tt, tt, tt, tt, ff, ff] c81) ⟨g81_2, o81_2, l81_2⟩ := by
  rw [at81_2]
  exact loop_ok (sub_ok (g := g81_2) (outs := ((.normal, g81_2) :: o81_2)) (f := b81_2) (Table.ok T95_ok _) hmix (q81_2) b81_2_eq) rfl _
abbrev g81_1 : Sg := ⟨[0, 3, 5, 6, 7, 8, 9], [.lf (.ptr 0 0), .lf (.int .i64), .lf (.int .i64), .lf (.int .i64), .lf (.sl (.int .i64)), .lf (.gr (.int .i64) 3), .lf (.int .i64)], [some (.box true [.lf (.ptr 1 0), .lf (.gr (.pair (.int .i64) (.pair (.int .i64) (.int .i64))) 4), .lf (.int .i64), .lf (.int .i64)]), some (.box true [.lf (.sl .bool), .lf (.int .i64)]), none, some (.arr true (.int .i64)), some (.arr true (.pair (.int .i64) (.pair (.int .i64) (.int .i64))))]⟩
abbrev o81_1 : Outs := [(.exit 0, ⟨[0, 3, 5, 8], [.lf (.ptr 0 0), .lf (.int .i64), .lf (.int .i64), .lf (.gr (.int .i64) 3)], [some (.box true [.lf (.ptr 1 0), .lf (.gr (.pair (.int .i64) (.pair (.int .i64) (.int .i64))) 4), .lf (.int .i64), .lf (.int .i64)]), some (.box true [.lf (.sl .bool), .lf (.int .i64)]), none, some (.arr true (.int .i64)), some (.arr true (.pair (.int .i64) (.pair (.int .i64) (.int .i64))))]⟩), (.ret, ⟨[2], [.lf (.int .i64)], [some (.box true [.lf (.ptr 1 0), .lf (.gr (.pair (.int .i64) (.pair (.int .i64) (.int .i64))) 3), .lf (.int .i64), .lf (.int .i64)]), some (.box true [.lf (.sl .bool), .lf (.int .i64)]), none, some (.arr true (.pair (.int .i64) (.pair (.int .i64) (.int .i64))))]⟩)]
noncomputable def b81_1 (x : g81_1.D) : Option (outD ((.normal, g81_1) :: o81_1)) :=
  (if ((decide (x.2.2.2.2.1 < (IntKind.wrap .i64 (x.2.2.1 + (4 : Int))))) = true) then (Option.bind (f78 ((3 : Int), x.2.2.2.2.2.2.2.1, x.2.2.2.2.2.2.2.2.1, ())) (fun y1 => (if ((y1.2.1 != (0 : Int)) = true) then (if ((length x.2.2.2.2.2.2.2.2.2.2.1) = (length x.2.2.2.2.2.2.2.2.2.2.1)) then (some (Sum.inr (Sum.inr (Sum.inl (y1.2.1, x.2.2.2.2.2.1, x.2.2.2.2.2.2.1, y1.2.2.1, y1.2.2.2.1, x.2.2.2.2.2.2.2.2.2.2.1, ())))))
 else none)
 else (if ((0 : Int) ≤ x.2.2.2.2.1) then (if (x.2.2.2.2.1 < (((length x.2.2.2.1) : Nat) : Int)) then (if ((0 : Int) ≤ (getD x.2.2.2.1 (Int.toNat x.2.2.2.2.1) (0 : Int))) then (if ((getD x.2.2.2.1 (Int.toNat x.2.2.2.2.1) (0 : Int)) < (((length x.2.2.2.2.2.2.2.2.2.1) : Nat) : Int)) then (if ((length x.2.2.2.2.2.2.2.2.2.1) = (length (List.set x.2.2.2.2.2.2.2.2.2.1 (0 + (Int.toNat (getD x.2.2.2.1 (Int.toNat x.2.2.2.2.1) (0 : Int)))) y1.1))) then (if ((length x.2.2.2.2.2.2.2.2.2.2.1) = (length x.2.2.2.2.2.2.2.2.2.2.1)) then (some (Sum.inl (x.1, x.2.1, x.2.2.1, x.2.2.2.1, (IntKind.wrap .i64 (x.2.2.2.2.1 + (1 : Int))), x.2.2.2.2.2.1, x.2.2.2.2.2.2.1, y1.2.2.1, y1.2.2.2.1, (List.set x.2.2.2.2.2.2.2.2.2.1 (0 + (Int.toNat (getD x.2.2.2.1 (Int.toNat x.2.2.2.2.1) (0 : Int)))) y1.1), x.2.2.2.2.2.2.2.2.2.2.1, ())))
 else none)
 else none)
 else none)
 else none)
 else none)
 else none))))
 else (if ((length x.2.2.2.2.2.2.2.2.2.1) = (length x.2.2.2.2.2.2.2.2.2.1)) then (if ((length x.2.2.2.2.2.2.2.2.2.2.1) = (length x.2.2.2.2.2.2.2.2.2.2.1)) then (some (Sum.inr (Sum.inl (x.1, x.2.1, x.2.2.2.2.2.1, x.2.2.2.2.2.2.1, x.2.2.2.2.2.2.2.1, x.2.2.2.2.2.2.2.2.1, x.2.2.2.2.2.2.2.2.2.1, x.2.2.2.2.2.2.2.2.2.2.1, ()))))
 else none)
 else none))
theorem b81_1_eq (x : g81_1.D) : b81_1 x = evF P (T95.orc _) Try.f81.ntmps fx81 (Code.at [tt, tt, tt, tt, tt, tt, tt, tt, tt, tt, ff, tt, ff, ff] c81) (planAt 64 []) g81_1 x (injK fx81 ((.normal, g81_1) :: o81_1) some) := by kernel_rfl
noncomputable def l81_1 : g81_1.D → Option (outD o81_1) := loopN g81_1 o81_1 b81_1 18446744073709551616
theorem at81_1 : Code.at [tt, tt, tt, tt, tt, tt, tt, tt, tt, tt, ff, tt, ff] c81 = .loop (Code.at [tt, tt, tt, tt, tt, tt, tt, tt, tt, tt, ff, tt, ff, ff] c81) := by kernel_rfl
theorem s81_1_ok : SubOk P Try.f81.ntmps fx81 (Code.at [tt, tt, tt, tt, tt, tt, tt, tt, tt, tt, ff, tt, ff] c81) ⟨g81_1, o81_1, l81_1⟩ := by
  rw [at81_1]
  exact loop_ok (sub_ok (g := g81_1) (outs := ((.normal, g81_1) :: o81_1)) (f := b81_1) (Table.ok T95_ok _) hmix (planAt_ok (P := P) (n := Try.f81.ntmps) (fx := fx81) (c := (Code.at [tt, tt, tt, tt, tt, tt, tt, tt, tt, tt, ff, tt, ff, ff] c81)) (d := 64) (l := []) trivial) b81_1_eq) rfl _
noncomputable def f81 (x : gi81.D) : Option go81.D :=
  (Option.bind (f78 ((5 : Int), x.2.2.1, x.2.2.2.1, ())) (fun y1 => (if ((y1.2.1 != (0 : Int)) = true) then (if ((length x.2.2.2.2.1) = (length x.2.2.2.2.1)) then (some (y1.2.1, x.1, x.2.1, y1.2.2.1, y1.2.2.2.1, x.2.2.2.2.1, ()))
 else none)
 else (Option.bind (f78 ((5 : Int), y1.2.2.1, y1.2.2.2.1, ())) (fun y2 => (if ((y2.2.1 != (0 : Int)) = true) then (if ((length x.2.2.2.2.1) = (length x.2.2.2.2.1)) then (some (y2.2.1, x.1, x.2.1, y2.2.2.1, y2.2.2.2.1, x.2.2.2.2.1, ()))
 else none)
 else (Option.bind (f78 ((4 : Int), y2.2.2.1, y2.2.2.2.1, ())) (fun y3 => (if ((y3.2.1 != (0 : Int)) = true) then (if ((length x.2.2.2.2.1) = (length x.2.2.2.2.1)) then (some (y3.2.1, x.1, x.2.1, y3.2.2.1, y3.2.2.2.1, x.2.2.2.2.1, ()))
 else none)
 else (if ((decide ((IntKind.wrap .i64 (y1.1 + (257 : Int))) > (286 : Int))) = true) then (if ((length x.2.2.2.2.1) = (length x.2.2.2.2.1)) then (some ((4 : Int), x.1, x.2.1, y3.2.2.1, y3.2.2.2.1, x.2.2.2.2.1, ()))
 else none)
 else (if ((decide ((IntKind.wrap .i64 (y2.1 + (1 : Int))) > (30 : Int))) = true) then (if ((length x.2.2.2.2.1) = (length x.2.2.2.2.1)) then (some ((4 : Int), x.1, x.2.1, y3.2.2.1, y3.2.2.2.1, x.2.2.2.2.1, ()))
 else none)
 else (if ((length x.2.2.2.2.1) = (length x.2.2.2.2.1)) then (Option.bind (l81_1 (y1.1, y2.1, y3.1, (take 19 (drop 0 (List.set (List.set (List.set (List.set (List.set (List.set (List.set (List.set (List.set (List.set (List.set (List.set (List.set (List.set (List.set (List.set (List.set (List.set (List.set (replicate 19 (0 : Int)) 0 (16 : Int)) 1 (17 : Int)) 2 (18 : Int)) 3 (0 : Int)) 4 (8 : Int)) 5 (7 : Int)) 6 (9 : Int)) 7 (6 : Int)) 8 (10 : Int)) 9 (5 : Int)) 10 (11 : Int)) 11 (4 : Int)) 12 (12 : Int)) 13 (3 : Int)) 14 (13 : Int)) 15 (2 : Int)) 16 (14 : Int)) 17 (1 : Int)) 18 (15 : Int)))), (0 : Int), x.1, x.2.1, y3.2.2.1, y3.2.2.2.1, (replicate 19 (0 : Int)), x.2.2.2.2.1, ())) (Sum.elim (fun y4 => (Option.bind (f95 ((take (length y4.2.2.2.2.2.2.1) (drop 0 y4.2.2.2.2.2.2.1)), ())) (fun y5 => (if ((y5.1 != (0 : Int)) = true) then (if ((length y4.2.2.2.2.2.2.2.1) = (length y4.2.2.2.2.2.2.2.1)) then (some (y5.1, y4.2.2.1, y4.2.2.2.1, y4.2.2.2.2.1, y4.2.2.2.2.2.1, y4.2.2.2.2.2.2.2.1, ()))
 else none)
 else (if ((length y4.2.2.2.2.2.2.2.1) = (length y4.2.2.2.2.2.2.2.1)) then (Option.bind (l81_2 (y4.1, (take (length y4.2.2.2.2.2.2.1) (drop 0 y4.2.2.2.2.2.2.1)), (IntKind.wrap .i64 ((IntKind.wrap .i64 ((IntKind.wrap .i64 (y4.1 + (257 : Int))) + y4.2.1)) + (1 : Int))), y4.2.2.1, y4.2.2.2.1, y4.2.2.2.2.1, y4.2.2.2.2.2.1, [], y4.2.2.2.2.2.2.2.1, ())) (Sum.elim (fun y6 => (if ((256 : Int) < (((length y6.2.2.2.2.2.1) : Nat) : Int)) then (if (((getD y6.2.2.2.2.2.1 256 (0 : Int)) == (0 : Int)) = true) then (if ((length y6.2.2.2.2.2.2.1) = (length y6.2.2.2.2.2.2.1)) then (some ((4 : Int), y6.2.1, y6.2.2.1, y6.2.2.2.1, y6.2.2.2.2.1, y6.2.2.2.2.2.2.1, ()))
 else none)
 else (if ((0 : Int) ≤ (IntKind.wrap .i64 (y6.1 + (257 : Int)))) then (if ((IntKind.wrap .i64 (y6.1 + (257 : Int))) ≤ (((length y6.2.2.2.2.2.1) : Nat) : Int)) then (Option.bind (f95 ((take ((Int.toNat (IntKind.wrap .i64 (y6.1 + (257 : Int)))) - 0) (drop 0 y6.2.2.2.2.2.1)), ())) (fun y7 => (if ((y7.1 != (0 : Int)) = true) then (if ((length y6.2.2.2.2.2.2.1) = (length y6.2.2.2.2.2.2.1)) then (some (y7.1, y6.2.1, y6.2.2.1, y6.2.2.2.1, y6.2.2.2.2.1, y6.2.2.2.2.2.2.1, ()))
 else none)
 else (if ((0 : Int) ≤ (IntKind.wrap .i64 (y6.1 + (257 : Int)))) then (if ((IntKind.wrap .i64 (y6.1 + (257 : Int))) ≤ (((length y6.2.2.2.2.2.1) : Nat) : Int)) then (Option.bind (f95 ((take ((length y6.2.2.2.2.2.1) - (Int.toNat (IntKind.wrap .i64 (y6.1 + (257 : Int))))) (drop (0 + (Int.toNat (IntKind.wrap .i64 (y6.1 + (257 : Int))))) y6.2.2.2.2.2.1)), ())) (fun y8 => (if ((y8.1 != (0 : Int)) = true) then (if ((length y6.2.2.2.2.2.2.1) = (length y6.2.2.2.2.2.2.1)) then (some (y8.1, y6.2.1, y6.2.2.1, y6.2.2.2.1, y6.2.2.2.2.1, y6.2.2.2.2.2.2.1, ()))
 else none)
 else (if ((0 : Int) ≤ (IntKind.wrap .i64 (y6.1 + (257 : Int)))) then (if ((IntKind.wrap .i64 (y6.1 + (257 : Int))) ≤ (((length y6.2.2.2.2.2.1) : Nat) : Int)) then (if ((0 : Int) ≤ (IntKind.wrap .i64 (y6.1 + (257 : Int)))) then (if ((IntKind.wrap .i64 (y6.1 + (257 : Int))) ≤ (((length y6.2.2.2.2.2.1) : Nat) : Int)) then (if ((length y6.2.2.2.2.2.2.1) = (length y6.2.2.2.2.2.2.1)) then (Option.bind (f80 ((take ((Int.toNat (IntKind.wrap .i64 (y6.1 + (257 : Int)))) - 0) (drop 0 y6.2.2.2.2.2.1)), (take ((length y6.2.2.2.2.2.1) - (Int.toNat (IntKind.wrap .i64 (y6.1 + (257 : Int))))) (drop (0 + (Int.toNat (IntKind.wrap .i64 (y6.1 + (257 : Int))))) y6.2.2.2.2.2.1)), y6.2.1, y6.2.2.1, y6.2.2.2.1, y6.2.2.2.2.1, y6.2.2.2.2.2.2.1, ())) (fun y9 => (if ((length y9.2.2.2.2.2.1) = (length y9.2.2.2.2.2.1)) then (some (y9.1, y9.2.1, y9.2.2.1, y9.2.2.2.1, y9.2.2.2.2.1, y9.2.2.2.2.2.1, ()))
 else none)))
 else none)
 else none)
 else none)
 else none)
 else none))))
 else none)
 else none))))
 else none)
 else none))
 else none)) (Sum.elim (fun y6 => (if ((length y6.2.2.2.2.2.1) = (length y6.2.2.2.2.2.1)) then (some (y6.1, y6.2.1, y6.2.2.1, y6.2.2.2.1, y6.2.2.2.2.1, y6.2.2.2.2.2.1, ()))
 else none)) Empty.elim)))
 else none))))) (Sum.elim (fun y4 => (if ((length y4.2.2.2.2.2.1) = (length y4.2.2.2.2.2.1)) then (some (y4.1, y4.2.1, y4.2.2.1, y4.2.2.2.1, y4.2.2.2.2.1, y4.2.2.2.2.2.1, ()))
 else none)) Empty.elim)))
 else none))))))))))))
theorem f81_eq (x : gi81.D) : f81 x = evF P (T95.orc _) Try.f81.ntmps fx81 c81 (planAt 64 [([tt, tt, tt, tt, tt, tt, tt, tt, tt, tt, ff, tt, ff], ⟨g81_1, o81_1, l81_1⟩), ([tt, tt, tt, tt, tt, tt, tt, tt, tt, tt, tt, tt, tt, tt, tt, ff, ff], ⟨g81_2, o81_2, l81_2⟩)]) gi81 x (fnK fx81 [go81]) := by kernel_rfl
theorem pf81 : AllSub P Try.f81.ntmps fx81 c81 [([tt, tt, tt, tt, tt, tt, tt, tt, tt, tt, ff, tt, ff], ⟨g81_1, o81_1, l81_1⟩), ([tt, tt, tt, tt, tt, tt, tt, tt, tt, tt, tt, tt, tt, tt, tt, ff, ff], ⟨g81_2, o81_2, l81_2⟩)] := And.intro s81_1_ok (And.intro s81_2_ok (trivial))
theorem qf81 : PlanOk P Try.f81.ntmps fx81 (planAt 64 [([tt, tt, tt, tt, tt, tt, tt, tt, tt, tt, ff, tt, ff], ⟨g81_1, o81_1, l81_1⟩), ([tt, tt, tt, tt, tt, tt, tt, tt, tt, tt, tt, tt, tt, tt, tt, ff, ff], ⟨g81_2, o81_2, l81_2⟩)]) c81 := planAt_ok pf81
theorem f81_ok : EntOk P 81 ⟨gi81, [go81], f81⟩ :=
  ent_ok (fn := Try.f81) (gi := gi81) (gos := [go81]) (f := f81) (c := c81) (fx := fx81) ⟨Try.func81, by kernel_rfl, rfl, by decide +kernel, rfl, rfl⟩ (by kernel_rfl) (Table.ok T95_ok _) hmix (qf81) f81_eq
noncomputable def T81 : Table := T95.add 81 [⟨gi81, [go81], f81⟩] []
theorem T81_ok : TableOk P T81 := Table.plus T95_ok (es := [⟨gi81, [go81], f81⟩]) ⟨f81_ok, trivial⟩ []

noncomputable def c59 : Code := Func.code Try.f59
abbrev gi59 : Sg := ⟨[0], [.lf (.ptr 0 0)], [some (.box true [.lf (.ptr 1 0), .lf (.gr (.pair (.int .i64) (.pair (.int .i64) (.int .i64))) 2), .lf (.int .i64), .lf (.int .i64)]), some (.box true [.lf (.sl .bool), .lf (.int .i64)]), some (.arr true (.pair (.int .i64) (.pair (.int .i64) (.int .i64))))]⟩
abbrev go59 : Sg := ⟨[2, 3], [.lf .bool, .lf (.int .i64)], [some (.box true [.lf (.ptr 1 0), .lf (.gr (.pair (.int .i64) (.pair (.int .i64) (.int .i64))) 3), .lf (.int .i64), .lf (.int .i64)]), some (.box true [.lf (.sl .bool), .lf (.int .i64)]), none, some (.arr true (.pair (.int .i64) (.pair (.int .i64) (.int .i64))))]⟩
def fx59 : List Bool := [tt, tt, ff]
abbrev g59_1 : Sg := ⟨[0, 4, 7, 8], [.lf (.ptr 0 0), .lf (.int .i64), .lf (.gr (.int .i64) 3), .lf (.int .i64)], [some (.box true [.lf (.ptr 1 0), .lf (.gr (.pair (.int .i64) (.pair (.int .i64) (.int .i64))) 4), .lf (.int .i64), .lf (.int .i64)]), some (.box true [.lf (.sl .bool), .lf (.int .i64)]), none, some (.arr true (.int .i64)), some (.arr true (.pair (.int .i64) (.pair (.int .i64) (.int .i64))))]⟩
abbrev o59_1 : Outs := [(.exit 1, ⟨[0, 4, 7], [.lf (.ptr 0 0), .lf (.int .i64), .lf (.gr (.int .i64) 3)], [some (.box true [.lf (.ptr 1 0), .lf (.gr (.pair (.int .i64) (.pair (.int .i64) (.int .i64))) 4), .lf (.int .i64), .lf (.int .i64)]), some (.box true [.lf (.sl .bool), .lf (.int .i64)]), none, some (.arr true (.int .i64)), some (.arr true (.pair (.int .i64) (.pair (.int .i64) (.int .i64))))]⟩)]
noncomputable def b59_1 (x : g59_1.D) : Option (outD ((.normal, g59_1) :: o59_1)) :=
  (if ((decide (x.2.1 < (32 : Int))) = true) then (if (((length (take (length x.2.2.2.2.2.2.1) (drop 0 x.2.2.2.2.2.2.1))) + 1) ≤ 17592186044416) then (if ((length ((take (length x.2.2.2.2.2.2.1) (drop 0 x.2.2.2.2.2.2.1)) ++ (take 1 (drop 0 (List.set (replicate 1 (0 : Int)) 0 (5 : Int)))))) = (length ((take (length x.2.2.2.2.2.2.1) (drop 0 x.2.2.2.2.2.2.1)) ++ (take 1 (drop 0 (List.set (replicate 1 (0 : Int)) 0 (5 : Int))))))) then (if ((length x.2.2.2.2.2.2.2.1) = (length x.2.2.2.2.2.2.2.1)) then (some (Sum.inl (x.1, (IntKind.wrap .i64 (x.2.1 + (1 : Int))), x.2.2.1, x.2.2.2.1, x.2.2.2.2.1, x.2.2.2.2.2.1, ((take (length x.2.2.2.2.2.2.1) (drop 0 x.2.2.2.2.2.2.1)) ++ (take 1 (drop 0 (List.set (replicate 1 (0 : Int)) 0 (5 : Int))))), x.2.2.2.2.2.2.2.1, ())))
 else none)
 else none)
 else none)
 else (if ((length x.2.2.2.2.2.2.1) = (length x.2.2.2.2.2.2.1)) then (if ((length x.2.2.2.2.2.2.2.1) = (length x.2.2.2.2.2.2.2.1)) then (some (Sum.inr (Sum.inl (x.1, x.2.2.1, x.2.2.2.1, x.2.2.2.2.1, x.2.2.2.2.2.1, x.2.2.2.2.2.2.1, x.2.2.2.2.2.2.2.1, ()))))
 else none)
 else none))
theorem b59_1_eq (x : g59_1.D) : b59_1 x = evF P (T81.orc _) Try.f59.ntmps fx59 (Code.at [tt, tt, tt, tt, tt, ff, tt, ff, tt, tt, tt, ff, tt, ff, tt, ff, ff] c59) (planAt 64 []) g59_1 x (injK fx59 ((.normal, g59_1) :: o59_1) some) := by kernel_rfl
noncomputable def l59_1 : g59_1.D → Option (outD o59_1) := loopN g59_1 o59_1 b59_1 18446744073709551616
theorem at59_1 : Code.at [tt, tt, tt, tt, tt, ff, tt, ff, tt, tt, tt, ff, tt, ff, tt, ff] c59 = .loop (Code.at [tt, tt, tt, tt, tt, ff, tt, ff, tt, tt, tt, ff, tt, ff, tt, ff, ff] c59) := by kernel_rfl
theorem s59_1_ok : SubOk P Try.f59.ntmps fx59 (Code.at [tt, tt, tt, tt, tt, ff, tt, ff, tt, tt, tt, ff, tt, ff, tt, ff] c59) ⟨g59_1, o59_1, l59_1⟩ := by
  rw [at59_1]
  exact loop_ok (sub_ok (g := g59_1) (outs := ((.normal, g59_1) :: o59_1)) (f := b59_1) (Table.ok T81_ok _) hmix (planAt_ok (P := P) (n := Try.f59.ntmps) (fx := fx59) (c := (Code.at [tt, tt, tt, tt, tt, ff, tt, ff, tt, tt, tt, ff, tt, ff, tt, ff, ff] c59)) (d := 64) (l := []) trivial) b59_1_eq) rfl _
noncomputable def f59 (x : gi59.D) : Option go59.D :=
  (Option.bind (f78 ((1 : Int), x.2.2.1, x.2.2.2.1, ())) (fun y1 => (if ((y1.2.1 != (0 : Int)) = true) then (if ((length x.2.2.2.2.1) = (length x.2.2.2.2.1)) then (some (false, y1.2.1, x.1, x.2.1, y1.2.2.1, y1.2.2.2.1, x.2.2.2.2.1, ()))
 else none)
 else (Option.bind (f78 ((2 : Int), y1.2.2.1, y1.2.2.2.1, ())) (fun y2 => (if ((y2.2.1 != (0 : Int)) = true) then (if ((length x.2.2.2.2.1) = (length x.2.2.2.2.1)) then (some (false, y2.2.1, x.1, x.2.1, y2.2.2.1, y2.2.2.2.1, x.2.2.2.2.1, ()))
 else none)
 else (if ((y2.1 == (0 : Int)) = true) then (if ((length x.2.2.2.2.1) = (length x.2.2.2.2.1)) then (Option.bind (f79 (x.1, x.2.1, y2.2.2.1, y2.2.2.2.1, x.2.2.2.2.1, ())) (fun y3 => (if ((length y3.2.2.2.2.2.1) = (length y3.2.2.2.2.2.1)) then (some ((y1.1 == (1 : Int)), y3.1, y3.2.1, y3.2.2.1, y3.2.2.2.1, y3.2.2.2.2.1, y3.2.2.2.2.2.1, ()))
 else none)))
 else none)
 else (if ((y2.1 == (1 : Int)) = true) then (if ((length x.2.2.2.2.1) = (length x.2.2.2.2.1)) then (Option.bind (l59_1 (y1.1, (0 : Int), x.1, x.2.1, y2.2.2.1, y2.2.2.2.1, [], x.2.2.2.2.1, ())) (Sum.elim (fun y3 => (Option.bind (f43 ()) (fun y4 => (if ((length y3.2.2.2.2.2.2.1) = (length y3.2.2.2.2.2.2.1)) then (Option.bind (f80 ((take (length y4.1) (drop 0 y4.1)), (take (length y3.2.2.2.2.2.1) (drop 0 y3.2.2.2.2.2.1)), y3.2.1, y3.2.2.1, y3.2.2.2.1, y3.2.2.2.2.1, y3.2.2.2.2.2.2.1, ())) (fun y5 => (if ((length y5.2.2.2.2.2.1) = (length y5.2.2.2.2.2.1)) then (some ((y3.1 == (1 : Int)), y5.1, y5.2.1, y5.2.2.1, y5.2.2.2.1, y5.2.2.2.2.1, y5.2.2.2.2.2.1, ()))
 else none)))
 else none)))) Empty.elim))
 else none)
 else (if ((y2.1 == (2 : Int)) = true) then (if ((length x.2.2.2.2.1) = (length x.2.2.2.2.1)) then (Option.bind (f81 (x.1, x.2.1, y2.2.2.1, y2.2.2.2.1, x.2.2.2.2.1, ())) (fun y3 => (if ((length y3.2.2.2.2.2.1) = (length y3.2.2.2.2.2.1)) then (some ((y1.1 == (1 : Int)), y3.1, y3.2.1, y3.2.2.1, y3.2.2.2.1, y3.2.2.2.2.1, y3.2.2.2.2.2.1, ()))
 else none)))
 else none)
 else (if ((length x.2.2.2.2.1) = (length x.2.2.2.2.1)) then (some ((y1.1 == (1 : Int)), (4 : Int), x.1, x.2.1, y2.2.2.1, y2.2.2.2.1, x.2.2.2.2.1, ()))
 else none))))))))))
theorem f59_eq (x : gi59.D) : f59 x = evF P (T81.orc _) Try.f59.ntmps fx59 c59 (planAt 64 [([tt, tt, tt, tt, tt, ff, tt, ff, tt, tt, tt, ff, tt, ff, tt, ff], ⟨g59_1, o59_1, l59_1⟩)]) gi59 x (fnK fx59 [go59]) := by kernel_rfl
theorem pf59 : AllSub P Try.f59.ntmps fx59 c59 [([tt, tt, tt, tt, tt, ff, tt, ff, tt, tt, tt, ff, tt, ff, tt, ff], ⟨g59_1, o59_1, l59_1⟩)] := And.intro s59_1_ok (trivial)
theorem qf59 : PlanOk P Try.f59.ntmps fx59 (planAt 64 [([tt, tt, tt, tt, tt, ff, tt, ff, tt, tt, tt, ff, tt, ff, tt, ff], ⟨g59_1, o59_1, l59_1⟩)]) c59 := planAt_ok pf59
theorem f59_ok : EntOk P 59 ⟨gi59, [go59], f59⟩ :=
  ent_ok (fn := Try.f59) (gi := gi59) (gos := [go59]) (f := f59) (c := c59) (fx := fx59) ⟨Try.func59, by kernel_rfl, rfl, by decide +kernel, rfl, rfl⟩ (by kernel_rfl) (Table.ok T81_ok _) hmix (qf59) f59_eq
noncomputable def T59 : Table := T81.add 59 [⟨gi59, [go59], f59⟩] []
theorem T59_ok : TableOk P T59 := Table.plus T81_ok (es := [⟨gi59, [go59], f59⟩]) ⟨f59_ok, trivial⟩ []

noncomputable def c26 : Code := Func.code Try.f26
abbrev gi26 : Sg := ⟨[0, 1], [.lf (.sl (.int .u8)), .lf (.int .i64)], []⟩
abbrev go26 : Sg := ⟨[4, 5, 6], [.lf (.gr (.pair (.int .i64) (.pair (.int .i64) (.int .i64))) 0), .lf (.int .i64), .lf (.int .i64)], [some (.arr true (.pair (.int .i64) (.pair (.int .i64) (.int .i64))))]⟩
def fx26 : List Bool := []
abbrev g26_1 : Sg := ⟨[7], [.lf (.ptr 0 0)], [some (.box true [.lf (.ptr 1 0), .lf (.gr (.pair (.int .i64) (.pair (.int .i64) (.int .i64))) 2), .lf (.int .i64), .lf (.int .i64)]), some (.box true [.lf (.sl .bool), .lf (.int .i64)]), some (.arr true (.pair (.int .i64) (.pair (.int .i64) (.int .i64))))]⟩
abbrev o26_1 : Outs := [(.ret, ⟨[4, 5, 6], [.lf (.gr (.pair (.int .i64) (.pair (.int .i64) (.int .i64))) 0), .lf (.int .i64), .lf (.int .i64)], [some (.arr true (.pair (.int .i64) (.pair (.int .i64) (.int .i64))))]⟩)]
noncomputable def b26_1 (x : g26_1.D) : Option (outD ((.normal, g26_1) :: o26_1)) :=
  (if ((length x.2.2.2.2.1) = (length x.2.2.2.2.1)) then (Option.bind (f59 (x.1, x.2.1, x.2.2.1, x.2.2.2.1, x.2.2.2.2.1, ())) (fun y1 => (if ((y1.2.1 != (0 : Int)) = true) then (some (Sum.inr (Sum.inl ((0 : Int), y1.2.1, [], ()))))
 else (if (y1.1 = true) then (if ((length y1.2.2.2.2.2.2.1) = (length y1.2.2.2.2.2.2.1)) then (some (Sum.inr (Sum.inl ((IntKind.wrap .i64 (Int.tdiv (IntKind.wrap .i64 (y1.2.2.2.2.2.1 + (7 : Int))) (8 : Int))), (0 : Int), y1.2.2.2.2.2.2.1, ()))))
 else none)
 else (if ((length y1.2.2.2.2.2.2.1) = (length y1.2.2.2.2.2.2.1)) then (some (Sum.inl (y1.2.2.1, y1.2.2.2.1, y1.2.2.2.2.1, y1.2.2.2.2.2.1, y1.2.2.2.2.2.2.1, ())))
 else none)))))
 else none)
theorem b26_1_eq (x : g26_1.D) : b26_1 x = evF P (T59.orc _) Try.f26.ntmps fx26 (Code.at [tt, tt, tt, ff, ff] c26) (planAt 64 []) g26_1 x (injK fx26 ((.normal, g26_1) :: o26_1) some) := by kernel_rfl
noncomputable def l26_1 : g26_1.D → Option (outD o26_1) := loopN g26_1 o26_1 b26_1 18446744073709551616
theorem at26_1 : Code.at [tt, tt, tt, ff] c26 = .loop (Code.at [tt, tt, tt, ff, ff] c26) := by kernel_rfl
theorem s26_1_ok : SubOk P Try.f26.ntmps fx26 (Code.at [tt, tt, tt, ff] c26) ⟨g26_1, o26_1, l26_1⟩ := by
  rw [at26_1]
  exact loop_ok (sub_ok (g := g26_1) (outs := ((.normal, g26_1) :: o26_1)) (f := b26_1) (Table.ok T59_ok _) hmix (planAt_ok (P := P) (n := Try.f26.ntmps) (fx := fx26) (c := (Code.at [tt, tt, tt, ff, ff] c26)) (d := 64) (l := []) trivial) b26_1_eq) rfl _
noncomputable def f26 (x : gi26.D) : Option go26.D :=
  (if ((decide (x.2.1 < (0 : Int))) = true) then (some ((0 : Int), (1 : Int), [], ()))
 else (if ((decide (x.2.1 > (1048576 : Int))) = true) then (some ((0 : Int), (1 : Int), [], ()))
 else (Option.bind (f58 (x.1, ())) (fun y1 => (Option.bind (l26_1 ((0 : Int), x.2.1, (take (length y1.1) (drop 0 y1.1)), (0 : Int), [], ())) (Sum.elim (fun y2 => (if ((length y2.2.2.1) = (length y2.2.2.1)) then (some (y2.1, y2.2.1, y2.2.2.1, ()))
 else none)) Empty.elim))))))
theorem f26_eq (x : gi26.D) : f26 x = evF P (T59.orc _) Try.f26.ntmps fx26 c26 (planAt 64 [([tt, tt, tt, ff], ⟨g26_1, o26_1, l26_1⟩)]) gi26 x (fnK fx26 [go26]) := by kernel_rfl
theorem pf26 : AllSub P Try.f26.ntmps fx26 c26 [([tt, tt, tt, ff], ⟨g26_1, o26_1, l26_1⟩)] := And.intro s26_1_ok (trivial)
theorem qf26 : PlanOk P Try.f26.ntmps fx26 (planAt 64 [([tt, tt, tt, ff], ⟨g26_1, o26_1, l26_1⟩)]) c26 := planAt_ok pf26
theorem f26_ok : EntOk P 26 ⟨gi26, [go26], f26⟩ :=
  ent_ok (fn := Try.f26) (gi := gi26) (gos := [go26]) (f := f26) (c := c26) (fx := fx26) ⟨Try.func26, by kernel_rfl, rfl, by decide +kernel, rfl, rfl⟩ (by kernel_rfl) (Table.ok T59_ok _) hmix (qf26) f26_eq
noncomputable def T26 : Table := T59.add 26 [⟨gi26, [go26], f26⟩] []
theorem T26_ok : TableOk P T26 := Table.plus T59_ok (es := [⟨gi26, [go26], f26⟩]) ⟨f26_ok, trivial⟩ []

noncomputable def c27 : Code := Func.code Try.f27
abbrev gi27 : Sg := ⟨[0, 1], [.lf (.sl (.pair (.int .i64) (.pair (.int .i64) (.int .i64)))), .lf (.int .i64)], []⟩
abbrev go27 : Sg := ⟨[4, 5], [.lf (.sl (.int .u8)), .lf (.int .i64)], []⟩
def fx27 : List Bool := []
abbrev g27_4 : Sg := ⟨[0, 1, 7, 8, 9], [.lf (.sl (.pair (.int .i64) (.pair (.int .i64) (.int .i64)))), .lf (.int .i64), .lf (.gr (.int .u8) 0), .lf (.int .i64), .lf (.int .i64)], [some (.arr true (.int .u8))]⟩
abbrev o27_4 : Outs := [(.exit 4, ⟨[0, 1, 7, 8], [.lf (.sl (.pair (.int .i64) (.pair (.int .i64) (.int .i64)))), .lf (.int .i64), .lf (.gr (.int .u8) 0), .lf (.int .i64)], [some (.arr true (.int .u8))]⟩)]
noncomputable def b27_4 (x : g27_4.D) : Option (outD ((.normal, g27_4) :: o27_4)) :=
  (if ((0 : Int) ≤ x.2.2.1) then (if (x.2.2.1 < (((length x.1) : Nat) : Int)) then (if ((decide (x.2.2.2.1 < (getD x.1 (Int.toNat x.2.2.1) ((0 : Int), (0 : Int), (0 : Int))).2.1)) = true) then (if ((0 : Int) ≤ x.2.2.1) then (if (x.2.2.1 < (((length x.1) : Nat) : Int)) then (if ((0 : Int) ≤ (IntKind.wrap .i64 ((((length x.2.2.2.2.1) : Nat) : Int) - (getD x.1 (Int.toNat x.2.2.1) ((0 : Int), (0 : Int), (0 : Int))).2.2))) then (if ((IntKind.wrap .i64 ((((length x.2.2.2.2.1) : Nat) : Int) - (getD x.1 (Int.toNat x.2.2.1) ((0 : Int), (0 : Int), (0 : Int))).2.2)) < (((length x.2.2.2.2.1) : Nat) : Int)) then (if (((length (take (length x.2.2.2.2.1) (drop 0 x.2.2.2.2.1))) + (length (take 1 (drop 0 (List.set (replicate 1 (0 : Int)) 0 (getD x.2.2.2.2.1 (0 + (Int.toNat (IntKind.wrap .i64 ((((length x.2.2.2.2.1) : Nat) : Int) - (getD x.1 (Int.toNat x.2.2.1) ((0 : Int), (0 : Int), (0 : Int))).2.2)))) (0 : Int))))))) ≤ 140737488355328) then (if ((length ((take (length x.2.2.2.2.1) (drop 0 x.2.2.2.2.1)) ++ (take 1 (drop 0 (List.set (replicate 1 (0 : Int)) 0 (getD x.2.2.2.2.1 (0 + (Int.toNat (IntKind.wrap .i64 ((((length x.2.2.2.2.1) : Nat) : Int) - (getD x.1 (Int.toNat x.2.2.1) ((0 : Int), (0 : Int), (0 : Int))).2.2)))) (0 : Int))))))) = (length ((take (length x.2.2.2.2.1) (drop 0 x.2.2.2.2.1)) ++ (take 1 (drop 0 (List.set (replicate 1 (0 : Int)) 0 (getD x.2.2.2.2.1 (0 + (Int.toNat (IntKind.wrap .i64 ((((length x.2.2.2.2.1) : Nat) : Int) - (getD x.1 (Int.toNat x.2.2.1) ((0 : Int), (0 : Int), (0 : Int))).2.2)))) (0 : Int)))))))) then (some (Sum.inl (x.1, x.2.1, x.2.2.1, (IntKind.wrap .i64 (x.2.2.2.1 + (1 : Int))), ((take (length x.2.2.2.2.1) (drop 0 x.2.2.2.2.1)) ++ (take 1 (drop 0 (List.set (replicate 1 (0 : Int)) 0 (getD x.2.2.2.2.1 (0 + (Int.toNat (IntKind.wrap .i64 ((((length x.2.2.2.2.1) : Nat) : Int) - (getD x.1 (Int.toNat x.2.2.1) ((0 : Int), (0 : Int), (0 : Int))).2.2)))) (0 : Int)))))), ())))
 else none)
 else none)
 else none)
 else none)
 else none)
 else none)
 else (if ((length x.2.2.2.2.1) = (length x.2.2.2.2.1)) then (some (Sum.inr (Sum.inl (x.1, x.2.1, x.2.2.1, x.2.2.2.2.1, ()))))
 else none))
 else none)
 else none)
theorem b27_4_eq (x : g27_4.D) : b27_4 x = evF P (T26.orc _) Try.f27.ntmps fx27 (Code.at [tt, tt, tt, tt, ff, tt, ff, ff, tt, ff, ff, tt, tt, tt, tt, ff, ff] c27) (planAt 64 []) g27_4 x (injK fx27 ((.normal, g27_4) :: o27_4) some) := by kernel_rfl
noncomputable def l27_4 : g27_4.D → Option (outD o27_4) := loopN g27_4 o27_4 b27_4 18446744073709551616
theorem at27_4 : Code.at [tt, tt, tt, tt, ff, tt, ff, ff, tt, ff, ff, tt, tt, tt, tt, ff] c27 = .loop (Code.at [tt, tt, tt, tt, ff, tt, ff, ff, tt, ff, ff, tt, tt, tt, tt, ff, ff] c27) := by kernel_rfl
theorem s27_4_ok : SubOk P Try.f27.ntmps fx27 (Code.at [tt, tt, tt, tt, ff, tt, ff, ff, tt, ff, ff, tt, tt, tt, tt, ff] c27) ⟨g27_4, o27_4, l27_4⟩ := by
  rw [at27_4]
  exact loop_ok (sub_ok (g := g27_4) (outs := ((.normal, g27_4) :: o27_4)) (f := b27_4) (Table.ok T26_ok _) hmix (planAt_ok (P := P) (n := Try.f27.ntmps) (fx := fx27) (c := (Code.at [tt, tt, tt, tt, ff, tt, ff, ff, tt, ff, ff, tt, tt, tt, tt, ff, ff] c27)) (d := 64) (l := []) trivial) b27_4_eq) rfl _
abbrev g27_3 : Sg := ⟨[0, 1, 7, 8], [.lf (.sl (.pair (.int .i64) (.pair (.int .i64) (.int .i64)))), .lf (.int .i64), .lf (.gr (.int .u8) 0), .lf (.int .i64)], [some (.arr true (.int .u8))]⟩
abbrev o27_3 : Outs := [(.normal, ⟨[0, 1, 7, 8], [.lf (.sl (.pair (.int .i64) (.pair (.int .i64) (.int .i64)))), .lf (.int .i64), .lf (.gr (.int .u8) 0), .lf (.int .i64)], [some (.arr true (.int .u8))]⟩)]
noncomputable def b27_3 (x : g27_3.D) : Option (outD o27_3) :=
  (if ((0 : Int) ≤ x.2.2.1) then (if (x.2.2.1 < (((length x.1) : Nat) : Int)) then (if (((getD x.1 (Int.toNat x.2.2.1) ((0 : Int), (0 : Int), (0 : Int))).2.1 == (0 : Int)) = true) then (if ((0 : Int) ≤ x.2.2.1) then (if (x.2.2.1 < (((length x.1) : Nat) : Int)) then (if (((length (take (length x.2.2.2.1) (drop 0 x.2.2.2.1))) + (length (take 1 (drop 0 (List.set (replicate 1 (0 : Int)) 0 (IntKind.wrap .u8 (getD x.1 (Int.toNat x.2.2.1) ((0 : Int), (0 : Int), (0 : Int))).1)))))) ≤ 140737488355328) then (if ((length ((take (length x.2.2.2.1) (drop 0 x.2.2.2.1)) ++ (take 1 (drop 0 (List.set (replicate 1 (0 : Int)) 0 (IntKind.wrap .u8 (getD x.1 (Int.toNat x.2.2.1) ((0 : Int), (0 : Int), (0 : Int))).1)))))) = (length ((take (length x.2.2.2.1) (drop 0 x.2.2.2.1)) ++ (take 1 (drop 0 (List.set (replicate 1 (0 : Int)) 0 (IntKind.wrap .u8 (getD x.1 (Int.toNat x.2.2.1) ((0 : Int), (0 : Int), (0 : Int))).1))))))) then (some (Sum.inl (x.1, x.2.1, x.2.2.1, ((take (length x.2.2.2.1) (drop 0 x.2.2.2.1)) ++ (take 1 (drop 0 (List.set (replicate 1 (0 : Int)) 0 (IntKind.wrap .u8 (getD x.1 (Int.toNat x.2.2.1) ((0 : Int), (0 : Int), (0 : Int))).1))))), ())))
 else none)
 else none)
 else none)
 else none)
 else (if ((length x.2.2.2.1) = (length x.2.2.2.1)) then (some (Sum.inl (x.1, x.2.1, x.2.2.1, x.2.2.2.1, ())))
 else none))
 else none)
 else none)
theorem b27_3_eq (x : g27_3.D) : b27_3 x = evF P (T26.orc _) Try.f27.ntmps fx27 (Code.at [tt, tt, tt, tt, ff, tt, ff, ff, tt, ff, ff, tt, tt, ff] c27) (planAt 64 []) g27_3 x (injK fx27 o27_3 some) := by kernel_rfl
theorem s27_3_ok : SubOk P Try.f27.ntmps fx27 (Code.at [tt, tt, tt, tt, ff, tt, ff, ff, tt, ff, ff, tt, tt, ff] c27) ⟨g27_3, o27_3, b27_3⟩ :=
  sub_ok (g := g27_3) (outs := o27_3) (f := b27_3) (Table.ok T26_ok _) hmix (planAt_ok (P := P) (n := Try.f27.ntmps) (fx := fx27) (c := (Code.at [tt, tt, tt, tt, ff, tt, ff, ff, tt, ff, ff, tt, tt, ff] c27)) (d := 64) (l := []) trivial) b27_3_eq
abbrev g27_2 : Sg := ⟨[0, 1, 7, 8], [.lf (.sl (.pair (.int .i64) (.pair (.int .i64) (.int .i64)))), .lf (.int .i64), .lf (.gr (.int .u8) 0), .lf (.int .i64)], [some (.arr true (.int .u8))]⟩
abbrev o27_2 : Outs := [(.exit 2, ⟨[7], [.lf (.gr (.int .u8) 0)], [some (.arr true (.int .u8))]⟩), (.ret, ⟨[4, 5], [.lf (.sl (.int .u8)), .lf (.int .i64)], []⟩)]
noncomputable def b27_2 (x : g27_2.D) : Option (outD ((.normal, g27_2) :: o27_2)) :=
  (if ((decide (x.2.2.1 < (((length x.1) : Nat) : Int))) = true) then (if ((0 : Int) ≤ x.2.2.1) then (if (x.2.2.1 < (((length x.1) : Nat) : Int)) then (if ((decide ((getD x.1 (Int.toNat x.2.2.1) ((0 : Int), (0 : Int), (0 : Int))).2.2 > (((length x.2.2.2.1) : Nat) : Int))) = true) then (some (Sum.inr (Sum.inr (Sum.inl ([], (4 : Int), ())))))
 else (if ((0 : Int) ≤ x.2.2.1) then (if (x.2.2.1 < (((length x.1) : Nat) : Int)) then (Option.bind (f60 ((getD x.1 (Int.toNat x.2.2.1) ((0 : Int), (0 : Int), (0 : Int))).1, (getD x.1 (Int.toNat x.2.2.1) ((0 : Int), (0 : Int), (0 : Int))).2.1, (getD x.1 (Int.toNat x.2.2.1) ((0 : Int), (0 : Int), (0 : Int))).2.2, ())) (fun y1 => (if ((decide ((IntKind.wrap .i64 ((((length x.2.2.2.1) : Nat) : Int) + y1.1)) > x.2.1)) = true) then (some (Sum.inr (Sum.inr (Sum.inl ([], (2 : Int), ())))))
 else (if ((length x.2.2.2.1) = (length x.2.2.2.1)) then (Option.bind (b27_3 (x.1, x.2.1, x.2.2.1, x.2.2.2.1, ())) (Sum.elim (fun y2 => (if ((length y2.2.2.2.1) = (length y2.2.2.2.1)) then (Option.bind (l27_4 (y2.1, y2.2.1, y2.2.2.1, (0 : Int), y2.2.2.2.1, ())) (Sum.elim (fun y3 => (if ((length y3.2.2.2.1) = (length y3.2.2.2.1)) then (some (Sum.inl (y3.1, y3.2.1, (IntKind.wrap .i64 (y3.2.2.1 + (1 : Int))), y3.2.2.2.1, ())))
 else none)) Empty.elim))
 else none)) Empty.elim))
 else none))))
 else none)
 else none))
 else none)
 else none)
 else (if ((length x.2.2.2.1) = (length x.2.2.2.1)) then (some (Sum.inr (Sum.inl (x.2.2.2.1, ()))))
 else none))
theorem b27_2_eq (x : g27_2.D) : b27_2 x = evF P (T26.orc _) Try.f27.ntmps fx27 (Code.at [tt, tt, tt, tt, ff, tt, ff, ff] c27) (planAt 64 [([tt, ff, ff, tt, tt, ff], ⟨g27_3, o27_3, b27_3⟩), ([tt, ff, ff, tt, tt, tt, tt, ff], ⟨g27_4, o27_4, l27_4⟩)]) g27_2 x (injK fx27 ((.normal, g27_2) :: o27_2) some) := by kernel_rfl
noncomputable def l27_2 : g27_2.D → Option (outD o27_2) := loopN g27_2 o27_2 b27_2 18446744073709551616
theorem p27_2 : AllSub P Try.f27.ntmps fx27 (Code.at [tt, tt, tt, tt, ff, tt, ff, ff] c27) [([tt, ff, ff, tt, tt, ff], ⟨g27_3, o27_3, b27_3⟩), ([tt, ff, ff, tt, tt, tt, tt, ff], ⟨g27_4, o27_4, l27_4⟩)] := And.intro s27_3_ok (And.intro s27_4_ok (trivial))
theorem q27_2 : PlanOk P Try.f27.ntmps fx27 (planAt 64 [([tt, ff, ff, tt, tt, ff], ⟨g27_3, o27_3, b27_3⟩), ([tt, ff, ff, tt, tt, tt, tt, ff], ⟨g27_4, o27_4, l27_4⟩)]) (Code.at [tt, tt, tt, tt, ff, tt, ff, ff] c27) := planAt_ok p27_2
theorem at27_2 : Code.at [tt, tt, tt, tt, ff, tt, ff] c27 = .loop (Code.at [tt, tt, tt, tt, ff, tt, ff, ff] c27) := by kernel_rfl
theorem s27_2_ok : SubOk P Try.f27.ntmps fx27 (Code.at [tt, tt, tt, tt, ff, tt, ff] c27) ⟨g27_2, o27_2, l27_2⟩ := by
  rw [at27_2]
  exact loop_ok (sub_ok (g := g27_2) (outs := ((.normal, g27_2) :: o27_2)) (f := b27_2) (Table.ok T26_ok _) hmix (q27_2) b27_2_eq) rfl _
abbrev g27_1 : Sg := ⟨[0, 1, 6], [.lf (.sl (.pair (.int .i64) (.pair (.int .i64) (.int .i64)))), .lf (.int .i64), .lf (.int .i64)], []⟩
abbrev o27_1 : Outs := [(.exit 0, ⟨[0, 1], [.lf (.sl (.pair (.int .i64) (.pair (.int .i64) (.int .i64)))), .lf (.int .i64)], []⟩), (.ret, ⟨[4, 5], [.lf (.sl (.int .u8)), .lf (.int .i64)], []⟩)]
noncomputable def b27_1 (x : g27_1.D) : Option (outD ((.normal, g27_1) :: o27_1)) :=
  (if ((decide (x.2.2.1 < (((length x.1) : Nat) : Int))) = true) then (if ((0 : Int) ≤ x.2.2.1) then (if (x.2.2.1 < (((length x.1) : Nat) : Int)) then (Option.bind (f44 ((getD x.1 (Int.toNat x.2.2.1) ((0 : Int), (0 : Int), (0 : Int))).1, (getD x.1 (Int.toNat x.2.2.1) ((0 : Int), (0 : Int), (0 : Int))).2.1, (getD x.1 (Int.toNat x.2.2.1) ((0 : Int), (0 : Int), (0 : Int))).2.2, ())) (fun y1 => (if ((Bool.not y1.1) = true) then (some (Sum.inr (Sum.inr (Sum.inl ([], (1 : Int), ())))))
 else (some (Sum.inl (x.1, x.2.1, (IntKind.wrap .i64 (x.2.2.1 + (1 : Int))), ()))))))
 else none)
 else none)
 else (some (Sum.inr (Sum.inl (x.1, x.2.1, ())))))
theorem b27_1_eq (x : g27_1.D) : b27_1 x = evF P (T26.orc _) Try.f27.ntmps fx27 (Code.at [tt, tt, ff, tt, ff, ff] c27) (planAt 64 []) g27_1 x (injK fx27 ((.normal, g27_1) :: o27_1) some) := by kernel_rfl
noncomputable def l27_1 : g27_1.D → Option (outD o27_1) := loopN g27_1 o27_1 b27_1 18446744073709551616
theorem at27_1 : Code.at [tt, tt, ff, tt, ff] c27 = .loop (Code.at [tt, tt, ff, tt, ff, ff] c27) := by kernel_rfl
theorem s27_1_ok : SubOk P Try.f27.ntmps fx27 (Code.at [tt, tt, ff, tt, ff] c27) ⟨g27_1, o27_1, l27_1⟩ := by
  rw [at27_1]
  exact loop_ok (sub_ok (g := g27_1) (outs := ((.normal, g27_1) :: o27_1)) (f := b27_1) (Table.ok T26_ok _) hmix (planAt_ok (P := P) (n := Try.f27.ntmps) (fx := fx27) (c := (Code.at [tt, tt, ff, tt, ff, ff] c27)) (d := 64) (l := []) trivial) b27_1_eq) rfl _
noncomputable def f27 (x : gi27.D) : Option go27.D :=
  (if ((decide (x.2.1 < (0 : Int))) = true) then (some ([], (1 : Int), ()))
 else (if ((decide (x.2.1 > (1048576 : Int))) = true) then (some ([], (1 : Int), ()))
 else (Option.bind (l27_1 (x.1, x.2.1, (0 : Int), ())) (Sum.elim (fun y1 => (Option.bind (l27_2 (y1.1, y1.2.1, (0 : Int), [], ())) (Sum.elim (fun y2 => (some ((take (length y2.1) (drop 0 y2.1)), (0 : Int), ()))) (Sum.elim (fun y2 => (some (y2.1, y2.2.1, ()))) Empty.elim)))) (Sum.elim (fun y1 => (some (y1.1, y1.2.1, ()))) Empty.elim)))))
theorem f27_eq (x : gi27.D) : f27 x = evF P (T26.orc _) Try.f27.ntmps fx27 c27 (planAt 64 [([tt, tt, ff, tt, ff], ⟨g27_1, o27_1, l27_1⟩), ([tt, tt, tt, tt, ff, tt, ff], ⟨g27_2, o27_2, l27_2⟩)]) gi27 x (fnK fx27 [go27]) := by kernel_rfl
theorem pf27 : AllSub P Try.f27.ntmps fx27 c27 [([tt, tt, ff, tt, ff], ⟨g27_1, o27_1, l27_1⟩), ([tt, tt, tt, tt, ff, tt, ff], ⟨g27_2, o27_2, l27_2⟩)] := And.intro s27_1_ok (And.intro s27_2_ok (trivial))
theorem qf27 : PlanOk P Try.f27.ntmps fx27 (planAt 64 [([tt, tt, ff, tt, ff], ⟨g27_1, o27_1, l27_1⟩), ([tt, tt, tt, tt, ff, tt, ff], ⟨g27_2, o27_2, l27_2⟩)]) c27 := planAt_ok pf27
theorem f27_ok : EntOk P 27 ⟨gi27, [go27], f27⟩ :=
  ent_ok (fn := Try.f27) (gi := gi27) (gos := [go27]) (f := f27) (c := c27) (fx := fx27) ⟨Try.func27, by kernel_rfl, rfl, by decide +kernel, rfl, rfl⟩ (by kernel_rfl) (Table.ok T26_ok _) hmix (qf27) f27_eq
noncomputable def T27 : Table := T26.add 27 [⟨gi27, [go27], f27⟩] []
theorem T27_ok : TableOk P T27 := Table.plus T26_ok (es := [⟨gi27, [go27], f27⟩]) ⟨f27_ok, trivial⟩ []

noncomputable def c19 : Code := Func.code Try.f19
abbrev gi19 : Sg := ⟨[0, 1], [.lf (.sl (.int .u8)), .lf (.int .i64)], []⟩
abbrev go19 : Sg := ⟨[4, 5, 6], [.lf (.sl (.int .u8)), .lf (.int .i64), .lf (.int .i64)], []⟩
def fx19 : List Bool := []
noncomputable def f19 (x : gi19.D) : Option go19.D :=
  (Option.bind (f26 (x.1, x.2.1, ())) (fun y1 => (if ((y1.2.1 != (0 : Int)) = true) then (some ([], (0 : Int), y1.2.1, ()))
 else (Option.bind (f27 ((take (length y1.2.2.1) (drop 0 y1.2.2.1)), x.2.1, ())) (fun y2 => (some (y2.1, y1.1, y2.2.1, ())))))))
theorem f19_eq (x : gi19.D) : f19 x = evF P (T27.orc _) Try.f19.ntmps fx19 c19 (planAt 64 []) gi19 x (fnK fx19 [go19]) := by kernel_rfl
theorem f19_ok : EntOk P 19 ⟨gi19, [go19], f19⟩ :=
  ent_ok (fn := Try.f19) (gi := gi19) (gos := [go19]) (f := f19) (c := c19) (fx := fx19) ⟨Try.func19, by kernel_rfl, rfl, by decide +kernel, rfl, rfl⟩ (by kernel_rfl) (Table.ok T27_ok _) hmix (planAt_ok (P := P) (n := Try.f19.ntmps) (fx := fx19) (c := c19) (d := 64) (l := []) trivial) f19_eq
noncomputable def T19 : Table := T27.add 19 [⟨gi19, [go19], f19⟩] []
theorem T19_ok : TableOk P T19 := Table.plus T27_ok (es := [⟨gi19, [go19], f19⟩]) ⟨f19_ok, trivial⟩ []

noncomputable def c13 : Code := Func.code Try.f13
abbrev gi13 : Sg := ⟨[0, 1], [.lf (.sl (.int .u8)), .lf (.int .i64)], []⟩
abbrev go13 : Sg := ⟨[4, 5], [.lf (.gr (.int .u8) 0), .lf (.int .i64)], [some (.arr true (.int .u8))]⟩
def fx13 : List Bool := []
noncomputable def f13 (x : gi13.D) : Option go13.D :=
  (if ((decide (x.2.1 < (0 : Int))) = true) then (some ((1 : Int), [], ()))
 else (if ((decide (x.2.1 > (1048576 : Int))) = true) then (some ((1 : Int), [], ()))
 else (if ((decide ((((length x.1) : Nat) : Int) < (2 : Int))) = true) then (some ((6 : Int), [], ()))
 else (if ((0 : Int) < (((length x.1) : Nat) : Int)) then (if (((Int.tmod (getD x.1 0 (0 : Int)) (16 : Int)) != (8 : Int)) = true) then (some ((4 : Int), [], ()))
 else (if ((0 : Int) < (((length x.1) : Nat) : Int)) then (if ((decide ((IntKind.wrap .u8 (Int.tdiv (getD x.1 0 (0 : Int)) (16 : Int))) > (7 : Int))) = true) then (some ((4 : Int), [], ()))
 else (if ((0 : Int) < (((length x.1) : Nat) : Int)) then (if ((1 : Int) < (((length x.1) : Nat) : Int)) then (if (((Int.tmod (IntKind.wrap .i64 ((IntKind.wrap .i64 ((256 : Int) * (IntKind.wrap .i64 (getD x.1 0 (0 : Int))))) + (IntKind.wrap .i64 (getD x.1 1 (0 : Int))))) (31 : Int)) != (0 : Int)) = true) then (some ((4 : Int), [], ()))
 else (if ((1 : Int) < (((length x.1) : Nat) : Int)) then (if (((Int.tmod (IntKind.wrap .u8 (Int.tdiv (getD x.1 1 (0 : Int)) (32 : Int))) (2 : Int)) == (1 : Int)) = true) then (some ((4 : Int), [], ()))
 else (if ((2 : Int) ≤ (((length x.1) : Nat) : Int)) then (Option.bind (f19 ((drop 2 x.1), x.2.1, ())) (fun y1 => (if ((y1.2.2.1 != (0 : Int)) = true) then (some (y1.2.2.1, [], ()))
 else (if ((0 : Int) ≤ (IntKind.wrap .i64 ((2 : Int) + y1.2.1))) then (if ((IntKind.wrap .i64 ((2 : Int) + y1.2.1)) ≤ (((length x.1) : Nat) : Int)) then (if ((decide ((((length (drop (Int.toNat (IntKind.wrap .i64 ((2 : Int) + y1.2.1))) x.1)) : Nat) : Int) < (4 : Int))) = true) then (some ((6 : Int), [], ()))
 else (if ((4 : Int) ≤ (((length (drop (Int.toNat (IntKind.wrap .i64 ((2 : Int) + y1.2.1))) x.1)) : Nat) : Int)) then (Option.bind (f14 (y1.1, ())) (fun y2 => (Option.bind (f17 (y2.1, ())) (fun y3 => (if ((Bool.not ((ByteArray.toList (ByteArray.mk (List.toArray (List.map (fun y4 => (UInt8.ofNat (Int.toNat y4))) (take 4 (drop (Int.toNat (IntKind.wrap .i64 ((2 : Int) + y1.2.1))) x.1)))))) == (ByteArray.toList (ByteArray.mk (List.toArray (List.map (fun y4 => (UInt8.ofNat (Int.toNat y4))) (take (length y3.1) (drop 0 y3.1)))))))) = true) then (some ((7 : Int), [], ()))
 else (Option.bind (f9 (y1.1, ())) (fun y4 => (if ((length y4.1) = (length y4.1)) then (some ((0 : Int), y4.1, ()))
 else none))))))))
 else none))
 else none)
 else none))))
 else none))
 else none))
 else none)
 else none))
 else none))
 else none))))
theorem f13_eq (x : gi13.D) : f13 x = evF P (T19.orc _) Try.f13.ntmps fx13 c13 (planAt 64 []) gi13 x (fnK fx13 [go13]) := by kernel_rfl
theorem f13_ok : EntOk P 13 ⟨gi13, [go13], f13⟩ :=
  ent_ok (fn := Try.f13) (gi := gi13) (gos := [go13]) (f := f13) (c := c13) (fx := fx13) ⟨Try.func13, by kernel_rfl, rfl, by decide +kernel, rfl, rfl⟩ (by kernel_rfl) (Table.ok T19_ok _) hmix (planAt_ok (P := P) (n := Try.f13.ntmps) (fx := fx13) (c := c13) (d := 64) (l := []) trivial) f13_eq
noncomputable def T13 : Table := T19.add 13 [⟨gi13, [go13], f13⟩] []
theorem T13_ok : TableOk P T13 := Table.plus T19_ok (es := [⟨gi13, [go13], f13⟩]) ⟨f13_ok, trivial⟩ []

noncomputable def c4 : Code := Func.code Try.f4
abbrev gi4 : Sg := ⟨[0, 1], [.lf (.sl (.int .u8)), .lf (.int .i64)], []⟩
abbrev go4 : Sg := ⟨[4], [.lf .bool], []⟩
def fx4 : List Bool := []
abbrev g4_1 : Sg := ⟨[0, 1], [.lf (.sl (.int .u8)), .lf (.int .i64)], []⟩
abbrev o4_1 : Outs := [(.normal, ⟨[0, 1, 24], [.lf (.sl (.int .u8)), .lf (.int .i64), .lf .bool], []⟩)]
noncomputable def b4_1 (x : g4_1.D) : Option (outD o4_1) :=
  (if ((decide ((((length x.1) : Nat) : Int) > (200 : Int))) = true) then (some (Sum.inl (x.1, x.2.1, true, ())))
 else (if ((decide (x.2.1 > (3000 : Int))) = true) then (some (Sum.inl (x.1, x.2.1, (decide (x.2.1 ≤ (1048576 : Int))), ())))
 else (some (Sum.inl (x.1, x.2.1, false, ())))))
theorem b4_1_eq (x : g4_1.D) : b4_1 x = evF P (T13.orc _) Try.f4.ntmps fx4 (Code.at [tt, ff, ff] c4) (planAt 64 []) g4_1 x (injK fx4 o4_1 some) := by kernel_rfl
theorem s4_1_ok : SubOk P Try.f4.ntmps fx4 (Code.at [tt, ff, ff] c4) ⟨g4_1, o4_1, b4_1⟩ :=
  sub_ok (g := g4_1) (outs := o4_1) (f := b4_1) (Table.ok T13_ok _) hmix (planAt_ok (P := P) (n := Try.f4.ntmps) (fx := fx4) (c := (Code.at [tt, ff, ff] c4)) (d := 64) (l := []) trivial) b4_1_eq
noncomputable def f4 (x : gi4.D) : Option go4.D :=
  (Option.bind (b4_1 (x.1, x.2.1, ())) (Sum.elim (fun y1 => (if (y1.2.2.1 = true) then (some (true, ()))
 else (Option.bind (f9 (y1.1, ())) (fun y2 => (Option.bind (f10 ((take (length y2.1) (drop 0 y2.1)), ())) (fun y3 => (Option.bind (f11 (y1.1, ())) (fun y4 => (Option.bind (f12 ((take (length y2.1) (drop 0 y2.1)), y1.2.1, ())) (fun y5 => (Option.bind (f13 (y1.1, y1.2.1, ())) (fun y6 => (Option.bind (f8 ()) (fun y7 => (if (y7.1 = true) then (if (((ByteArray.toList (ByteArray.mk (List.toArray (List.map (fun y8 => (UInt8.ofNat (Int.toNat y8))) (take (length y2.1) (drop 0 y2.1)))))) == (ByteArray.toList (ByteArray.mk (List.toArray (List.map (fun y8 => (UInt8.ofNat (Int.toNat y8))) y1.1))))) = true) then (Option.bind (f7 ((take (length y2.1) (drop 0 y2.1)), ())) (fun y8 => (Option.bind (f14 (y1.1, ())) (fun y9 => (if ((y8.1 == y9.1) = true) then (if (((ByteArray.toList (ByteArray.mk (List.toArray (List.map (fun y10 => (UInt8.ofNat (Int.toNat y10))) (take (length y3.2.1) (drop 0 y3.2.1)))))) == (ByteArray.toList (ByteArray.mk (List.toArray (List.map (fun y10 => (UInt8.ofNat (Int.toNat y10))) (take (length y4.2.1) (drop 0 y4.2.1))))))) = true) then (if ((y3.1 == y4.1) = true) then (if (((ByteArray.toList (ByteArray.mk (List.toArray (List.map (fun y10 => (UInt8.ofNat (Int.toNat y10))) y5.1)))) == (ByteArray.toList (ByteArray.mk (List.toArray (List.map (fun y10 => (UInt8.ofNat (Int.toNat y10))) (take (length y6.2.1) (drop 0 y6.2.1))))))) = true) then (some ((y5.2.1 == y6.1), ()))
 else (some (false, ())))
 else (some (false, ())))
 else (some (false, ())))
 else (some (false, ())))))))
 else (some (false, ())))
 else (some (false, ()))))))))))))))))) Empty.elim))
theorem f4_eq (x : gi4.D) : f4 x = evF P (T13.orc _) Try.f4.ntmps fx4 c4 (planAt 64 [([tt, ff, ff], ⟨g4_1, o4_1, b4_1⟩)]) gi4 x (fnK fx4 [go4]) := by kernel_rfl
theorem pf4 : AllSub P Try.f4.ntmps fx4 c4 [([tt, ff, ff], ⟨g4_1, o4_1, b4_1⟩)] := And.intro s4_1_ok (trivial)
theorem qf4 : PlanOk P Try.f4.ntmps fx4 (planAt 64 [([tt, ff, ff], ⟨g4_1, o4_1, b4_1⟩)]) c4 := planAt_ok pf4
theorem f4_ok : EntOk P 4 ⟨gi4, [go4], f4⟩ :=
  ent_ok (fn := Try.f4) (gi := gi4) (gos := [go4]) (f := f4) (c := c4) (fx := fx4) ⟨Try.func4, by kernel_rfl, rfl, by decide +kernel, rfl, rfl⟩ (by kernel_rfl) (Table.ok T13_ok _) hmix (qf4) f4_eq
noncomputable def T4 : Table := T13.add 4 [⟨gi4, [go4], f4⟩] []
theorem T4_ok : TableOk P T4 := Table.plus T13_ok (es := [⟨gi4, [go4], f4⟩]) ⟨f4_ok, trivial⟩ []

end Go.Ev.Zlib
