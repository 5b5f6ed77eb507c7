/- Part of a proof about the given program: F. -/
import Derived.Test.YtjbkmodcnfffiaaF1
namespace Go.Ev.Deflate
open Go.Ev
set_option maxRecDepth 1000000
abbrev gi3 : Sg := ⟨[0, 1], [.lf (.sl (.int .u8)), .lf (.sl (.pair (.int .i64) (.pair (.int .i64) (.int .i64))))], []⟩
abbrev go3 : Sg := ⟨[4], [.lf .bool], []⟩
def fx3 : List Bool := []
noncomputable def f3 (x : gi3.D) : Option go3.D :=
  (if ((decide ((((List.length x.1) : Nat) : Int) > (300 : Int))) = true) then (some (true, Unit.unit))
   else (if ((decide ((((List.length x.2.1) : Nat) : Int) > (60 : Int))) = true) then (some (true, Unit.unit))
   else (Option.bind (Go.Ev.Deflate.f8 (x.1, Unit.unit)) (fun y1 => (Option.bind (Go.Ev.Deflate.f9 ((List.take (List.length y1.1) (List.drop (0 : Nat) y1.1)), Unit.unit)) (fun y2 => (Option.bind (Go.Ev.Deflate.f10 (x.1, Unit.unit)) (fun y3 => (Option.bind (Go.Ev.Deflate.f11 (x.2.1, Unit.unit)) (fun y4 => (Option.bind (Go.Ev.Deflate.f12 (x.2.1, Unit.unit)) (fun y5 => (Option.bind (Go.Ev.Deflate.f13 ((List.take (List.length y1.1) (List.drop (0 : Nat) y1.1)), Unit.unit)) (fun y6 => (Option.bind (Go.Ev.Deflate.f14 (x.1, Unit.unit)) (fun y7 => (Option.bind (Go.Ev.Deflate.f15 Unit.unit) (fun y8 => (if (y8.1 = true) then (if (((ByteArray.toList (ByteArray.mk (List.toArray (List.map (fun y9 => (UInt8.ofNat (Int.toNat y9))) (List.take (List.length y1.1) (List.drop (0 : Nat) y1.1)))))) == (ByteArray.toList (ByteArray.mk (List.toArray (List.map (fun y9 => (UInt8.ofNat (Int.toNat y9))) x.1))))) = true) then (Option.bind (Go.Ev.Deflate.f16 ((List.take (List.length y2.2.1) (List.drop (0 : Nat) y2.2.1)), ((List.take (List.length y3.2.1) (List.drop (0 : Nat) y3.2.1)), Unit.unit))) (fun y9 => (if (y9.1 = true) then (if ((y2.1 == y3.1) = true) then (if (((ByteArray.toList (ByteArray.mk (List.toArray (List.map (fun y10 => (UInt8.ofNat (Int.toNat y10))) (List.take (List.length y4.2.1) (List.drop (0 : Nat) y4.2.1)))))) == (ByteArray.toList (ByteArray.mk (List.toArray (List.map (fun y10 => (UInt8.ofNat (Int.toNat y10))) y5.1))))) = true) then (if ((y4.1 == y5.2.1) = true) then (if (((ByteArray.toList (ByteArray.mk (List.toArray (List.map (fun y10 => (UInt8.ofNat (Int.toNat y10))) (List.take (List.length y6.2.1) (List.drop (0 : Nat) y6.2.1)))))) == (ByteArray.toList (ByteArray.mk (List.toArray (List.map (fun y10 => (UInt8.ofNat (Int.toNat y10))) y7.1))))) = true) then (some ((y6.1 == y7.2.1), Unit.unit))
   else (some (false, Unit.unit)))
   else (some (false, Unit.unit)))
   else (some (false, Unit.unit)))
   else (some (false, Unit.unit)))
   else (some (false, Unit.unit)))))
   else (some (false, Unit.unit)))
   else (some (false, Unit.unit)))))))))))))))))))))
theorem f3_eq (x : gi3.D) : f3 x = evF P (T15.orc _) Go.Proofs.Try.f3.ntmps fx3 c3 (planAt 64 []) gi3 x (fnK fx3 [go3]) := by kernel_rfl
theorem f3_ok : EntOk P 3 ⟨gi3, [go3], f3⟩ :=
  ent_ok (fn := Go.Proofs.Try.f3) (gi := gi3) (gos := [go3]) (f := f3) (c := c3) (fx := fx3) ⟨Go.Proofs.Try.func3, by kernel_rfl, rfl, by decide +kernel, rfl, rfl⟩ (by kernel_rfl) (Table.ok T15_ok _) hmix (planAt_ok (P := P) (n := Go.Proofs.Try.f3.ntmps) (fx := fx3) (c := c3) (d := 64) (l := []) trivial) f3_eq
noncomputable def T3 : Table := T15.add 3 [⟨gi3, [go3], f3⟩] []
theorem T3_ok : TableOk P T3 := Table.plus T15_ok (es := [⟨gi3, [go3], f3⟩]) ⟨f3_ok, trivial⟩ []

/-! ## 4: erasure/erasurelaw07.DeflateLong -/
noncomputable def c4 : Code := Func.code Go.Proofs.Try.f4
abbrev gi4 : Sg := ⟨[0], [.lf (.sl (.int .u8))], []⟩
abbrev go4 : Sg := ⟨[2], [.lf .bool], []⟩
def fx4 : List Bool := []
abbrev g4_3 : Sg := ⟨[0, 3, 5, 6, 7, 8, 9], [.lf (.sl (.int .u8)), .lf (.sl (.pair (.int .i64) (.pair (.int .i64) (.int .i64)))), .lf (.int .i64), .lf (.int .i64), .lf (.int .i64), .lf (.int .i64), .lf (.int .i64)], []⟩
abbrev o4_3 : Outs := [(.exit 4, ⟨[0, 3, 5, 6, 7, 8, 9], [.lf (.sl (.int .u8)), .lf (.sl (.pair (.int .i64) (.pair (.int .i64) (.int .i64)))), .lf (.int .i64), .lf (.int .i64), .lf (.int .i64), .lf (.int .i64), .lf (.int .i64)], []⟩)]
noncomputable def b4_3 (x : g4_3.D) : Option (outD ((.normal, g4_3) :: o4_3)) :=
  (if ((decide (x.2.2.2.2.2.2.1 < (258 : Int))) = true) then (if ((decide ((Go.IntKind.wrap Go.IntKind.i64 (x.2.2.1 + x.2.2.2.2.2.2.1)) < (((List.length x.1) : Nat) : Int))) = true) then (if ((0 : Int) ≤ (Go.IntKind.wrap Go.IntKind.i64 (x.2.2.1 + x.2.2.2.2.2.2.1))) then (if ((Go.IntKind.wrap Go.IntKind.i64 (x.2.2.1 + x.2.2.2.2.2.2.1)) < (((List.length x.1) : Nat) : Int)) then (if ((0 : Int) ≤ (Go.IntKind.wrap Go.IntKind.i64 ((Go.IntKind.wrap Go.IntKind.i64 (x.2.2.1 + x.2.2.2.2.2.2.1)) - x.2.2.2.2.2.1))) then (if ((Go.IntKind.wrap Go.IntKind.i64 ((Go.IntKind.wrap Go.IntKind.i64 (x.2.2.1 + x.2.2.2.2.2.2.1)) - x.2.2.2.2.2.1)) < (((List.length x.1) : Nat) : Int)) then (if (((List.getD x.1 (Int.toNat (Go.IntKind.wrap Go.IntKind.i64 (x.2.2.1 + x.2.2.2.2.2.2.1))) (0 : Int)) == (List.getD x.1 (Int.toNat (Go.IntKind.wrap Go.IntKind.i64 ((Go.IntKind.wrap Go.IntKind.i64 (x.2.2.1 + x.2.2.2.2.2.2.1)) - x.2.2.2.2.2.1))) (0 : Int))) = true) then (some (Sum.inl (x.1, (x.2.1, (x.2.2.1, (x.2.2.2.1, (x.2.2.2.2.1, (x.2.2.2.2.2.1, ((Go.IntKind.wrap Go.IntKind.i64 (x.2.2.2.2.2.2.1 + (1 : Int))), Unit.unit)))))))))
   else (some (Sum.inr (Sum.inl (x.1, (x.2.1, (x.2.2.1, (x.2.2.2.1, (x.2.2.2.2.1, (x.2.2.2.2.2.1, (x.2.2.2.2.2.2.1, Unit.unit)))))))))))
   else none)
   else none)
   else none)
   else none)
   else (some (Sum.inr (Sum.inl (x.1, (x.2.1, (x.2.2.1, (x.2.2.2.1, (x.2.2.2.2.1, (x.2.2.2.2.2.1, (x.2.2.2.2.2.2.1, Unit.unit)))))))))))
   else (some (Sum.inr (Sum.inl (x.1, (x.2.1, (x.2.2.1, (x.2.2.2.1, (x.2.2.2.2.1, (x.2.2.2.2.2.1, (x.2.2.2.2.2.2.1, Unit.unit)))))))))))
theorem b4_3_eq (x : g4_3.D) : b4_3 x = evF P (T3.orc _) Go.Proofs.Try.f4.ntmps fx4 (Code.at [true, true, true, true, true, false, true, false, false, true, false, false, true, true, false, true, false, false, true, false, false, true, false, false, false] c4) (planAt 64 []) g4_3 x (injK fx4 ((.normal, g4_3) :: o4_3) some) := by kernel_rfl
noncomputable def l4_3 : g4_3.D → Option (outD o4_3) := loopN g4_3 o4_3 b4_3 18446744073709551616
theorem at4_3 : Code.at [true, true, true, true, true, false, true, false, false, true, false, false, true, true, false, true, false, false, true, false, false, true, false, false] c4 = .loop (Code.at [true, true, true, true, true, false, true, false, false, true, false, false, true, true, false, true, false, false, true, false, false, true, false, false, false] c4) := by kernel_rfl
theorem s4_3_ok : SubOk P Go.Proofs.Try.f4.ntmps fx4 (Code.at [true, true, true, true, true, false, true, false, false, true, false, false, true, true, false, true, false, false, true, false, false, true, false, false] c4) ⟨g4_3, o4_3, l4_3⟩ := by
  rw [at4_3]
  exact loop_ok (sub_ok (g := g4_3) (outs := ((.normal, g4_3) :: o4_3)) (f := b4_3) (Table.ok T3_ok _) hmix (planAt_ok (P := P) (n := Go.Proofs.Try.f4.ntmps) (fx := fx4) (c := (Code.at [true, true, true, true, true, false, true, false, false, true, false, false, true, true, false, true, false, false, true, false, false, true, false, false, false] c4)) (d := 64) (l := []) trivial) b4_3_eq) rfl _
abbrev g4_2 : Sg := ⟨[0, 3, 5, 6, 7, 8], [.lf (.sl (.int .u8)), .lf (.sl (.pair (.int .i64) (.pair (.int .i64) (.int .i64)))), .lf (.int .i64), .lf (.int .i64), .lf (.int .i64), .lf (.int .i64)], []⟩
abbrev o4_2 : Outs := [(.exit 2, ⟨[0, 3, 5, 6, 7], [.lf (.sl (.int .u8)), .lf (.sl (.pair (.int .i64) (.pair (.int .i64) (.int .i64)))), .lf (.int .i64), .lf (.int .i64), .lf (.int .i64)], []⟩), (.ret, ⟨[2], [.lf .bool], []⟩)]
noncomputable def b4_2 (x : g4_2.D) : Option (outD ((.normal, g4_2) :: o4_2)) :=
  (if ((decide (x.2.2.2.2.2.1 ≤ x.2.2.1)) = true) then (if ((decide (x.2.2.2.2.2.1 ≤ (1024 : Int))) = true) then (Option.bind (Go.Ev.Deflate.l4_3 (x.1, (x.2.1, (x.2.2.1, (x.2.2.2.1, (x.2.2.2.2.1, (x.2.2.2.2.2.1, ((0 : Int), Unit.unit)))))))) (Sum.elim (fun y1 => (if ((decide (y1.2.2.2.2.2.2.1 > (Max.max y1.2.2.2.2.1 (2 : Int)))) = true) then (some (Sum.inr (Sum.inr (Sum.inl (false, Unit.unit)))))
   else (if ((y1.2.2.2.2.2.2.1 == y1.2.2.2.2.1) = true) then (if ((decide (y1.2.2.2.2.1 > (0 : Int))) = true) then (if ((0 : Int) ≤ y1.2.2.2.1) then (if (y1.2.2.2.1 < (((List.length y1.2.1) : Nat) : Int)) then (if ((decide (y1.2.2.2.2.2.1 < (List.getD y1.2.1 (Int.toNat y1.2.2.2.1) ((0 : Int), ((0 : Int), (0 : Int)))).2.2)) = true) then (some (Sum.inr (Sum.inr (Sum.inl (false, Unit.unit)))))
   else (some (Sum.inl (y1.1, (y1.2.1, (y1.2.2.1, (y1.2.2.2.1, (y1.2.2.2.2.1, ((Go.IntKind.wrap Go.IntKind.i64 (y1.2.2.2.2.2.1 + (1 : Int))), Unit.unit)))))))))
   else none)
   else none)
   else (some (Sum.inl (y1.1, (y1.2.1, (y1.2.2.1, (y1.2.2.2.1, (y1.2.2.2.2.1, ((Go.IntKind.wrap Go.IntKind.i64 (y1.2.2.2.2.2.1 + (1 : Int))), Unit.unit)))))))))
   else (some (Sum.inl (y1.1, (y1.2.1, (y1.2.2.1, (y1.2.2.2.1, (y1.2.2.2.2.1, ((Go.IntKind.wrap Go.IntKind.i64 (y1.2.2.2.2.2.1 + (1 : Int))), Unit.unit))))))))))) Empty.elim))
   else (some (Sum.inr (Sum.inl (x.1, (x.2.1, (x.2.2.1, (x.2.2.2.1, (x.2.2.2.2.1, Unit.unit)))))))))
   else (some (Sum.inr (Sum.inl (x.1, (x.2.1, (x.2.2.1, (x.2.2.2.1, (x.2.2.2.2.1, Unit.unit)))))))))
theorem b4_2_eq (x : g4_2.D) : b4_2 x = evF P (T3.orc _) Go.Proofs.Try.f4.ntmps fx4 (Code.at [true, true, true, true, true, false, true, false, false, true, false, false, true, true, false, true, false, false] c4) (planAt 64 [([true, false, false, true, false, false], ⟨g4_3, o4_3, l4_3⟩)]) g4_2 x (injK fx4 ((.normal, g4_2) :: o4_2) some) := by kernel_rfl
noncomputable def l4_2 : g4_2.D → Option (outD o4_2) := loopN g4_2 o4_2 b4_2 18446744073709551616
theorem p4_2 : AllSub P Go.Proofs.Try.f4.ntmps fx4 (Code.at [true, true, true, true, true, false, true, false, false, true, false, false, true, true, false, true, false, false] c4) [([true, false, false, true, false, false], ⟨g4_3, o4_3, l4_3⟩)] := And.intro s4_3_ok (trivial)
theorem q4_2 : PlanOk P Go.Proofs.Try.f4.ntmps fx4 (planAt 64 [([true, false, false, true, false, false], ⟨g4_3, o4_3, l4_3⟩)]) (Code.at [true, true, true, true, true, false, true, false, false, true, false, false, true, true, false, true, false, false] c4) := planAt_ok p4_2
theorem at4_2 : Code.at [true, true, true, true, true, false, true, false, false, true, false, false, true, true, false, true, false] c4 = .loop (Code.at [true, true, true, true, true, false, true, false, false, true, false, false, true, true, false, true, false, false] c4) := by kernel_rfl
theorem s4_2_ok : SubOk P Go.Proofs.Try.f4.ntmps fx4 (Code.at [true, true, true, true, true, false, true, false, false, true, false, false, true, true, false, true, false] c4) ⟨g4_2, o4_2, l4_2⟩ := by
  rw [at4_2]
  exact loop_ok (sub_ok (g := g4_2) (outs := ((.normal, g4_2) :: o4_2)) (f := b4_2) (Table.ok T3_ok _) hmix (q4_2) b4_2_eq) rfl _
abbrev g4_1 : Sg := ⟨[0, 3, 5, 6], [.lf (.sl (.int .u8)), .lf (.sl (.pair (.int .i64) (.pair (.int .i64) (.int .i64)))), .lf (.int .i64), .lf (.int .i64)], []⟩
abbrev o4_1 : Outs := [(.exit 0, ⟨[0, 5], [.lf (.sl (.int .u8)), .lf (.int .i64)], []⟩), (.ret, ⟨[2], [.lf .bool], []⟩)]
noncomputable def b4_1 (x : g4_1.D) : Option (outD ((.normal, g4_1) :: o4_1)) :=
  (if ((decide (x.2.2.2.1 < (((List.length x.2.1) : Nat) : Int))) = true) then (if ((0 : Int) ≤ x.2.2.2.1) then (if (x.2.2.2.1 < (((List.length x.2.1) : Nat) : Int)) then (if ((decide ((List.getD x.2.1 (Int.toNat x.2.2.2.1) ((0 : Int), ((0 : Int), (0 : Int)))).2.1 < (0 : Int))) = true) then (some (Sum.inr (Sum.inr (Sum.inl (false, Unit.unit)))))
   else (if ((decide ((List.getD x.2.1 (Int.toNat x.2.2.2.1) ((0 : Int), ((0 : Int), (0 : Int)))).2.1 > (Go.IntKind.wrap Go.IntKind.i64 ((((List.length x.1) : Nat) : Int) - x.2.2.1)))) = true) then (some (Sum.inr (Sum.inr (Sum.inl (false, Unit.unit)))))
   else (if ((0 : Int) ≤ x.2.2.2.1) then (if (x.2.2.2.1 < (((List.length x.2.1) : Nat) : Int)) then (if ((decide ((List.getD x.2.1 (Int.toNat x.2.2.2.1) ((0 : Int), ((0 : Int), (0 : Int)))).2.2 > x.2.2.1)) = true) then (some (Sum.inr (Sum.inr (Sum.inl (false, Unit.unit)))))
   else (if ((decide (x.2.2.1 ≥ (((List.length x.1) : Nat) : Int))) = true) then (some (Sum.inr (Sum.inr (Sum.inl (false, Unit.unit)))))
   else (Option.bind (Go.Ev.Deflate.l4_2 (x.1, (x.2.1, (x.2.2.1, (x.2.2.2.1, ((List.getD x.2.1 (Int.toNat x.2.2.2.1) ((0 : Int), ((0 : Int), (0 : Int)))).2.1, ((1 : Int), Unit.unit))))))) (Sum.elim (fun y1 => (some (Sum.inl (y1.1, (y1.2.1, ((Go.IntKind.wrap Go.IntKind.i64 (y1.2.2.1 + (Max.max y1.2.2.2.2.1 (1 : Int)))), ((Go.IntKind.wrap Go.IntKind.i64 (y1.2.2.2.1 + (1 : Int))), Unit.unit))))))) (Sum.elim (fun y1 => (some (Sum.inr (Sum.inr (Sum.inl (y1.1, Unit.unit)))))) Empty.elim)))))
   else none)
   else none)))
   else none)
   else none)
   else (some (Sum.inr (Sum.inl (x.1, (x.2.2.1, Unit.unit))))))
theorem b4_1_eq (x : g4_1.D) : b4_1 x = evF P (T3.orc _) Go.Proofs.Try.f4.ntmps fx4 (Code.at [true, true, true, true, true, false, true, false, false] c4) (planAt 64 [([true, false, false, true, true, false, true, false], ⟨g4_2, o4_2, l4_2⟩)]) g4_1 x (injK fx4 ((.normal, g4_1) :: o4_1) some) := by kernel_rfl
noncomputable def l4_1 : g4_1.D → Option (outD o4_1) := loopN g4_1 o4_1 b4_1 18446744073709551616
theorem p4_1 : AllSub P Go.Proofs.Try.f4.ntmps fx4 (Code.at [true, true, true, true, true, false, true, false, false] c4) [([true, false, false, true, true, false, true, false], ⟨g4_2, o4_2, l4_2⟩)] := And.intro s4_2_ok (trivial)
theorem q4_1 : PlanOk P Go.Proofs.Try.f4.ntmps fx4 (planAt 64 [([true, false, false, true, true, false, true, false], ⟨g4_2, o4_2, l4_2⟩)]) (Code.at [true, true, true, true, true, false, true, false, false] c4) := planAt_ok p4_1
theorem at4_1 : Code.at [true, true, true, true, true, false, true, false] c4 = .loop (Code.at [true, true, true, true, true, false, true, false, false] c4) := by kernel_rfl
theorem s4_1_ok : SubOk P Go.Proofs.Try.f4.ntmps fx4 (Code.at [true, true, true, true, true, false, true, false] c4) ⟨g4_1, o4_1, l4_1⟩ := by
  rw [at4_1]
  exact loop_ok (sub_ok (g := g4_1) (outs := ((.normal, g4_1) :: o4_1)) (f := b4_1) (Table.ok T3_ok _) hmix (q4_1) b4_1_eq) rfl _
noncomputable def f4 (x : gi4.D) : Option go4.D :=
  (if ((decide ((((List.length x.1) : Nat) : Int) > (300 : Int))) = true) then (some (true, Unit.unit))
   else (Option.bind (Go.Ev.Deflate.f9 (x.1, Unit.unit)) (fun y1 => (if ((y1.1 != (0 : Int)) = true) then (some (false, Unit.unit))
   else (Option.bind (Go.Ev.Deflate.l4_1 (x.1, ((List.take (List.length y1.2.1) (List.drop (0 : Nat) y1.2.1)), ((0 : Int), ((0 : Int), Unit.unit))))) (Sum.elim (fun y2 => (Option.bind (Go.Ev.Deflate.f15 Unit.unit) (fun y3 => (if (y3.1 = true) then (some ((y2.2.1 == (((List.length y2.1) : Nat) : Int)), Unit.unit))
   else (some (false, Unit.unit)))))) (Sum.elim (fun y2 => (some (y2.1, Unit.unit))) Empty.elim)))))))
theorem f4_eq (x : gi4.D) : f4 x = evF P (T3.orc _) Go.Proofs.Try.f4.ntmps fx4 c4 (planAt 64 [([true, true, true, true, true, false, true, false], ⟨g4_1, o4_1, l4_1⟩)]) gi4 x (fnK fx4 [go4]) := by kernel_rfl
theorem pf4 : AllSub P Go.Proofs.Try.f4.ntmps fx4 c4 [([true, true, true, true, true, false, true, false], ⟨g4_1, o4_1, l4_1⟩)] := And.intro s4_1_ok (trivial)
theorem qf4 : PlanOk P Go.Proofs.Try.f4.ntmps fx4 (planAt 64 [([true, true, true, true, true, false, true, false], ⟨g4_1, o4_1, l4_1⟩)]) c4 := planAt_ok pf4
theorem f4_ok : EntOk P 4 ⟨gi4, [go4], f4⟩ :=
  ent_ok (fn := Go.Proofs.Try.f4) (gi := gi4) (gos := [go4]) (f := f4) (c := c4) (fx := fx4) ⟨Go.Proofs.Try.func4, by kernel_rfl, rfl, by decide +kernel, rfl, rfl⟩ (by kernel_rfl) (Table.ok T3_ok _) hmix (qf4) f4_eq
noncomputable def T4 : Table := T3.add 4 [⟨gi4, [go4], f4⟩] []
theorem T4_ok : TableOk P T4 := Table.plus T3_ok (es := [⟨gi4, [go4], f4⟩]) ⟨f4_ok, trivial⟩ []

/-! ## 5: erasure/erasurelaw07.DeflateRun -/
noncomputable def c5 : Code := Func.code Go.Proofs.Try.f5
abbrev gi5 : Sg := ⟨[0, 1], [.lf (.int .u8), .lf (.int .i64)], []⟩
abbrev go5 : Sg := ⟨[4], [.lf .bool], []⟩
def fx5 : List Bool := []
abbrev g5_3 : Sg := ⟨[0, 7, 8, 9, 10, 11], [.lf (.int .u8), .lf (.sl (.pair (.int .i64) (.pair (.int .i64) (.int .i64)))), .lf (.int .i64), .lf (.int .i64), .lf (.int .i64), .lf (.ptr 0 0)], [some (.box true [.lf (.int .i64), .lf (.int .i64), .lf (.int .i64)])]⟩
abbrev o5_3 : Outs := [(.normal, ⟨[0, 7, 8, 9, 10, 11, 82], [.lf (.int .u8), .lf (.sl (.pair (.int .i64) (.pair (.int .i64) (.int .i64)))), .lf (.int .i64), .lf (.int .i64), .lf (.int .i64), .lf (.ptr 0 0), .lf .bool], [some (.box true [.lf (.int .i64), .lf (.int .i64), .lf (.int .i64)])]⟩)]
noncomputable def b5_3 (x : g5_3.D) : Option (outD o5_3) :=
  (if ((decide (x.2.2.2.2.1 > (0 : Int))) = true) then (if ((decide (x.2.2.2.1 ≥ (3 : Int))) = true) then (if ((x.2.2.2.2.2.2.1 != (Min.min x.2.2.2.1 (258 : Int))) = true) then (some (Sum.inl (x.1, (x.2.1, (x.2.2.1, (x.2.2.2.1, (x.2.2.2.2.1, (true, (x.2.2.2.2.2.1, (x.2.2.2.2.2.2.1, (x.2.2.2.2.2.2.2.1, Unit.unit)))))))))))
   else (if ((x.2.2.2.2.2.2.2.1 != (1 : Int)) = true) then (some (Sum.inl (x.1, (x.2.1, (x.2.2.1, (x.2.2.2.1, (x.2.2.2.2.1, (true, (x.2.2.2.2.2.1, (x.2.2.2.2.2.2.1, (x.2.2.2.2.2.2.2.1, Unit.unit)))))))))))
   else (if ((x.2.2.2.2.1 == (0 : Int)) = true) then (if ((x.2.2.2.2.2.2.1 != (0 : Int)) = true) then (some (Sum.inl (x.1, (x.2.1, (x.2.2.1, (x.2.2.2.1, (x.2.2.2.2.1, (true, (x.2.2.2.2.2.1, (x.2.2.2.2.2.2.1, (x.2.2.2.2.2.2.2.1, Unit.unit)))))))))))
   else (some (Sum.inl (x.1, (x.2.1, (x.2.2.1, (x.2.2.2.1, (x.2.2.2.2.1, ((x.2.2.2.2.2.1 != (Go.IntKind.wrap Go.IntKind.i64 x.1)), (x.2.2.2.2.2.1, (x.2.2.2.2.2.2.1, (x.2.2.2.2.2.2.2.1, Unit.unit))))))))))))
   else (if ((decide (x.2.2.2.1 < (3 : Int))) = true) then (if ((x.2.2.2.2.2.2.1 != (0 : Int)) = true) then (some (Sum.inl (x.1, (x.2.1, (x.2.2.1, (x.2.2.2.1, (x.2.2.2.2.1, (true, (x.2.2.2.2.2.1, (x.2.2.2.2.2.2.1, (x.2.2.2.2.2.2.2.1, Unit.unit)))))))))))
   else (some (Sum.inl (x.1, (x.2.1, (x.2.2.1, (x.2.2.2.1, (x.2.2.2.2.1, ((x.2.2.2.2.2.1 != (Go.IntKind.wrap Go.IntKind.i64 x.1)), (x.2.2.2.2.2.1, (x.2.2.2.2.2.2.1, (x.2.2.2.2.2.2.2.1, Unit.unit))))))))))))
   else (some (Sum.inl (x.1, (x.2.1, (x.2.2.1, (x.2.2.2.1, (x.2.2.2.2.1, (false, (x.2.2.2.2.2.1, (x.2.2.2.2.2.2.1, (x.2.2.2.2.2.2.2.1, Unit.unit)))))))))))))))
   else (if ((x.2.2.2.2.1 == (0 : Int)) = true) then (if ((x.2.2.2.2.2.2.1 != (0 : Int)) = true) then (some (Sum.inl (x.1, (x.2.1, (x.2.2.1, (x.2.2.2.1, (x.2.2.2.2.1, (true, (x.2.2.2.2.2.1, (x.2.2.2.2.2.2.1, (x.2.2.2.2.2.2.2.1, Unit.unit)))))))))))
   else (some (Sum.inl (x.1, (x.2.1, (x.2.2.1, (x.2.2.2.1, (x.2.2.2.2.1, ((x.2.2.2.2.2.1 != (Go.IntKind.wrap Go.IntKind.i64 x.1)), (x.2.2.2.2.2.1, (x.2.2.2.2.2.2.1, (x.2.2.2.2.2.2.2.1, Unit.unit))))))))))))
   else (if ((decide (x.2.2.2.1 < (3 : Int))) = true) then (if ((x.2.2.2.2.2.2.1 != (0 : Int)) = true) then (some (Sum.inl (x.1, (x.2.1, (x.2.2.1, (x.2.2.2.1, (x.2.2.2.2.1, (true, (x.2.2.2.2.2.1, (x.2.2.2.2.2.2.1, (x.2.2.2.2.2.2.2.1, Unit.unit)))))))))))
   else (some (Sum.inl (x.1, (x.2.1, (x.2.2.1, (x.2.2.2.1, (x.2.2.2.2.1, ((x.2.2.2.2.2.1 != (Go.IntKind.wrap Go.IntKind.i64 x.1)), (x.2.2.2.2.2.1, (x.2.2.2.2.2.2.1, (x.2.2.2.2.2.2.2.1, Unit.unit))))))))))))
   else (some (Sum.inl (x.1, (x.2.1, (x.2.2.1, (x.2.2.2.1, (x.2.2.2.2.1, (false, (x.2.2.2.2.2.1, (x.2.2.2.2.2.2.1, (x.2.2.2.2.2.2.2.1, Unit.unit))))))))))))))
   else (if ((x.2.2.2.2.1 == (0 : Int)) = true) then (if ((x.2.2.2.2.2.2.1 != (0 : Int)) = true) then (some (Sum.inl (x.1, (x.2.1, (x.2.2.1, (x.2.2.2.1, (x.2.2.2.2.1, (true, (x.2.2.2.2.2.1, (x.2.2.2.2.2.2.1, (x.2.2.2.2.2.2.2.1, Unit.unit)))))))))))
   else (some (Sum.inl (x.1, (x.2.1, (x.2.2.1, (x.2.2.2.1, (x.2.2.2.2.1, ((x.2.2.2.2.2.1 != (Go.IntKind.wrap Go.IntKind.i64 x.1)), (x.2.2.2.2.2.1, (x.2.2.2.2.2.2.1, (x.2.2.2.2.2.2.2.1, Unit.unit))))))))))))
   else (if ((decide (x.2.2.2.1 < (3 : Int))) = true) then (if ((x.2.2.2.2.2.2.1 != (0 : Int)) = true) then (some (Sum.inl (x.1, (x.2.1, (x.2.2.1, (x.2.2.2.1, (x.2.2.2.2.1, (true, (x.2.2.2.2.2.1, (x.2.2.2.2.2.2.1, (x.2.2.2.2.2.2.2.1, Unit.unit)))))))))))
   else (some (Sum.inl (x.1, (x.2.1, (x.2.2.1, (x.2.2.2.1, (x.2.2.2.2.1, ((x.2.2.2.2.2.1 != (Go.IntKind.wrap Go.IntKind.i64 x.1)), (x.2.2.2.2.2.1, (x.2.2.2.2.2.2.1, (x.2.2.2.2.2.2.2.1, Unit.unit))))))))))))
   else (some (Sum.inl (x.1, (x.2.1, (x.2.2.1, (x.2.2.2.1, (x.2.2.2.2.1, (false, (x.2.2.2.2.2.1, (x.2.2.2.2.2.2.1, (x.2.2.2.2.2.2.2.1, Unit.unit))))))))))))))
theorem b5_3_eq (x : g5_3.D) : b5_3 x = evF P (T4.orc _) Go.Proofs.Try.f5.ntmps fx5 (Code.at [true, true, true, true, true, true, false, true, false, false, true, false, false, true, false, false] c5) (planAt 64 []) g5_3 x (injK fx5 o5_3 some) := by kernel_rfl
theorem s5_3_ok : SubOk P Go.Proofs.Try.f5.ntmps fx5 (Code.at [true, true, true, true, true, true, false, true, false, false, true, false, false, true, false, false] c5) ⟨g5_3, o5_3, b5_3⟩ :=
  sub_ok (g := g5_3) (outs := o5_3) (f := b5_3) (Table.ok T4_ok _) hmix (planAt_ok (P := P) (n := Go.Proofs.Try.f5.ntmps) (fx := fx5) (c := (Code.at [true, true, true, true, true, true, false, true, false, false, true, false, false, true, false, false] c5)) (d := 64) (l := []) trivial) b5_3_eq
abbrev g5_2 : Sg := ⟨[0, 7, 8, 9, 10], [.lf (.int .u8), .lf (.sl (.pair (.int .i64) (.pair (.int .i64) (.int .i64)))), .lf (.int .i64), .lf (.int .i64), .lf (.int .i64)], []⟩
abbrev o5_2 : Outs := [(.exit 2, ⟨[8, 9], [.lf (.int .i64), .lf (.int .i64)], []⟩), (.ret, ⟨[4], [.lf .bool], []⟩)]
noncomputable def b5_2 (x : g5_2.D) : Option (outD ((.normal, g5_2) :: o5_2)) :=
  (if ((decide (x.2.2.2.2.1 < (((List.length x.2.1) : Nat) : Int))) = true) then (if ((0 : Int) ≤ x.2.2.2.2.1) then (if (x.2.2.2.2.1 < (((List.length x.2.1) : Nat) : Int)) then (Option.bind (Go.Ev.Deflate.b5_3 (x.1, (x.2.1, (x.2.2.1, (x.2.2.2.1, (x.2.2.2.2.1, ((List.getD x.2.1 (Int.toNat x.2.2.2.2.1) ((0 : Int), ((0 : Int), (0 : Int)))).1, ((List.getD x.2.1 (Int.toNat x.2.2.2.2.1) ((0 : Int), ((0 : Int), (0 : Int)))).2.1, ((List.getD x.2.1 (Int.toNat x.2.2.2.2.1) ((0 : Int), ((0 : Int), (0 : Int)))).2.2, Unit.unit))))))))) (Sum.elim (fun y1 => (if (y1.2.2.2.2.2.1 = true) then (some (Sum.inr (Sum.inr (Sum.inl (false, Unit.unit)))))
   else (some (Sum.inl (y1.1, (y1.2.1, (y1.2.2.1, ((Go.IntKind.wrap Go.IntKind.i64 (y1.2.2.2.1 - (Max.max y1.2.2.2.2.2.2.2.1 (1 : Int)))), ((Go.IntKind.wrap Go.IntKind.i64 (y1.2.2.2.2.1 + (1 : Int))), Unit.unit))))))))) Empty.elim))
   else none)
   else none)
   else (some (Sum.inr (Sum.inl (x.2.2.1, (x.2.2.2.1, Unit.unit))))))
theorem b5_2_eq (x : g5_2.D) : b5_2 x = evF P (T4.orc _) Go.Proofs.Try.f5.ntmps fx5 (Code.at [true, true, true, true, true, true, false, true, false, false] c5) (planAt 64 [([true, false, false, true, false, false], ⟨g5_3, o5_3, b5_3⟩)]) g5_2 x (injK fx5 ((.normal, g5_2) :: o5_2) some) := by kernel_rfl
noncomputable def l5_2 : g5_2.D → Option (outD o5_2) := loopN g5_2 o5_2 b5_2 18446744073709551616
theorem p5_2 : AllSub P Go.Proofs.Try.f5.ntmps fx5 (Code.at [true, true, true, true, true, true, false, true, false, false] c5) [([true, false, false, true, false, false], ⟨g5_3, o5_3, b5_3⟩)] := And.intro s5_3_ok (trivial)
theorem q5_2 : PlanOk P Go.Proofs.Try.f5.ntmps fx5 (planAt 64 [([true, false, false, true, false, false], ⟨g5_3, o5_3, b5_3⟩)]) (Code.at [true, true, true, true, true, true, false, true, false, false] c5) := planAt_ok p5_2
theorem at5_2 : Code.at [true, true, true, true, true, true, false, true, false] c5 = .loop (Code.at [true, true, true, true, true, true, false, true, false, false] c5) := by kernel_rfl
theorem s5_2_ok : SubOk P Go.Proofs.Try.f5.ntmps fx5 (Code.at [true, true, true, true, true, true, false, true, false] c5) ⟨g5_2, o5_2, l5_2⟩ := by
  rw [at5_2]
  exact loop_ok (sub_ok (g := g5_2) (outs := ((.normal, g5_2) :: o5_2)) (f := b5_2) (Table.ok T4_ok _) hmix (q5_2) b5_2_eq) rfl _
abbrev g5_1 : Sg := ⟨[0, 1, 5, 6], [.lf (.int .u8), .lf (.int .i64), .lf (.gr (.int .u8) 0), .lf (.int .i64)], [some (.arr true (.int .u8))]⟩
abbrev o5_1 : Outs := [(.exit 0, ⟨[0, 1, 5], [.lf (.int .u8), .lf (.int .i64), .lf (.gr (.int .u8) 0)], [some (.arr true (.int .u8))]⟩)]
noncomputable def b5_1 (x : g5_1.D) : Option (outD ((.normal, g5_1) :: o5_1)) :=
  (if ((decide (x.2.2.1 < x.2.1)) = true) then (if ((0 : Int) ≤ x.2.2.1) then (if (x.2.2.1 < (((List.length x.2.2.2.1) : Nat) : Int)) then (if ((List.length x.2.2.2.1) = (List.length (List.set x.2.2.2.1 ((0 : Nat) + (Int.toNat x.2.2.1)) x.1))) then (some (Sum.inl (x.1, (x.2.1, ((Go.IntKind.wrap Go.IntKind.i64 (x.2.2.1 + (1 : Int))), ((List.set x.2.2.2.1 ((0 : Nat) + (Int.toNat x.2.2.1)) x.1), Unit.unit))))))
   else none)
   else none)
   else none)
   else (if ((List.length x.2.2.2.1) = (List.length x.2.2.2.1)) then (some (Sum.inr (Sum.inl (x.1, (x.2.1, (x.2.2.2.1, Unit.unit))))))
   else none))
theorem b5_1_eq (x : g5_1.D) : b5_1 x = evF P (T4.orc _) Go.Proofs.Try.f5.ntmps fx5 (Code.at [true, true, true, false, true, false, false] c5) (planAt 64 []) g5_1 x (injK fx5 ((.normal, g5_1) :: o5_1) some) := by kernel_rfl
noncomputable def l5_1 : g5_1.D → Option (outD o5_1) := loopN g5_1 o5_1 b5_1 18446744073709551616
theorem at5_1 : Code.at [true, true, true, false, true, false] c5 = .loop (Code.at [true, true, true, false, true, false, false] c5) := by kernel_rfl
theorem s5_1_ok : SubOk P Go.Proofs.Try.f5.ntmps fx5 (Code.at [true, true, true, false, true, false] c5) ⟨g5_1, o5_1, l5_1⟩ := by
  rw [at5_1]
  exact loop_ok (sub_ok (g := g5_1) (outs := ((.normal, g5_1) :: o5_1)) (f := b5_1) (Table.ok T4_ok _) hmix (planAt_ok (P := P) (n := Go.Proofs.Try.f5.ntmps) (fx := fx5) (c := (Code.at [true, true, true, false, true, false, false] c5)) (d := 64) (l := []) trivial) b5_1_eq) rfl _
noncomputable def f5 (x : gi5.D) : Option go5.D :=
  (if ((decide (x.2.1 < (0 : Int))) = true) then (some (true, Unit.unit))
   else (if ((decide (x.2.1 > (2000 : Int))) = true) then (some (true, Unit.unit))
   else (if ((0 : Int) ≤ x.2.1) then (if (x.2.1 ≤ x.2.1) then (if (x.2.1 ≤ (281474976710656 : Int)) then (if ((Int.toNat x.2.1) = (List.length (List.replicate (Int.toNat x.2.1) (0 : Int)))) then (Option.bind (Go.Ev.Deflate.l5_1 (x.1, (x.2.1, ((0 : Int), ((List.replicate (Int.toNat x.2.1) (0 : Int)), Unit.unit))))) (Sum.elim (fun y1 => (Option.bind (Go.Ev.Deflate.f9 ((List.take (List.length y1.2.2.1) (List.drop (0 : Nat) y1.2.2.1)), Unit.unit)) (fun y2 => (Option.bind (Go.Ev.Deflate.l5_2 (y1.1, ((List.take (List.length y2.2.1) (List.drop (0 : Nat) y2.2.1)), (y2.1, (y1.2.1, ((0 : Int), Unit.unit)))))) (Sum.elim (fun y3 => (Option.bind (Go.Ev.Deflate.f15 Unit.unit) (fun y4 => (if (y4.1 = true) then (if ((y3.1 == (0 : Int)) = true) then (some ((y3.2.1 == (0 : Int)), Unit.unit))
   else (some (false, Unit.unit)))
   else (some (false, Unit.unit)))))) (Sum.elim (fun y3 => (some (y3.1, Unit.unit))) Empty.elim)))))) Empty.elim))
   else none)
   else none)
   else none)
   else none)))
theorem f5_eq (x : gi5.D) : f5 x = evF P (T4.orc _) Go.Proofs.Try.f5.ntmps fx5 c5 (planAt 64 [([true, true, true, false, true, false], ⟨g5_1, o5_1, l5_1⟩), ([true, true, true, true, true, true, false, true, false], ⟨g5_2, o5_2, l5_2⟩)]) gi5 x (fnK fx5 [go5]) := by kernel_rfl
theorem pf5 : AllSub P Go.Proofs.Try.f5.ntmps fx5 c5 [([true, true, true, false, true, false], ⟨g5_1, o5_1, l5_1⟩), ([true, true, true, true, true, true, false, true, false], ⟨g5_2, o5_2, l5_2⟩)] := And.intro s5_1_ok (And.intro s5_2_ok (trivial))
theorem qf5 : PlanOk P Go.Proofs.Try.f5.ntmps fx5 (planAt 64 [([true, true, true, false, true, false], ⟨g5_1, o5_1, l5_1⟩), ([true, true, true, true, true, true, false, true, false], ⟨g5_2, o5_2, l5_2⟩)]) c5 := planAt_ok pf5
theorem f5_ok : EntOk P 5 ⟨gi5, [go5], f5⟩ :=
  ent_ok (fn := Go.Proofs.Try.f5) (gi := gi5) (gos := [go5]) (f := f5) (c := c5) (fx := fx5) ⟨Go.Proofs.Try.func5, by kernel_rfl, rfl, by decide +kernel, rfl, rfl⟩ (by kernel_rfl) (Table.ok T4_ok _) hmix (qf5) f5_eq
noncomputable def T5 : Table := T4.add 5 [⟨gi5, [go5], f5⟩] []
theorem T5_ok : TableOk P T5 := Table.plus T4_ok (es := [⟨gi5, [go5], f5⟩]) ⟨f5_ok, trivial⟩ []

/-! ## 17: erasure/inflate.Expand -/
noncomputable def c17 : Code := Func.code Go.Proofs.Try.f17
abbrev gi17 : Sg := ⟨[0, 1], [.lf (.sl (.pair (.int .i64) (.pair (.int .i64) (.int .i64)))), .lf (.int .i64)], []⟩
abbrev go17 : Sg := ⟨[4, 5], [.lf (.sl (.int .u8)), .lf (.int .i64)], []⟩
def fx17 : List Bool := []
abbrev g17_2 : Sg := ⟨[1, 6, 8, 19, 20, 21, 51, 52], [.lf (.int .i64), .lf (.gr (.int .u8) 0), .lf (.ptr 1 0), .lf (.sl (.pair (.int .i64) (.pair (.int .i64) (.int .i64)))), .lf (.int .i64), .lf (.int .i64), .lf (.int .i64), .lf (.int .i64)], [some (.arr true (.int .u8)), some (.box true [.lf (.int .i64), .lf (.int .i64), .lf (.int .i64)])]⟩
abbrev o17_2 : Outs := [(.exit 3, ⟨[1, 6, 19, 20, 21], [.lf (.int .i64), .lf (.gr (.int .u8) 0), .lf (.sl (.pair (.int .i64) (.pair (.int .i64) (.int .i64)))), .lf (.int .i64), .lf (.int .i64)], [some (.arr true (.int .u8))]⟩)]
noncomputable def b17_2 (x : g17_2.D) : Option (outD ((.normal, g17_2) :: o17_2)) :=
  (if ((decide (x.2.2.2.2.2.1 < x.2.2.2.2.1)) = true) then (if ((0 : Int) ≤ (Go.IntKind.wrap Go.IntKind.i64 ((((List.length x.2.2.2.2.2.2.1) : Nat) : Int) - x.2.2.2.2.2.2.2.2.2.1))) then (if ((Go.IntKind.wrap Go.IntKind.i64 ((((List.length x.2.2.2.2.2.2.1) : Nat) : Int) - x.2.2.2.2.2.2.2.2.2.1)) < (((List.length x.2.2.2.2.2.2.1) : Nat) : Int)) then (if (((List.length (List.take (List.length x.2.2.2.2.2.2.1) (List.drop (0 : Nat) x.2.2.2.2.2.2.1))) + (List.length (List.take (1 : Nat) (List.drop (0 : Nat) (List.set (List.replicate (1 : Nat) (0 : Int)) (0 : Nat) (List.getD x.2.2.2.2.2.2.1 ((0 : Nat) + (Int.toNat (Go.IntKind.wrap Go.IntKind.i64 ((((List.length x.2.2.2.2.2.2.1) : Nat) : Int) - x.2.2.2.2.2.2.2.2.2.1)))) (0 : Int))))))) ≤ (140737488355328 : Nat)) then (if ((List.length ((List.take (List.length x.2.2.2.2.2.2.1) (List.drop (0 : Nat) x.2.2.2.2.2.2.1)) ++ (List.take (1 : Nat) (List.drop (0 : Nat) (List.set (List.replicate (1 : Nat) (0 : Int)) (0 : Nat) (List.getD x.2.2.2.2.2.2.1 ((0 : Nat) + (Int.toNat (Go.IntKind.wrap Go.IntKind.i64 ((((List.length x.2.2.2.2.2.2.1) : Nat) : Int) - x.2.2.2.2.2.2.2.2.2.1)))) (0 : Int))))))) = (List.length ((List.take (List.length x.2.2.2.2.2.2.1) (List.drop (0 : Nat) x.2.2.2.2.2.2.1)) ++ (List.take (1 : Nat) (List.drop (0 : Nat) (List.set (List.replicate (1 : Nat) (0 : Int)) (0 : Nat) (List.getD x.2.2.2.2.2.2.1 ((0 : Nat) + (Int.toNat (Go.IntKind.wrap Go.IntKind.i64 ((((List.length x.2.2.2.2.2.2.1) : Nat) : Int) - x.2.2.2.2.2.2.2.2.2.1)))) (0 : Int)))))))) then (some (Sum.inl (x.1, (x.2.1, (x.2.2.1, (x.2.2.2.1, (x.2.2.2.2.1, ((Go.IntKind.wrap Go.IntKind.i64 (x.2.2.2.2.2.1 + (1 : Int))), (((List.take (List.length x.2.2.2.2.2.2.1) (List.drop (0 : Nat) x.2.2.2.2.2.2.1)) ++ (List.take (1 : Nat) (List.drop (0 : Nat) (List.set (List.replicate (1 : Nat) (0 : Int)) (0 : Nat) (List.getD x.2.2.2.2.2.2.1 ((0 : Nat) + (Int.toNat (Go.IntKind.wrap Go.IntKind.i64 ((((List.length x.2.2.2.2.2.2.1) : Nat) : Int) - x.2.2.2.2.2.2.2.2.2.1)))) (0 : Int)))))), (x.2.2.2.2.2.2.2.1, (x.2.2.2.2.2.2.2.2.1, (x.2.2.2.2.2.2.2.2.2.1, Unit.unit))))))))))))
   else none)
   else none)
   else none)
   else none)
   else (if ((List.length x.2.2.2.2.2.2.1) = (List.length x.2.2.2.2.2.2.1)) then (some (Sum.inr (Sum.inl (x.1, (x.2.1, (x.2.2.1, (x.2.2.2.1, (x.2.2.2.2.2.2.1, Unit.unit))))))))
   else none))
theorem b17_2_eq (x : g17_2.D) : b17_2 x = evF P (T5.orc _) Go.Proofs.Try.f17.ntmps fx17 (Code.at [true, true, true, false, true, false, false, true, true, false, false, true, true, true, false, false] c17) (planAt 64 []) g17_2 x (injK fx17 ((.normal, g17_2) :: o17_2) some) := by kernel_rfl
noncomputable def l17_2 : g17_2.D → Option (outD o17_2) := loopN g17_2 o17_2 b17_2 18446744073709551616
theorem at17_2 : Code.at [true, true, true, false, true, false, false, true, true, false, false, true, true, true, false] c17 = .loop (Code.at [true, true, true, false, true, false, false, true, true, false, false, true, true, true, false, false] c17) := by kernel_rfl
theorem s17_2_ok : SubOk P Go.Proofs.Try.f17.ntmps fx17 (Code.at [true, true, true, false, true, false, false, true, true, false, false, true, true, true, false] c17) ⟨g17_2, o17_2, l17_2⟩ := by
  rw [at17_2]
  exact loop_ok (sub_ok (g := g17_2) (outs := ((.normal, g17_2) :: o17_2)) (f := b17_2) (Table.ok T5_ok _) hmix (planAt_ok (P := P) (n := Go.Proofs.Try.f17.ntmps) (fx := fx17) (c := (Code.at [true, true, true, false, true, false, false, true, true, false, false, true, true, true, false, false] c17)) (d := 64) (l := []) trivial) b17_2_eq) rfl _
abbrev g17_1 : Sg := ⟨[1, 6, 19, 20, 21], [.lf (.int .i64), .lf (.gr (.int .u8) 0), .lf (.sl (.pair (.int .i64) (.pair (.int .i64) (.int .i64)))), .lf (.int .i64), .lf (.int .i64)], [some (.arr true (.int .u8))]⟩
abbrev o17_1 : Outs := [(.exit 0, ⟨[6], [.lf (.gr (.int .u8) 0)], [some (.arr true (.int .u8))]⟩), (.ret, ⟨[4, 5], [.lf (.sl (.int .u8)), .lf (.int .i64)], []⟩)]
noncomputable def b17_1 (x : g17_1.D) : Option (outD ((.normal, g17_1) :: o17_1)) :=
  (if ((decide (x.2.2.2.1 < x.2.2.1)) = true) then (if ((0 : Int) ≤ x.2.2.2.1) then (if (x.2.2.2.1 < (((List.length x.2.1) : Nat) : Int)) then (if ((decide ((List.getD x.2.1 (Int.toNat x.2.2.2.1) ((0 : Int), ((0 : Int), (0 : Int)))).2.2 > (((List.length x.2.2.2.2.1) : Nat) : Int))) = true) then (some (Sum.inr (Sum.inr (Sum.inl ([], ((4 : Int), Unit.unit))))))
   else (if ((decide ((Go.IntKind.wrap Go.IntKind.i64 ((((List.length x.2.2.2.2.1) : Nat) : Int) + (Max.max (List.getD x.2.1 (Int.toNat x.2.2.2.1) ((0 : Int), ((0 : Int), (0 : Int)))).2.1 (1 : Int)))) > x.1)) = true) then (some (Sum.inr (Sum.inr (Sum.inl ([], ((2 : Int), Unit.unit))))))
   else (if (((List.getD x.2.1 (Int.toNat x.2.2.2.1) ((0 : Int), ((0 : Int), (0 : Int)))).2.1 == (0 : Int)) = true) then (if (((List.length (List.take (List.length x.2.2.2.2.1) (List.drop (0 : Nat) x.2.2.2.2.1))) + (List.length (List.take (1 : Nat) (List.drop (0 : Nat) (List.set (List.replicate (1 : Nat) (0 : Int)) (0 : Nat) (Go.IntKind.wrap Go.IntKind.u8 (List.getD x.2.1 (Int.toNat x.2.2.2.1) ((0 : Int), ((0 : Int), (0 : Int)))).1)))))) ≤ (140737488355328 : Nat)) then (if ((List.length ((List.take (List.length x.2.2.2.2.1) (List.drop (0 : Nat) x.2.2.2.2.1)) ++ (List.take (1 : Nat) (List.drop (0 : Nat) (List.set (List.replicate (1 : Nat) (0 : Int)) (0 : Nat) (Go.IntKind.wrap Go.IntKind.u8 (List.getD x.2.1 (Int.toNat x.2.2.2.1) ((0 : Int), ((0 : Int), (0 : Int)))).1)))))) = (List.length ((List.take (List.length x.2.2.2.2.1) (List.drop (0 : Nat) x.2.2.2.2.1)) ++ (List.take (1 : Nat) (List.drop (0 : Nat) (List.set (List.replicate (1 : Nat) (0 : Int)) (0 : Nat) (Go.IntKind.wrap Go.IntKind.u8 (List.getD x.2.1 (Int.toNat x.2.2.2.1) ((0 : Int), ((0 : Int), (0 : Int)))).1))))))) then (Option.bind (Go.Ev.Deflate.l17_2 (x.1, (x.2.1, (x.2.2.1, (x.2.2.2.1, ((List.getD x.2.1 (Int.toNat x.2.2.2.1) ((0 : Int), ((0 : Int), (0 : Int)))).2.1, ((0 : Int), (((List.take (List.length x.2.2.2.2.1) (List.drop (0 : Nat) x.2.2.2.2.1)) ++ (List.take (1 : Nat) (List.drop (0 : Nat) (List.set (List.replicate (1 : Nat) (0 : Int)) (0 : Nat) (Go.IntKind.wrap Go.IntKind.u8 (List.getD x.2.1 (Int.toNat x.2.2.2.1) ((0 : Int), ((0 : Int), (0 : Int)))).1))))), ((List.getD x.2.1 (Int.toNat x.2.2.2.1) ((0 : Int), ((0 : Int), (0 : Int)))).1, ((List.getD x.2.1 (Int.toNat x.2.2.2.1) ((0 : Int), ((0 : Int), (0 : Int)))).2.1, ((List.getD x.2.1 (Int.toNat x.2.2.2.1) ((0 : Int), ((0 : Int), (0 : Int)))).2.2, Unit.unit))))))))))) (Sum.elim (fun y1 => (if ((List.length y1.2.2.2.2.1) = (List.length y1.2.2.2.2.1)) then (some (Sum.inl (y1.1, (y1.2.1, (y1.2.2.1, ((Go.IntKind.wrap Go.IntKind.i64 (y1.2.2.2.1 + (1 : Int))), (y1.2.2.2.2.1, Unit.unit)))))))
   else none)) Empty.elim))
   else none)
   else none)
   else (if ((List.length x.2.2.2.2.1) = (List.length x.2.2.2.2.1)) then (Option.bind (Go.Ev.Deflate.l17_2 (x.1, (x.2.1, (x.2.2.1, (x.2.2.2.1, ((List.getD x.2.1 (Int.toNat x.2.2.2.1) ((0 : Int), ((0 : Int), (0 : Int)))).2.1, ((0 : Int), (x.2.2.2.2.1, ((List.getD x.2.1 (Int.toNat x.2.2.2.1) ((0 : Int), ((0 : Int), (0 : Int)))).1, ((List.getD x.2.1 (Int.toNat x.2.2.2.1) ((0 : Int), ((0 : Int), (0 : Int)))).2.1, ((List.getD x.2.1 (Int.toNat x.2.2.2.1) ((0 : Int), ((0 : Int), (0 : Int)))).2.2, Unit.unit))))))))))) (Sum.elim (fun y1 => (if ((List.length y1.2.2.2.2.1) = (List.length y1.2.2.2.2.1)) then (some (Sum.inl (y1.1, (y1.2.1, (y1.2.2.1, ((Go.IntKind.wrap Go.IntKind.i64 (y1.2.2.2.1 + (1 : Int))), (y1.2.2.2.2.1, Unit.unit)))))))
   else none)) Empty.elim))
   else none))))
   else none)
   else none)
   else (if ((List.length x.2.2.2.2.1) = (List.length x.2.2.2.2.1)) then (some (Sum.inr (Sum.inl (x.2.2.2.2.1, Unit.unit))))
   else none))
theorem b17_1_eq (x : g17_1.D) : b17_1 x = evF P (T5.orc _) Go.Proofs.Try.f17.ntmps fx17 (Code.at [true, true, true, false, true, false, false] c17) (planAt 64 [([true, true, false, false, true, true, true, false], ⟨g17_2, o17_2, l17_2⟩)]) g17_1 x (injK fx17 ((.normal, g17_1) :: o17_1) some) := by kernel_rfl
noncomputable def l17_1 : g17_1.D → Option (outD o17_1) := loopN g17_1 o17_1 b17_1 18446744073709551616
theorem p17_1 : AllSub P Go.Proofs.Try.f17.ntmps fx17 (Code.at [true, true, true, false, true, false, false] c17) [([true, true, false, false, true, true, true, false], ⟨g17_2, o17_2, l17_2⟩)] := And.intro s17_2_ok (trivial)
theorem q17_1 : PlanOk P Go.Proofs.Try.f17.ntmps fx17 (planAt 64 [([true, true, false, false, true, true, true, false], ⟨g17_2, o17_2, l17_2⟩)]) (Code.at [true, true, true, false, true, false, false] c17) := planAt_ok p17_1
theorem at17_1 : Code.at [true, true, true, false, true, false] c17 = .loop (Code.at [true, true, true, false, true, false, false] c17) := by kernel_rfl
theorem s17_1_ok : SubOk P Go.Proofs.Try.f17.ntmps fx17 (Code.at [true, true, true, false, true, false] c17) ⟨g17_1, o17_1, l17_1⟩ := by
  rw [at17_1]
  exact loop_ok (sub_ok (g := g17_1) (outs := ((.normal, g17_1) :: o17_1)) (f := b17_1) (Table.ok T5_ok _) hmix (q17_1) b17_1_eq) rfl _
noncomputable def f17 (x : gi17.D) : Option go17.D :=
  (if ((decide (x.2.1 < (0 : Int))) = true) then (some ([], ((1 : Int), Unit.unit)))
   else (if ((decide (x.2.1 > (1048576 : Int))) = true) then (some ([], ((1 : Int), Unit.unit)))
   else (Option.bind (Go.Ev.Deflate.f22_b (x.1, Unit.unit)) (fun y1 => (if (y1.1 = true) then (some ([], ((1 : Int), Unit.unit)))
   else (Option.bind (Go.Ev.Deflate.l17_1 (x.2.1, (x.1, ((((List.length x.1) : Nat) : Int), ((0 : Int), ([], Unit.unit)))))) (Sum.elim (fun y2 => (some ((List.take (List.length y2.1) (List.drop (0 : Nat) y2.1)), ((0 : Int), Unit.unit)))) (Sum.elim (fun y2 => (some (y2.1, (y2.2.1, Unit.unit)))) Empty.elim))))))))
theorem f17_eq (x : gi17.D) : f17 x = evF P (T5.orc _) Go.Proofs.Try.f17.ntmps fx17 c17 (planAt 64 [([true, true, true, false, true, false], ⟨g17_1, o17_1, l17_1⟩)]) gi17 x (fnK fx17 [go17]) := by kernel_rfl
theorem pf17 : AllSub P Go.Proofs.Try.f17.ntmps fx17 c17 [([true, true, true, false, true, false], ⟨g17_1, o17_1, l17_1⟩)] := And.intro s17_1_ok (trivial)
theorem qf17 : PlanOk P Go.Proofs.Try.f17.ntmps fx17 (planAt 64 [([true, true, true, false, true, false], ⟨g17_1, o17_1, l17_1⟩)]) c17 := planAt_ok pf17
theorem f17_ok : EntOk P 17 ⟨gi17, [go17], f17⟩ :=
  ent_ok (fn := Go.Proofs.Try.f17) (gi := gi17) (gos := [go17]) (f := f17) (c := c17) (fx := fx17) ⟨Go.Proofs.Try.func17, by kernel_rfl, rfl, by decide +kernel, rfl, rfl⟩ (by kernel_rfl) (Table.ok T5_ok _) hmix (qf17) f17_eq
noncomputable def T17 : Table := T5.add 17 [⟨gi17, [go17], f17⟩] []
theorem T17_ok : TableOk P T17 := Table.plus T5_ok (es := [⟨gi17, [go17], f17⟩]) ⟨f17_ok, trivial⟩ []

/-! ## 44: erasure/bits.NewReader -/
noncomputable def c44 : Code := Func.code Go.Proofs.Try.f44
abbrev gi44 : Sg := ⟨[0], [.lf (.sl (.int .u8))], []⟩
abbrev go44 : Sg := ⟨[2], [.lf (.ptr 0 0)], [some (.box true [.lf (.sl (.int .u8)), .lf (.int .i64), .lf (.int .i64), .lf (.int .i64)])]⟩
def fx44 : List Bool := []
noncomputable def f44 (x : gi44.D) : Option go44.D :=
  (Option.bind (Go.Ev.Deflate.f55 (x.1, Unit.unit)) (fun y1 => (some ((List.take (List.length y1.1) (List.drop (0 : Nat) y1.1)), ((0 : Int), ((0 : Int), ((0 : Int), Unit.unit)))))))
theorem f44_eq (x : gi44.D) : f44 x = evF P (T17.orc _) Go.Proofs.Try.f44.ntmps fx44 c44 (planAt 64 []) gi44 x (fnK fx44 [go44]) := by kernel_rfl
theorem f44_ok : EntOk P 44 ⟨gi44, [go44], f44⟩ :=
  ent_ok (fn := Go.Proofs.Try.f44) (gi := gi44) (gos := [go44]) (f := f44) (c := c44) (fx := fx44) ⟨Go.Proofs.Try.func44, by kernel_rfl, rfl, by decide +kernel, rfl, rfl⟩ (by kernel_rfl) (Table.ok T17_ok _) hmix (planAt_ok (P := P) (n := Go.Proofs.Try.f44.ntmps) (fx := fx44) (c := c44) (d := 64) (l := []) trivial) f44_eq
noncomputable def T44 : Table := T17.add 44 [⟨gi44, [go44], f44⟩] []
theorem T44_ok : TableOk P T44 := Table.plus T17_ok (es := [⟨gi44, [go44], f44⟩]) ⟨f44_ok, trivial⟩ []

/-! ## 49: (*erasure/bits.Reader).Left -/
noncomputable def c49 : Code := Func.code Go.Proofs.Try.f49
abbrev gi49 : Sg := ⟨[0], [.lf (.ptr 0 0)], [some (.box true [.lf (.sl (.int .u8)), .lf (.int .i64), .lf (.int .i64), .lf (.int .i64)])]⟩
abbrev go49 : Sg := ⟨[2], [.lf (.int .i64)], [some (.box true [.lf (.sl (.int .u8)), .lf (.int .i64), .lf (.int .i64), .lf (.int .i64)])]⟩
def fx49 : List Bool := [true]
noncomputable def f49 (x : gi49.D) : Option go49.D :=
  (some ((Go.IntKind.wrap Go.IntKind.i64 ((Go.IntKind.wrap Go.IntKind.i64 ((8 : Int) * (Go.IntKind.wrap Go.IntKind.i64 ((((List.length x.1) : Nat) : Int) - x.2.1)))) + x.2.2.2.1)), (x.1, (x.2.1, (x.2.2.1, (x.2.2.2.1, Unit.unit))))))
theorem f49_eq (x : gi49.D) : f49 x = evF P (T44.orc _) Go.Proofs.Try.f49.ntmps fx49 c49 (planAt 64 []) gi49 x (fnK fx49 [go49]) := by kernel_rfl
theorem f49_ok : EntOk P 49 ⟨gi49, [go49], f49⟩ :=
  ent_ok (fn := Go.Proofs.Try.f49) (gi := gi49) (gos := [go49]) (f := f49) (c := c49) (fx := fx49) ⟨Go.Proofs.Try.func49, by kernel_rfl, rfl, by decide +kernel, rfl, rfl⟩ (by kernel_rfl) (Table.ok T44_ok _) hmix (planAt_ok (P := P) (n := Go.Proofs.Try.f49.ntmps) (fx := fx49) (c := c49) (d := 64) (l := []) trivial) f49_eq
noncomputable def T49 : Table := T44.add 49 [⟨gi49, [go49], f49⟩] []
theorem T49_ok : TableOk P T49 := Table.plus T44_ok (es := [⟨gi49, [go49], f49⟩]) ⟨f49_ok, trivial⟩ []

/-! ## 92: (*erasure/bits.Reader).next -/
noncomputable def c92 : Code := Func.code Go.Proofs.Try.f92
abbrev gi92 : Sg := ⟨[0], [.lf (.ptr 0 0)], [some (.box true [.lf (.sl (.int .u8)), .lf (.int .i64), .lf (.int .i64), .lf (.int .i64)])]⟩
abbrev go92 : Sg := ⟨[2], [.lf (.int .u8)], [some (.box true [.lf (.sl (.int .u8)), .lf (.int .i64), .lf (.int .i64), .lf (.int .i64)])]⟩
def fx92 : List Bool := [true]
noncomputable def f92 (x : gi92.D) : Option go92.D :=
  (if ((0 : Int) ≤ x.2.1) then (if (x.2.1 < (((List.length x.1) : Nat) : Int)) then (some ((List.getD x.1 (Int.toNat x.2.1) (0 : Int)), (x.1, ((Go.IntKind.wrap Go.IntKind.i64 (x.2.1 + (1 : Int))), (x.2.2.1, (x.2.2.2.1, Unit.unit))))))
   else none)
   else none)
theorem f92_eq (x : gi92.D) : f92 x = evF P (T49.orc _) Go.Proofs.Try.f92.ntmps fx92 c92 (planAt 64 []) gi92 x (fnK fx92 [go92]) := by kernel_rfl
theorem f92_ok : EntOk P 92 ⟨gi92, [go92], f92⟩ :=
  ent_ok (fn := Go.Proofs.Try.f92) (gi := gi92) (gos := [go92]) (f := f92) (c := c92) (fx := fx92) ⟨Go.Proofs.Try.func92, by kernel_rfl, rfl, by decide +kernel, rfl, rfl⟩ (by kernel_rfl) (Table.ok T49_ok _) hmix (planAt_ok (P := P) (n := Go.Proofs.Try.f92.ntmps) (fx := fx92) (c := c92) (d := 64) (l := []) trivial) f92_eq
noncomputable def T92 : Table := T49.add 92 [⟨gi92, [go92], f92⟩] []
theorem T92_ok : TableOk P T92 := Table.plus T49_ok (es := [⟨gi92, [go92], f92⟩]) ⟨f92_ok, trivial⟩ []

/-! ## 61: (*erasure/bits.Reader).Bits -/
noncomputable def c61 : Code := Func.code Go.Proofs.Try.f61
abbrev gi61 : Sg := ⟨[0, 1], [.lf (.ptr 0 0), .lf (.int .i64)], [some (.box true [.lf (.sl (.int .u8)), .lf (.int .i64), .lf (.int .i64), .lf (.int .i64)])]⟩
abbrev go61 : Sg := ⟨[4, 5], [.lf (.int .i64), .lf (.int .i64)], [some (.box true [.lf (.sl (.int .u8)), .lf (.int .i64), .lf (.int .i64), .lf (.int .i64)])]⟩
def fx61 : List Bool := [true]
abbrev g61_1 : Sg := ⟨[0, 1, 6], [.lf (.ptr 0 0), .lf (.int .i64), .lf (.ifc 70 (.ptr 0 0))], [some (.box true [.lf (.sl (.int .u8)), .lf (.int .i64), .lf (.int .i64), .lf (.int .i64)])]⟩
abbrev o61_1 : Outs := [(.exit 1, ⟨[0, 1], [.lf (.ptr 0 0), .lf (.int .i64)], [some (.box true [.lf (.sl (.int .u8)), .lf (.int .i64), .lf (.int .i64), .lf (.int .i64)])]⟩)]
noncomputable def b61_1 (x : g61_1.D) : Option (outD ((.normal, g61_1) :: o61_1)) :=
  (if ((decide (x.2.2.2.2.1 < x.1)) = true) then (Option.bind (Go.Ev.Deflate.f92 (x.2.1, (x.2.2.1, (x.2.2.2.1, (x.2.2.2.2.1, Unit.unit))))) (fun y1 => (if (y1.2.2.2.2.1 < (0 : Int)) then none
   else (if ((decide (x.2.2.2.1 = y1.2.2.2.1)) = true) then (if ((decide (x.2.2.2.2.1 = y1.2.2.2.2.1)) = true) then (some (Sum.inl (x.1, (y1.2.1, (y1.2.2.1, ((Go.IntKind.wrap Go.IntKind.i64 (((BitVec.toNat ((BitVec.ofInt (64 : Nat) x.2.2.2.1) ||| (BitVec.ofInt (64 : Nat) (Go.IntKind.wrap Go.IntKind.i64 ((Go.IntKind.wrap Go.IntKind.i64 y1.1) * ((2 : Int) ^ (Min.min (Int.toNat y1.2.2.2.2.1) (64 : Nat)))))))) : Nat) : Int)), ((Go.IntKind.wrap Go.IntKind.i64 (y1.2.2.2.2.1 + (8 : Int))), Unit.unit)))))))
   else none)
   else none))))
   else (some (Sum.inr (Sum.inl (x.1, (x.2.1, (x.2.2.1, (x.2.2.2.1, (x.2.2.2.2.1, Unit.unit)))))))))
theorem b61_1_eq (x : g61_1.D) : b61_1 x = evF P (T92.orc _) Go.Proofs.Try.f61.ntmps fx61 (Code.at [true, true, true, false, false, false] c61) (planAt 64 []) g61_1 x (injK fx61 ((.normal, g61_1) :: o61_1) some) := by kernel_rfl
noncomputable def l61_1 : g61_1.D → Option (outD o61_1) := loopN g61_1 o61_1 b61_1 18446744073709551616
theorem at61_1 : Code.at [true, true, true, false, false] c61 = .loop (Code.at [true, true, true, false, false, false] c61) := by kernel_rfl
theorem s61_1_ok : SubOk P Go.Proofs.Try.f61.ntmps fx61 (Code.at [true, true, true, false, false] c61) ⟨g61_1, o61_1, l61_1⟩ := by
  rw [at61_1]
  exact loop_ok (sub_ok (g := g61_1) (outs := ((.normal, g61_1) :: o61_1)) (f := b61_1) (Table.ok T92_ok _) hmix (planAt_ok (P := P) (n := Go.Proofs.Try.f61.ntmps) (fx := fx61) (c := (Code.at [true, true, true, false, false, false] c61)) (d := 64) (l := []) trivial) b61_1_eq) rfl _
noncomputable def f61 (x : gi61.D) : Option go61.D :=
  (if ((decide (x.1 < (0 : Int))) = true) then (some ((0 : Int), ((1 : Int), (x.2.1, (x.2.2.1, (x.2.2.2.1, (x.2.2.2.2.1, Unit.unit)))))))
   else (if ((decide (x.1 > (24 : Int))) = true) then (some ((0 : Int), ((1 : Int), (x.2.1, (x.2.2.1, (x.2.2.2.1, (x.2.2.2.2.1, Unit.unit)))))))
   else (Option.bind (Go.Ev.Deflate.f49 (x.2.1, (x.2.2.1, (x.2.2.2.1, (x.2.2.2.2.1, Unit.unit))))) (fun y1 => (if ((decide (x.1 > y1.1)) = true) then (some ((0 : Int), ((6 : Int), (y1.2.1, (y1.2.2.1, (y1.2.2.2.1, (y1.2.2.2.2.1, Unit.unit)))))))
   else (Option.bind (Go.Ev.Deflate.l61_1 (x.1, (y1.2.1, (y1.2.2.1, (y1.2.2.2.1, (y1.2.2.2.2.1, Unit.unit)))))) (Sum.elim (fun y2 => (if (y2.1 < (0 : Int)) then none
   else (if (y2.1 < (0 : Int)) then none
   else (some ((Go.IntKind.wrap Go.IntKind.i64 (((BitVec.toNat ((BitVec.ofInt (64 : Nat) y2.2.2.2.1) &&& (BitVec.ofInt (64 : Nat) (Go.IntKind.wrap Go.IntKind.i64 ((Go.IntKind.wrap Go.IntKind.i64 ((1 : Int) * ((2 : Int) ^ (Min.min (Int.toNat y2.1) (64 : Nat))))) - (1 : Int)))))) : Nat) : Int)), ((0 : Int), (y2.2.1, (y2.2.2.1, ((Int.fdiv y2.2.2.2.1 ((2 : Int) ^ (Min.min (Int.toNat y2.1) (64 : Nat)))), ((Go.IntKind.wrap Go.IntKind.i64 (y2.2.2.2.2.1 - y2.1)), Unit.unit)))))))))) Empty.elim)))))))
theorem f61_eq (x : gi61.D) : f61 x = evF P (T92.orc _) Go.Proofs.Try.f61.ntmps fx61 c61 (planAt 64 [([true, true, true, false, false], ⟨g61_1, o61_1, l61_1⟩)]) gi61 x (fnK fx61 [go61]) := by kernel_rfl
theorem pf61 : AllSub P Go.Proofs.Try.f61.ntmps fx61 c61 [([true, true, true, false, false], ⟨g61_1, o61_1, l61_1⟩)] := And.intro s61_1_ok (trivial)
theorem qf61 : PlanOk P Go.Proofs.Try.f61.ntmps fx61 (planAt 64 [([true, true, true, false, false], ⟨g61_1, o61_1, l61_1⟩)]) c61 := planAt_ok pf61
theorem f61_ok : EntOk P 61 ⟨gi61, [go61], f61⟩ :=
  ent_ok (fn := Go.Proofs.Try.f61) (gi := gi61) (gos := [go61]) (f := f61) (c := c61) (fx := fx61) ⟨Go.Proofs.Try.func61, by kernel_rfl, rfl, by decide +kernel, rfl, rfl⟩ (by kernel_rfl) (Table.ok T92_ok _) hmix (qf61) f61_eq
noncomputable def T61 : Table := T92.add 61 [⟨gi61, [go61], f61⟩] []
theorem T61_ok : TableOk P T61 := Table.plus T92_ok (es := [⟨gi61, [go61], f61⟩]) ⟨f61_ok, trivial⟩ []

/-! ## 45: (*erasure/inflate.work).numbers -/
noncomputable def c45 : Code := Func.code Go.Proofs.Try.f45
abbrev gi45 : Sg := ⟨[0, 1], [.lf (.ptr 0 0), .lf (.sl (.int .i64))], [some (.box true [.lf (.ptr 1 0), .lf (.gr (.pair (.int .i64) (.pair (.int .i64) (.int .i64))) 2), .lf (.int .i64), .lf (.int .i64)]), some (.box true [.lf (.sl (.int .u8)), .lf (.int .i64), .lf (.int .i64), .lf (.int .i64)]), some (.arr true (.pair (.int .i64) (.pair (.int .i64) (.int .i64))))]⟩
abbrev go45 : Sg := ⟨[4, 5], [.lf (.sl (.int .i64)), .lf (.int .i64)], [some (.box true [.lf (.ptr 1 0), .lf (.gr (.pair (.int .i64) (.pair (.int .i64) (.int .i64))) 2), .lf (.int .i64), .lf (.int .i64)]), some (.box true [.lf (.sl (.int .u8)), .lf (.int .i64), .lf (.int .i64), .lf (.int .i64)]), some (.arr true (.pair (.int .i64) (.pair (.int .i64) (.int .i64))))]⟩
def fx45 : List Bool := [true, true, true]
abbrev g45_1 : Sg := ⟨[0, 6, 11, 12, 13], [.lf (.ptr 0 0), .lf (.gr (.int .i64) 3), .lf (.sl (.int .i64)), .lf (.int .i64), .lf (.int .i64)], [some (.box true [.lf (.ptr 1 0), .lf (.gr (.pair (.int .i64) (.pair (.int .i64) (.int .i64))) 2), .lf (.int .i64), .lf (.int .i64)]), some (.box true [.lf (.sl (.int .u8)), .lf (.int .i64), .lf (.int .i64), .lf (.int .i64)]), some (.arr true (.pair (.int .i64) (.pair (.int .i64) (.int .i64)))), some (.arr true (.int .i64))]⟩
abbrev o45_1 : Outs := [(.exit 0, ⟨[6], [.lf (.gr (.int .i64) 3)], [some (.box true [.lf (.ptr 1 0), .lf (.gr (.pair (.int .i64) (.pair (.int .i64) (.int .i64))) 2), .lf (.int .i64), .lf (.int .i64)]), some (.box true [.lf (.sl (.int .u8)), .lf (.int .i64), .lf (.int .i64), .lf (.int .i64)]), some (.arr true (.pair (.int .i64) (.pair (.int .i64) (.int .i64)))), some (.arr true (.int .i64))]⟩), (.ret, ⟨[4, 5], [.lf (.sl (.int .i64)), .lf (.int .i64)], [some (.box true [.lf (.ptr 1 0), .lf (.gr (.pair (.int .i64) (.pair (.int .i64) (.int .i64))) 2), .lf (.int .i64), .lf (.int .i64)]), some (.box true [.lf (.sl (.int .u8)), .lf (.int .i64), .lf (.int .i64), .lf (.int .i64)]), some (.arr true (.pair (.int .i64) (.pair (.int .i64) (.int .i64))))]⟩)]
noncomputable def b45_1 (x : g45_1.D) : Option (outD ((.normal, g45_1) :: o45_1)) :=
  (if ((decide (x.2.2.1 < x.2.1)) = true) then (if ((0 : Int) ≤ x.2.2.1) then (if (x.2.2.1 < (((List.length x.1) : Nat) : Int)) then (Option.bind (Go.Ev.Deflate.f61 ((List.getD x.1 (Int.toNat x.2.2.1) (0 : Int)), (x.2.2.2.2.2.1, (x.2.2.2.2.2.2.1, (x.2.2.2.2.2.2.2.1, (x.2.2.2.2.2.2.2.2.1, Unit.unit)))))) (fun y1 => (if ((y1.2.1 != (0 : Int)) = true) then (if ((List.length x.2.2.2.2.2.2.2.2.2.1) = (List.length x.2.2.2.2.2.2.2.2.2.1)) then (some (Sum.inr (Sum.inr (Sum.inl ([], (y1.2.1, (x.2.2.2.1, (x.2.2.2.2.1, (y1.2.2.1, (y1.2.2.2.1, (y1.2.2.2.2.1, (y1.2.2.2.2.2.1, (x.2.2.2.2.2.2.2.2.2.1, Unit.unit)))))))))))))
   else none)
   else (if (((List.length (List.take (List.length x.2.2.2.2.2.2.2.2.2.2.1) (List.drop (0 : Nat) x.2.2.2.2.2.2.2.2.2.2.1))) + (List.length (List.take (1 : Nat) (List.drop (0 : Nat) (List.set (List.replicate (1 : Nat) (0 : Int)) (0 : Nat) y1.1))))) ≤ (17592186044416 : Nat)) then (if ((List.length ((List.take (List.length x.2.2.2.2.2.2.2.2.2.2.1) (List.drop (0 : Nat) x.2.2.2.2.2.2.2.2.2.2.1)) ++ (List.take (1 : Nat) (List.drop (0 : Nat) (List.set (List.replicate (1 : Nat) (0 : Int)) (0 : Nat) y1.1))))) = (List.length ((List.take (List.length x.2.2.2.2.2.2.2.2.2.2.1) (List.drop (0 : Nat) x.2.2.2.2.2.2.2.2.2.2.1)) ++ (List.take (1 : Nat) (List.drop (0 : Nat) (List.set (List.replicate (1 : Nat) (0 : Int)) (0 : Nat) y1.1)))))) then (if ((List.length x.2.2.2.2.2.2.2.2.2.1) = (List.length x.2.2.2.2.2.2.2.2.2.1)) then (some (Sum.inl (x.1, (x.2.1, ((Go.IntKind.wrap Go.IntKind.i64 (x.2.2.1 + (1 : Int))), (x.2.2.2.1, (x.2.2.2.2.1, (y1.2.2.1, (y1.2.2.2.1, (y1.2.2.2.2.1, (y1.2.2.2.2.2.1, (x.2.2.2.2.2.2.2.2.2.1, (((List.take (List.length x.2.2.2.2.2.2.2.2.2.2.1) (List.drop (0 : Nat) x.2.2.2.2.2.2.2.2.2.2.1)) ++ (List.take (1 : Nat) (List.drop (0 : Nat) (List.set (List.replicate (1 : Nat) (0 : Int)) (0 : Nat) y1.1)))), Unit.unit)))))))))))))
   else none)
   else none)
   else none))))
   else none)
   else none)
   else (if ((List.length x.2.2.2.2.2.2.2.2.2.2.1) = (List.length x.2.2.2.2.2.2.2.2.2.2.1)) then (if ((List.length x.2.2.2.2.2.2.2.2.2.1) = (List.length x.2.2.2.2.2.2.2.2.2.1)) then (some (Sum.inr (Sum.inl (x.2.2.2.1, (x.2.2.2.2.1, (x.2.2.2.2.2.1, (x.2.2.2.2.2.2.1, (x.2.2.2.2.2.2.2.1, (x.2.2.2.2.2.2.2.2.1, (x.2.2.2.2.2.2.2.2.2.1, (x.2.2.2.2.2.2.2.2.2.2.1, Unit.unit)))))))))))
   else none)
   else none))
theorem b45_1_eq (x : g45_1.D) : b45_1 x = evF P (T61.orc _) Go.Proofs.Try.f45.ntmps fx45 (Code.at [true, true, false, true, false, false] c45) (planAt 64 []) g45_1 x (injK fx45 ((.normal, g45_1) :: o45_1) some) := by kernel_rfl
noncomputable def l45_1 : g45_1.D → Option (outD o45_1) := loopN g45_1 o45_1 b45_1 18446744073709551616
theorem at45_1 : Code.at [true, true, false, true, false] c45 = .loop (Code.at [true, true, false, true, false, false] c45) := by kernel_rfl
theorem s45_1_ok : SubOk P Go.Proofs.Try.f45.ntmps fx45 (Code.at [true, true, false, true, false] c45) ⟨g45_1, o45_1, l45_1⟩ := by
  rw [at45_1]
  exact loop_ok (sub_ok (g := g45_1) (outs := ((.normal, g45_1) :: o45_1)) (f := b45_1) (Table.ok T61_ok _) hmix (planAt_ok (P := P) (n := Go.Proofs.Try.f45.ntmps) (fx := fx45) (c := (Code.at [true, true, false, true, false, false] c45)) (d := 64) (l := []) trivial) b45_1_eq) rfl _
noncomputable def f45 (x : gi45.D) : Option go45.D :=
  (if ((List.length x.2.2.2.2.2.2.2.1) = (List.length x.2.2.2.2.2.2.2.1)) then (Option.bind (Go.Ev.Deflate.l45_1 (x.1, ((((List.length x.1) : Nat) : Int), ((0 : Int), (x.2.1, (x.2.2.1, (x.2.2.2.1, (x.2.2.2.2.1, (x.2.2.2.2.2.1, (x.2.2.2.2.2.2.1, (x.2.2.2.2.2.2.2.1, ([], Unit.unit)))))))))))) (Sum.elim (fun y1 => (if ((List.length y1.2.2.2.2.2.2.1) = (List.length y1.2.2.2.2.2.2.1)) then (some ((List.take (List.length y1.2.2.2.2.2.2.2.1) (List.drop (0 : Nat) y1.2.2.2.2.2.2.2.1)), ((0 : Int), (y1.1, (y1.2.1, (y1.2.2.1, (y1.2.2.2.1, (y1.2.2.2.2.1, (y1.2.2.2.2.2.1, (y1.2.2.2.2.2.2.1, Unit.unit))))))))))
   else none)) (Sum.elim (fun y1 => (if ((List.length y1.2.2.2.2.2.2.2.2.1) = (List.length y1.2.2.2.2.2.2.2.2.1)) then (some (y1.1, (y1.2.1, (y1.2.2.1, (y1.2.2.2.1, (y1.2.2.2.2.1, (y1.2.2.2.2.2.1, (y1.2.2.2.2.2.2.1, (y1.2.2.2.2.2.2.2.1, (y1.2.2.2.2.2.2.2.2.1, Unit.unit))))))))))
   else none)) Empty.elim)))
   else none)
theorem f45_eq (x : gi45.D) : f45 x = evF P (T61.orc _) Go.Proofs.Try.f45.ntmps fx45 c45 (planAt 64 [([true, true, false, true, false], ⟨g45_1, o45_1, l45_1⟩)]) gi45 x (fnK fx45 [go45]) := by kernel_rfl
theorem pf45 : AllSub P Go.Proofs.Try.f45.ntmps fx45 c45 [([true, true, false, true, false], ⟨g45_1, o45_1, l45_1⟩)] := And.intro s45_1_ok (trivial)
theorem qf45 : PlanOk P Go.Proofs.Try.f45.ntmps fx45 (planAt 64 [([true, true, false, true, false], ⟨g45_1, o45_1, l45_1⟩)]) c45 := planAt_ok pf45
theorem f45_ok : EntOk P 45 ⟨gi45, [go45], f45⟩ :=
  ent_ok (fn := Go.Proofs.Try.f45) (gi := gi45) (gos := [go45]) (f := f45) (c := c45) (fx := fx45) ⟨Go.Proofs.Try.func45, by kernel_rfl, rfl, by decide +kernel, rfl, rfl⟩ (by kernel_rfl) (Table.ok T61_ok _) hmix (qf45) f45_eq
noncomputable def T45 : Table := T61.add 45 [⟨gi45, [go45], f45⟩] []
theorem T45_ok : TableOk P T45 := Table.plus T61_ok (es := [⟨gi45, [go45], f45⟩]) ⟨f45_ok, trivial⟩ []

/-! ## 62: (*erasure/bits.Reader).Align -/
noncomputable def c62 : Code := Func.code Go.Proofs.Try.f62
abbrev gi62 : Sg := ⟨[0], [.lf (.ptr 0 0)], [some (.box true [.lf (.sl (.int .u8)), .lf (.int .i64), .lf (.int .i64), .lf (.int .i64)])]⟩
abbrev go62 : Sg := ⟨[2], [.lf (.int .i64)], [some (.box true [.lf (.sl (.int .u8)), .lf (.int .i64), .lf (.int .i64), .lf (.int .i64)])]⟩
def fx62 : List Bool := [true]
noncomputable def f62 (x : gi62.D) : Option go62.D :=
  (some ((0 : Int), (x.1, ((Go.IntKind.wrap Go.IntKind.i64 (x.2.1 - (Go.IntKind.wrap Go.IntKind.i64 (Int.tdiv x.2.2.2.1 (8 : Int))))), ((0 : Int), ((0 : Int), Unit.unit))))))
theorem f62_eq (x : gi62.D) : f62 x = evF P (T45.orc _) Go.Proofs.Try.f62.ntmps fx62 c62 (planAt 64 []) gi62 x (fnK fx62 [go62]) := by kernel_rfl
theorem f62_ok : EntOk P 62 ⟨gi62, [go62], f62⟩ :=
  ent_ok (fn := Go.Proofs.Try.f62) (gi := gi62) (gos := [go62]) (f := f62) (c := c62) (fx := fx62) ⟨Go.Proofs.Try.func62, by kernel_rfl, rfl, by decide +kernel, rfl, rfl⟩ (by kernel_rfl) (Table.ok T45_ok _) hmix (planAt_ok (P := P) (n := Go.Proofs.Try.f62.ntmps) (fx := fx62) (c := c62) (d := 64) (l := []) trivial) f62_eq
noncomputable def T62 : Table := T45.add 62 [⟨gi62, [go62], f62⟩] []
theorem T62_ok : TableOk P T62 := Table.plus T45_ok (es := [⟨gi62, [go62], f62⟩]) ⟨f62_ok, trivial⟩ []

/-! ## 63: (*erasure/bits.Reader).Bytes -/
noncomputable def c63 : Code := Func.code Go.Proofs.Try.f63
abbrev gi63 : Sg := ⟨[0, 1], [.lf (.ptr 0 0), .lf (.int .i64)], [some (.box true [.lf (.sl (.int .u8)), .lf (.int .i64), .lf (.int .i64), .lf (.int .i64)])]⟩
abbrev go63 : Sg := ⟨[4, 5], [.lf (.gr (.int .u8) 1), .lf (.int .i64)], [some (.box true [.lf (.sl (.int .u8)), .lf (.int .i64), .lf (.int .i64), .lf (.int .i64)]), some (.arr true (.int .u8))]⟩
def fx63 : List Bool := [true]
noncomputable def f63 (x : gi63.D) : Option go63.D :=
  (if ((decide (x.1 < (0 : Int))) = true) then (some ((1 : Int), (x.2.1, (x.2.2.1, (x.2.2.2.1, (x.2.2.2.2.1, ([], Unit.unit)))))))
   else (Option.bind (Go.Ev.Deflate.f62 (x.2.1, (x.2.2.1, (x.2.2.2.1, (x.2.2.2.2.1, Unit.unit))))) (fun y1 => (if ((decide (x.1 > (Go.IntKind.wrap Go.IntKind.i64 ((((List.length y1.2.1) : Nat) : Int) - y1.2.2.1)))) = true) then (some ((6 : Int), (y1.2.1, (y1.2.2.1, (y1.2.2.2.1, (y1.2.2.2.2.1, ([], Unit.unit)))))))
   else (if ((0 : Int) ≤ (Go.IntKind.wrap Go.IntKind.i64 (y1.2.2.1 + x.1))) then (if ((Go.IntKind.wrap Go.IntKind.i64 (y1.2.2.1 + x.1)) ≤ (((List.length y1.2.1) : Nat) : Int)) then (if ((0 : Int) ≤ (Go.IntKind.wrap Go.IntKind.i64 ((Go.IntKind.wrap Go.IntKind.i64 (y1.2.2.1 + x.1)) - x.1))) then (if ((Go.IntKind.wrap Go.IntKind.i64 ((Go.IntKind.wrap Go.IntKind.i64 (y1.2.2.1 + x.1)) - x.1)) ≤ (((Int.toNat (Go.IntKind.wrap Go.IntKind.i64 (y1.2.2.1 + x.1))) : Nat) : Int)) then (Option.bind (Go.Ev.Deflate.f55 ((List.drop (Int.toNat (Go.IntKind.wrap Go.IntKind.i64 ((Go.IntKind.wrap Go.IntKind.i64 (y1.2.2.1 + x.1)) - x.1))) (List.take (Int.toNat (Go.IntKind.wrap Go.IntKind.i64 (y1.2.2.1 + x.1))) y1.2.1)), Unit.unit)) (fun y2 => (if ((List.length y2.1) = (List.length y2.1)) then (some ((0 : Int), (y1.2.1, ((Go.IntKind.wrap Go.IntKind.i64 (y1.2.2.1 + x.1)), (y1.2.2.2.1, (y1.2.2.2.2.1, (y2.1, Unit.unit)))))))
   else none)))
   else none)
   else none)
   else none)
   else none)))))
theorem f63_eq (x : gi63.D) : f63 x = evF P (T62.orc _) Go.Proofs.Try.f63.ntmps fx63 c63 (planAt 64 []) gi63 x (fnK fx63 [go63]) := by kernel_rfl
theorem f63_ok : EntOk P 63 ⟨gi63, [go63], f63⟩ :=
  ent_ok (fn := Go.Proofs.Try.f63) (gi := gi63) (gos := [go63]) (f := f63) (c := c63) (fx := fx63) ⟨Go.Proofs.Try.func63, by kernel_rfl, rfl, by decide +kernel, rfl, rfl⟩ (by kernel_rfl) (Table.ok T62_ok _) hmix (planAt_ok (P := P) (n := Go.Proofs.Try.f63.ntmps) (fx := fx63) (c := c63) (d := 64) (l := []) trivial) f63_eq
noncomputable def T63 : Table := T62.add 63 [⟨gi63, [go63], f63⟩] []
theorem T63_ok : TableOk P T63 := Table.plus T62_ok (es := [⟨gi63, [go63], f63⟩]) ⟨f63_ok, trivial⟩ []

/-! ## 64: (*erasure/inflate.work).add -/
noncomputable def c64 : Code := Func.code Go.Proofs.Try.f64
abbrev gi64 : Sg := ⟨[0, 1], [.lf (.ptr 0 0), .agg [.lf (.int .i64), .lf (.int .i64), .lf (.int .i64)]], [some (.box true [.lf (.ptr 1 0), .lf (.gr (.pair (.int .i64) (.pair (.int .i64) (.int .i64))) 2), .lf (.int .i64), .lf (.int .i64)]), some (.box true [.lf (.sl (.int .u8)), .lf (.int .i64), .lf (.int .i64), .lf (.int .i64)]), some (.arr true (.pair (.int .i64) (.pair (.int .i64) (.int .i64))))]⟩
abbrev go64 : Sg := ⟨[4], [.lf (.int .i64)], [some (.box true [.lf (.ptr 1 0), .lf (.gr (.pair (.int .i64) (.pair (.int .i64) (.int .i64))) 3), .lf (.int .i64), .lf (.int .i64)]), some (.box true [.lf (.sl (.int .u8)), .lf (.int .i64), .lf (.int .i64), .lf (.int .i64)]), none, some (.arr true (.pair (.int .i64) (.pair (.int .i64) (.int .i64))))]⟩
def fx64 : List Bool := [true, true, false]
noncomputable def f64 (x : gi64.D) : Option go64.D :=
  (if ((decide (x.2.2.1 > x.2.2.2.1)) = true) then (if ((List.length x.2.2.2.2.2.2.2.2.2.1) = (List.length x.2.2.2.2.2.2.2.2.2.1)) then (some ((4 : Int), (x.2.2.2.1, (x.2.2.2.2.1, (x.2.2.2.2.2.1, (x.2.2.2.2.2.2.1, (x.2.2.2.2.2.2.2.1, (x.2.2.2.2.2.2.2.2.1, (x.2.2.2.2.2.2.2.2.2.1, Unit.unit)))))))))
   else none)
   else (if ((decide ((Go.IntKind.wrap Go.IntKind.i64 (x.2.2.2.1 + (Max.max x.2.1 (1 : Int)))) > x.2.2.2.2.1)) = true) then (if ((List.length x.2.2.2.2.2.2.2.2.2.1) = (List.length x.2.2.2.2.2.2.2.2.2.1)) then (some ((2 : Int), (x.2.2.2.1, (x.2.2.2.2.1, (x.2.2.2.2.2.1, (x.2.2.2.2.2.2.1, (x.2.2.2.2.2.2.2.1, (x.2.2.2.2.2.2.2.2.1, (x.2.2.2.2.2.2.2.2.2.1, Unit.unit)))))))))
   else none)
   else (if (((List.length (List.take (List.length x.2.2.2.2.2.2.2.2.2.1) (List.drop (0 : Nat) x.2.2.2.2.2.2.2.2.2.1))) + (List.length (List.take (1 : Nat) (List.drop (0 : Nat) (List.set (List.replicate (1 : Nat) ((0 : Int), ((0 : Int), (0 : Int)))) (0 : Nat) (x.1, (x.2.1, x.2.2.1))))))) ≤ (5864062014805 : Nat)) then (if ((List.length ((List.take (List.length x.2.2.2.2.2.2.2.2.2.1) (List.drop (0 : Nat) x.2.2.2.2.2.2.2.2.2.1)) ++ (List.take (1 : Nat) (List.drop (0 : Nat) (List.set (List.replicate (1 : Nat) ((0 : Int), ((0 : Int), (0 : Int)))) (0 : Nat) (x.1, (x.2.1, x.2.2.1))))))) = (List.length ((List.take (List.length x.2.2.2.2.2.2.2.2.2.1) (List.drop (0 : Nat) x.2.2.2.2.2.2.2.2.2.1)) ++ (List.take (1 : Nat) (List.drop (0 : Nat) (List.set (List.replicate (1 : Nat) ((0 : Int), ((0 : Int), (0 : Int)))) (0 : Nat) (x.1, (x.2.1, x.2.2.1)))))))) then (some ((0 : Int), ((Go.IntKind.wrap Go.IntKind.i64 (x.2.2.2.1 + (Max.max x.2.1 (1 : Int)))), (x.2.2.2.2.1, (x.2.2.2.2.2.1, (x.2.2.2.2.2.2.1, (x.2.2.2.2.2.2.2.1, (x.2.2.2.2.2.2.2.2.1, (((List.take (List.length x.2.2.2.2.2.2.2.2.2.1) (List.drop (0 : Nat) x.2.2.2.2.2.2.2.2.2.1)) ++ (List.take (1 : Nat) (List.drop (0 : Nat) (List.set (List.replicate (1 : Nat) ((0 : Int), ((0 : Int), (0 : Int)))) (0 : Nat) (x.1, (x.2.1, x.2.2.1)))))), Unit.unit)))))))))
   else none)
   else none)))
theorem f64_eq (x : gi64.D) : f64 x = evF P (T63.orc _) Go.Proofs.Try.f64.ntmps fx64 c64 (planAt 64 []) gi64 x (fnK fx64 [go64]) := by kernel_rfl
theorem f64_ok : EntOk P 64 ⟨gi64, [go64], f64⟩ :=
  ent_ok (fn := Go.Proofs.Try.f64) (gi := gi64) (gos := [go64]) (f := f64) (c := c64) (fx := fx64) ⟨Go.Proofs.Try.func64, by kernel_rfl, rfl, by decide +kernel, rfl, rfl⟩ (by kernel_rfl) (Table.ok T63_ok _) hmix (planAt_ok (P := P) (n := Go.Proofs.Try.f64.ntmps) (fx := fx64) (c := c64) (d := 64) (l := []) trivial) f64_eq
noncomputable def T64 : Table := T63.add 64 [⟨gi64, [go64], f64⟩] []
theorem T64_ok : TableOk P T64 := Table.plus T63_ok (es := [⟨gi64, [go64], f64⟩]) ⟨f64_ok, trivial⟩ []

/-! ## 46: (*erasure/inflate.work).stored -/
noncomputable def c46 : Code := Func.code Go.Proofs.Try.f46
abbrev gi46 : Sg := ⟨[0], [.lf (.ptr 0 0)], [some (.box true [.lf (.ptr 1 0), .lf (.gr (.pair (.int .i64) (.pair (.int .i64) (.int .i64))) 2), .lf (.int .i64), .lf (.int .i64)]), some (.box true [.lf (.sl (.int .u8)), .lf (.int .i64), .lf (.int .i64), .lf (.int .i64)]), some (.arr true (.pair (.int .i64) (.pair (.int .i64) (.int .i64))))]⟩
abbrev go46 : Sg := ⟨[2], [.lf (.int .i64)], [some (.box true [.lf (.ptr 1 0), .lf (.gr (.pair (.int .i64) (.pair (.int .i64) (.int .i64))) 3), .lf (.int .i64), .lf (.int .i64)]), some (.box true [.lf (.sl (.int .u8)), .lf (.int .i64), .lf (.int .i64), .lf (.int .i64)]), none, some (.arr true (.pair (.int .i64) (.pair (.int .i64) (.int .i64))))]⟩
def fx46 : List Bool := [true, true, false]
abbrev g46_1 : Sg := ⟨[0, 60, 61, 62], [.lf (.ptr 0 0), .lf (.sl (.int .u8)), .lf (.int .i64), .lf (.int .i64)], [some (.box true [.lf (.ptr 1 0), .lf (.gr (.pair (.int .i64) (.pair (.int .i64) (.int .i64))) 3), .lf (.int .i64), .lf (.int .i64)]), some (.box true [.lf (.sl (.int .u8)), .lf (.int .i64), .lf (.int .i64), .lf (.int .i64)]), none, some (.arr true (.pair (.int .i64) (.pair (.int .i64) (.int .i64))))]⟩
abbrev o46_1 : Outs := [(.exit 2, ⟨[], [], [some (.box true [.lf (.ptr 1 0), .lf (.gr (.pair (.int .i64) (.pair (.int .i64) (.int .i64))) 3), .lf (.int .i64), .lf (.int .i64)]), some (.box true [.lf (.sl (.int .u8)), .lf (.int .i64), .lf (.int .i64), .lf (.int .i64)]), none, some (.arr true (.pair (.int .i64) (.pair (.int .i64) (.int .i64))))]⟩)]
noncomputable def b46_1 (x : g46_1.D) : Option (outD ((.normal, g46_1) :: o46_1)) :=
  (if ((decide (x.2.2.1 < x.2.1)) = true) then (if ((0 : Int) ≤ x.2.2.1) then (if (x.2.2.1 < (((List.length x.1) : Nat) : Int)) then (if ((List.length x.2.2.2.2.2.2.2.2.2.1) = (List.length x.2.2.2.2.2.2.2.2.2.1)) then (Option.bind (Go.Ev.Deflate.f64 ((Go.IntKind.wrap Go.IntKind.i64 (List.getD x.1 (Int.toNat x.2.2.1) (0 : Int))), ((0 : Int), ((0 : Int), (x.2.2.2.1, (x.2.2.2.2.1, (x.2.2.2.2.2.1, (x.2.2.2.2.2.2.1, (x.2.2.2.2.2.2.2.1, (x.2.2.2.2.2.2.2.2.1, (x.2.2.2.2.2.2.2.2.2.1, Unit.unit))))))))))) (fun y1 => (if ((List.length y1.2.2.2.2.2.2.2.1) = (List.length y1.2.2.2.2.2.2.2.1)) then (some (Sum.inl (x.1, (x.2.1, ((Go.IntKind.wrap Go.IntKind.i64 (x.2.2.1 + (1 : Int))), (y1.2.1, (y1.2.2.1, (y1.2.2.2.1, (y1.2.2.2.2.1, (y1.2.2.2.2.2.1, (y1.2.2.2.2.2.2.1, (y1.2.2.2.2.2.2.2.1, Unit.unit))))))))))))
   else none)))
   else none)
   else none)
   else none)
   else (if ((List.length x.2.2.2.2.2.2.2.2.2.1) = (List.length x.2.2.2.2.2.2.2.2.2.1)) then (some (Sum.inr (Sum.inl (x.2.2.2.1, (x.2.2.2.2.1, (x.2.2.2.2.2.1, (x.2.2.2.2.2.2.1, (x.2.2.2.2.2.2.2.1, (x.2.2.2.2.2.2.2.2.1, (x.2.2.2.2.2.2.2.2.2.1, Unit.unit))))))))))
   else none))
theorem b46_1_eq (x : g46_1.D) : b46_1 x = evF P (T64.orc _) Go.Proofs.Try.f46.ntmps fx46 (Code.at [true, true, true, true, true, true, false, true, false, false] c46) (planAt 64 []) g46_1 x (injK fx46 ((.normal, g46_1) :: o46_1) some) := by kernel_rfl
noncomputable def l46_1 : g46_1.D → Option (outD o46_1) := loopN g46_1 o46_1 b46_1 18446744073709551616
theorem at46_1 : Code.at [true, true, true, true, true, true, false, true, false] c46 = .loop (Code.at [true, true, true, true, true, true, false, true, false, false] c46) := by kernel_rfl
theorem s46_1_ok : SubOk P Go.Proofs.Try.f46.ntmps fx46 (Code.at [true, true, true, true, true, true, false, true, false] c46) ⟨g46_1, o46_1, l46_1⟩ := by
  rw [at46_1]
  exact loop_ok (sub_ok (g := g46_1) (outs := ((.normal, g46_1) :: o46_1)) (f := b46_1) (Table.ok T64_ok _) hmix (planAt_ok (P := P) (n := Go.Proofs.Try.f46.ntmps) (fx := fx46) (c := (Code.at [true, true, true, true, true, true, false, true, false, false] c46)) (d := 64) (l := []) trivial) b46_1_eq) rfl _
noncomputable def f46 (x : gi46.D) : Option go46.D :=
  (Option.bind (Go.Ev.Deflate.f62 (x.2.2.1, (x.2.2.2.1, (x.2.2.2.2.1, (x.2.2.2.2.2.1, Unit.unit))))) (fun y1 => (if ((List.length x.2.2.2.2.2.2.1) = (List.length x.2.2.2.2.2.2.1)) then (Option.bind (Go.Ev.Deflate.f45 ((List.take (2 : Nat) (List.drop (0 : Nat) (List.set (List.set (List.replicate (2 : Nat) (0 : Int)) (0 : Nat) (16 : Int)) (1 : Nat) (16 : Int)))), (x.1, (x.2.1, (y1.2.1, (y1.2.2.1, (y1.2.2.2.1, (y1.2.2.2.2.1, (x.2.2.2.2.2.2.1, Unit.unit))))))))) (fun y2 => (if ((y2.2.1 != (0 : Int)) = true) then (if ((List.length y2.2.2.2.2.2.2.2.2.1) = (List.length y2.2.2.2.2.2.2.2.2.1)) then (some (y2.2.1, (y2.2.2.1, (y2.2.2.2.1, (y2.2.2.2.2.1, (y2.2.2.2.2.2.1, (y2.2.2.2.2.2.2.1, (y2.2.2.2.2.2.2.2.1, (y2.2.2.2.2.2.2.2.2.1, Unit.unit)))))))))
   else none)
   else (if ((0 : Int) < (((List.length y2.1) : Nat) : Int)) then (if ((1 : Int) < (((List.length y2.1) : Nat) : Int)) then (if (((Go.IntKind.wrap Go.IntKind.i64 (((BitVec.toNat ((BitVec.ofInt (64 : Nat) (List.getD y2.1 (0 : Nat) (0 : Int))) ^^^ (BitVec.ofInt (64 : Nat) (List.getD y2.1 (1 : Nat) (0 : Int))))) : Nat) : Int)) != (65535 : Int)) = true) then (if ((List.length y2.2.2.2.2.2.2.2.2.1) = (List.length y2.2.2.2.2.2.2.2.2.1)) then (some ((4 : Int), (y2.2.2.1, (y2.2.2.2.1, (y2.2.2.2.2.1, (y2.2.2.2.2.2.1, (y2.2.2.2.2.2.2.1, (y2.2.2.2.2.2.2.2.1, (y2.2.2.2.2.2.2.2.2.1, Unit.unit)))))))))
   else none)
   else (if ((0 : Int) < (((List.length y2.1) : Nat) : Int)) then (Option.bind (Go.Ev.Deflate.f63 ((List.getD y2.1 (0 : Nat) (0 : Int)), (y2.2.2.2.2.1, (y2.2.2.2.2.2.1, (y2.2.2.2.2.2.2.1, (y2.2.2.2.2.2.2.2.1, Unit.unit)))))) (fun y3 => (if ((y3.1 != (0 : Int)) = true) then (if ((List.length y2.2.2.2.2.2.2.2.2.1) = (List.length y2.2.2.2.2.2.2.2.2.1)) then (some (y3.1, (y2.2.2.1, (y2.2.2.2.1, (y3.2.1, (y3.2.2.1, (y3.2.2.2.1, (y3.2.2.2.2.1, (y2.2.2.2.2.2.2.2.2.1, Unit.unit)))))))))
   else none)
   else (if ((decide ((Go.IntKind.wrap Go.IntKind.i64 (y2.2.2.1 + (((List.length y3.2.2.2.2.2.1) : Nat) : Int))) > y2.2.2.2.1)) = true) then (if ((List.length y2.2.2.2.2.2.2.2.2.1) = (List.length y2.2.2.2.2.2.2.2.2.1)) then (some ((2 : Int), (y2.2.2.1, (y2.2.2.2.1, (y3.2.1, (y3.2.2.1, (y3.2.2.2.1, (y3.2.2.2.2.1, (y2.2.2.2.2.2.2.2.2.1, Unit.unit)))))))))
   else none)
   else (if ((List.length y2.2.2.2.2.2.2.2.2.1) = (List.length y2.2.2.2.2.2.2.2.2.1)) then (Option.bind (Go.Ev.Deflate.l46_1 ((List.take (List.length y3.2.2.2.2.2.1) (List.drop (0 : Nat) y3.2.2.2.2.2.1)), ((((List.length y3.2.2.2.2.2.1) : Nat) : Int), ((0 : Int), (y2.2.2.1, (y2.2.2.2.1, (y3.2.1, (y3.2.2.1, (y3.2.2.2.1, (y3.2.2.2.2.1, (y2.2.2.2.2.2.2.2.2.1, Unit.unit))))))))))) (Sum.elim (fun y4 => (if ((List.length y4.2.2.2.2.2.2.1) = (List.length y4.2.2.2.2.2.2.1)) then (some ((0 : Int), (y4.1, (y4.2.1, (y4.2.2.1, (y4.2.2.2.1, (y4.2.2.2.2.1, (y4.2.2.2.2.2.1, (y4.2.2.2.2.2.2.1, Unit.unit)))))))))
   else none)) Empty.elim))
   else none)))))
   else none))
   else none)
   else none))))
   else none)))
theorem f46_eq (x : gi46.D) : f46 x = evF P (T64.orc _) Go.Proofs.Try.f46.ntmps fx46 c46 (planAt 64 [([true, true, true, true, true, true, false, true, false], ⟨g46_1, o46_1, l46_1⟩)]) gi46 x (fnK fx46 [go46]) := by kernel_rfl
theorem pf46 : AllSub P Go.Proofs.Try.f46.ntmps fx46 c46 [([true, true, true, true, true, true, false, true, false], ⟨g46_1, o46_1, l46_1⟩)] := And.intro s46_1_ok (trivial)
theorem qf46 : PlanOk P Go.Proofs.Try.f46.ntmps fx46 (planAt 64 [([true, true, true, true, true, true, false, true, false], ⟨g46_1, o46_1, l46_1⟩)]) c46 := planAt_ok pf46
theorem f46_ok : EntOk P 46 ⟨gi46, [go46], f46⟩ :=
  ent_ok (fn := Go.Proofs.Try.f46) (gi := gi46) (gos := [go46]) (f := f46) (c := c46) (fx := fx46) ⟨Go.Proofs.Try.func46, by kernel_rfl, rfl, by decide +kernel, rfl, rfl⟩ (by kernel_rfl) (Table.ok T64_ok _) hmix (qf46) f46_eq
noncomputable def T46 : Table := T64.add 46 [⟨gi46, [go46], f46⟩] []
theorem T46_ok : TableOk P T46 := Table.plus T64_ok (es := [⟨gi46, [go46], f46⟩]) ⟨f46_ok, trivial⟩ []

/-! ## 71: (*erasure/huff.Table).Read -/
noncomputable def c71 : Code := Func.code Go.Proofs.Try.f71
abbrev gi71 : Sg := ⟨[0, 1], [.lf .nilp, .lf (.ptr 0 0)], [some (.box true [.lf (.sl (.int .u8)), .lf (.int .i64), .lf (.int .i64), .lf (.int .i64)])]⟩
abbrev go71 : Sg := ⟨[4, 5], [.lf (.int .i64), .lf (.int .i64)], [some (.box true [.lf (.sl (.int .u8)), .lf (.int .i64), .lf (.int .i64), .lf (.int .i64)])]⟩
def fx71 : List Bool := [true]
noncomputable def f71 (x : gi71.D) : Option go71.D :=
  (some ((0 : Int), ((3 : Int), (x.1, (x.2.1, (x.2.2.1, (x.2.2.2.1, Unit.unit)))))))
theorem f71_eq (x : gi71.D) : f71 x = evF P (T46.orc _) Go.Proofs.Try.f71.ntmps fx71 c71 (planAt 64 []) gi71 x (fnK fx71 [go71]) := by kernel_rfl
theorem f71_ok : EntOk P 71 ⟨gi71, [go71], f71⟩ :=
  ent_ok (fn := Go.Proofs.Try.f71) (gi := gi71) (gos := [go71]) (f := f71) (c := c71) (fx := fx71) ⟨Go.Proofs.Try.func71, by kernel_rfl, rfl, by decide +kernel, rfl, rfl⟩ (by kernel_rfl) (Table.ok T46_ok _) hmix (planAt_ok (P := P) (n := Go.Proofs.Try.f71.ntmps) (fx := fx71) (c := c71) (d := 64) (l := []) trivial) f71_eq
abbrev gi71_b : Sg := ⟨[0, 1], [.lf (.ptr 0 0), .lf (.ptr 2 0)], [some (.box true [.many (.int .i64) 16, .lf (.sl (.int .i64)), .lf (.sl (.int .i64)), .lf (.gr (.int .i64) 1)]), some (.arr true (.int .i64)), some (.box true [.lf (.sl (.int .u8)), .lf (.int .i64), .lf (.int .i64), .lf (.int .i64)])]⟩
abbrev go71_b : Sg := ⟨[4, 5], [.lf (.int .i64), .lf (.int .i64)], [some (.box true [.many (.int .i64) 16, .lf (.sl (.int .i64)), .lf (.sl (.int .i64)), .lf (.gr (.int .i64) 1)]), some (.arr true (.int .i64)), some (.box true [.lf (.sl (.int .u8)), .lf (.int .i64), .lf (.int .i64), .lf (.int .i64)])]⟩
def fx71_b : List Bool := [true, true, true]
abbrev g71_b_2 : Sg := ⟨[0, 1, 6, 7, 8, 9, 12], [.lf (.ptr 0 0), .lf (.ptr 2 0), .lf (.int .i64), .lf (.int .i64), .lf (.int .i64), .lf (.int .i64), .lf (.int .i64)], [some (.box true [.many (.int .i64) 16, .lf (.sl (.int .i64)), .lf (.sl (.int .i64)), .lf (.gr (.int .i64) 1)]), some (.arr true (.int .i64)), some (.box true [.lf (.sl (.int .u8)), .lf (.int .i64), .lf (.int .i64), .lf (.int .i64)])]⟩
abbrev o71_b_2 : Outs := [(.normal, ⟨[0, 1, 6, 7, 8, 9, 12, 51], [.lf (.ptr 0 0), .lf (.ptr 2 0), .lf (.int .i64), .lf (.int .i64), .lf (.int .i64), .lf (.int .i64), .lf (.int .i64), .lf .bool], [some (.box true [.many (.int .i64) 16, .lf (.sl (.int .i64)), .lf (.sl (.int .i64)), .lf (.gr (.int .i64) 1)]), some (.arr true (.int .i64)), some (.box true [.lf (.sl (.int .u8)), .lf (.int .i64), .lf (.int .i64), .lf (.int .i64)])]⟩)]
noncomputable def b71_b_2 (x : g71_b_2.D) : Option (outD o71_b_2) :=
  (if ((decide (x.2.2.2.2.1 ≥ (0 : Int))) = true) then (if ((0 : Int) ≤ x.2.2.2.1) then (if (x.2.2.2.1 < (16 : Int)) then (if ((List.length x.2.2.2.2.2.2.2.2.1) = (List.length x.2.2.2.2.2.2.2.2.1)) then (some (Sum.inl (x.1, (x.2.1, (x.2.2.1, (x.2.2.2.1, (x.2.2.2.2.1, ((decide (x.2.2.2.2.1 < (List.getD x.2.2.2.2.2.1 (Int.toNat x.2.2.2.1) (0 : Int)))), (x.2.2.2.2.2.1, (x.2.2.2.2.2.2.1, (x.2.2.2.2.2.2.2.1, (x.2.2.2.2.2.2.2.2.1, (x.2.2.2.2.2.2.2.2.2.1, (x.2.2.2.2.2.2.2.2.2.2.1, (x.2.2.2.2.2.2.2.2.2.2.2.1, (x.2.2.2.2.2.2.2.2.2.2.2.2.1, Unit.unit))))))))))))))))
   else none)
   else none)
   else none)
   else (if ((List.length x.2.2.2.2.2.2.2.2.1) = (List.length x.2.2.2.2.2.2.2.2.1)) then (some (Sum.inl (x.1, (x.2.1, (x.2.2.1, (x.2.2.2.1, (x.2.2.2.2.1, (false, (x.2.2.2.2.2.1, (x.2.2.2.2.2.2.1, (x.2.2.2.2.2.2.2.1, (x.2.2.2.2.2.2.2.2.1, (x.2.2.2.2.2.2.2.2.2.1, (x.2.2.2.2.2.2.2.2.2.2.1, (x.2.2.2.2.2.2.2.2.2.2.2.1, (x.2.2.2.2.2.2.2.2.2.2.2.2.1, Unit.unit))))))))))))))))
   else none))
theorem b71_b_2_eq (x : g71_b_2.D) : b71_b_2 x = evF P (T46.orc _) Go.Proofs.Try.f71.ntmps fx71_b (Code.at [true, true, true, false, true, false, false, true, false, false, true, true, true, false, true, false] c71) (planAt 64 []) g71_b_2 x (injK fx71_b o71_b_2 some) := by kernel_rfl
theorem s71_b_2_ok : SubOk P Go.Proofs.Try.f71.ntmps fx71_b (Code.at [true, true, true, false, true, false, false, true, false, false, true, true, true, false, true, false] c71) ⟨g71_b_2, o71_b_2, b71_b_2⟩ :=
  sub_ok (g := g71_b_2) (outs := o71_b_2) (f := b71_b_2) (Table.ok T46_ok _) hmix (planAt_ok (P := P) (n := Go.Proofs.Try.f71.ntmps) (fx := fx71_b) (c := (Code.at [true, true, true, false, true, false, false, true, false, false, true, true, true, false, true, false] c71)) (d := 64) (l := []) trivial) b71_b_2_eq
abbrev g71_b_1 : Sg := ⟨[0, 1, 6, 7, 8, 9], [.lf (.ptr 0 0), .lf (.ptr 2 0), .lf (.int .i64), .lf (.int .i64), .lf (.int .i64), .lf (.int .i64)], [some (.box true [.many (.int .i64) 16, .lf (.sl (.int .i64)), .lf (.sl (.int .i64)), .lf (.gr (.int .i64) 1)]), some (.arr true (.int .i64)), some (.box true [.lf (.sl (.int .u8)), .lf (.int .i64), .lf (.int .i64), .lf (.int .i64)])]⟩
abbrev o71_b_1 : Outs := [(.exit 0, ⟨[], [], [some (.box true [.many (.int .i64) 16, .lf (.sl (.int .i64)), .lf (.sl (.int .i64)), .lf (.gr (.int .i64) 1)]), some (.arr true (.int .i64)), some (.box true [.lf (.sl (.int .u8)), .lf (.int .i64), .lf (.int .i64), .lf (.int .i64)])]⟩), (.ret, ⟨[4, 5], [.lf (.int .i64), .lf (.int .i64)], [some (.box true [.many (.int .i64) 16, .lf (.sl (.int .i64)), .lf (.sl (.int .i64)), .lf (.gr (.int .i64) 1)]), some (.arr true (.int .i64)), some (.box true [.lf (.sl (.int .u8)), .lf (.int .i64), .lf (.int .i64), .lf (.int .i64)])]⟩)]
noncomputable def b71_b_1 (x : g71_b_1.D) : Option (outD ((.normal, g71_b_1) :: o71_b_1)) :=
  (if ((decide (x.2.2.2.1 ≤ (15 : Int))) = true) then (Option.bind (Go.Ev.Deflate.f61 ((1 : Int), (x.2.2.2.2.2.2.2.2.1, (x.2.2.2.2.2.2.2.2.2.1, (x.2.2.2.2.2.2.2.2.2.2.1, (x.2.2.2.2.2.2.2.2.2.2.2.1, Unit.unit)))))) (fun y1 => (if ((y1.2.1 != (0 : Int)) = true) then (if ((List.length x.2.2.2.2.2.2.2.1) = (List.length x.2.2.2.2.2.2.2.1)) then (some (Sum.inr (Sum.inr (Sum.inl ((0 : Int), (y1.2.1, (x.2.2.2.2.1, (x.2.2.2.2.2.1, (x.2.2.2.2.2.2.1, (x.2.2.2.2.2.2.2.1, (y1.2.2.1, (y1.2.2.2.1, (y1.2.2.2.2.1, (y1.2.2.2.2.2.1, Unit.unit))))))))))))))
   else none)
   else (if ((List.length x.2.2.2.2.2.2.2.1) = (List.length x.2.2.2.2.2.2.2.1)) then (Option.bind (Go.Ev.Deflate.b71_b_2 ((Go.IntKind.wrap Go.IntKind.i64 (((BitVec.toNat ((BitVec.ofInt (64 : Nat) (Go.IntKind.wrap Go.IntKind.i64 (x.1 * (2 : Int)))) ||| (BitVec.ofInt (64 : Nat) y1.1))) : Nat) : Int)), ((Go.IntKind.wrap Go.IntKind.i64 (x.2.1 * (2 : Int))), (x.2.2.1, (x.2.2.2.1, ((Go.IntKind.wrap Go.IntKind.i64 ((Go.IntKind.wrap Go.IntKind.i64 (((BitVec.toNat ((BitVec.ofInt (64 : Nat) (Go.IntKind.wrap Go.IntKind.i64 (x.1 * (2 : Int)))) ||| (BitVec.ofInt (64 : Nat) y1.1))) : Nat) : Int)) - (Go.IntKind.wrap Go.IntKind.i64 (x.2.1 * (2 : Int))))), (x.2.2.2.2.1, (x.2.2.2.2.2.1, (x.2.2.2.2.2.2.1, (x.2.2.2.2.2.2.2.1, (y1.2.2.1, (y1.2.2.2.1, (y1.2.2.2.2.1, (y1.2.2.2.2.2.1, Unit.unit)))))))))))))) (Sum.elim (fun y2 => (if (y2.2.2.2.2.2.1 = true) then (if ((0 : Int) ≤ (Go.IntKind.wrap Go.IntKind.i64 (y2.2.2.1 + y2.2.2.2.2.1))) then (if ((Go.IntKind.wrap Go.IntKind.i64 (y2.2.2.1 + y2.2.2.2.2.1)) < (((List.length y2.2.2.2.2.2.2.2.2.2.1) : Nat) : Int)) then (if ((List.length y2.2.2.2.2.2.2.2.2.2.1) = (List.length y2.2.2.2.2.2.2.2.2.2.1)) then (some (Sum.inr (Sum.inr (Sum.inl ((List.getD y2.2.2.2.2.2.2.2.2.2.1 ((0 : Nat) + (Int.toNat (Go.IntKind.wrap Go.IntKind.i64 (y2.2.2.1 + y2.2.2.2.2.1)))) (0 : Int)), ((0 : Int), (y2.2.2.2.2.2.2.1, (y2.2.2.2.2.2.2.2.1, (y2.2.2.2.2.2.2.2.2.1, (y2.2.2.2.2.2.2.2.2.2.1, (y2.2.2.2.2.2.2.2.2.2.2.1, (y2.2.2.2.2.2.2.2.2.2.2.2.1, (y2.2.2.2.2.2.2.2.2.2.2.2.2.1, (y2.2.2.2.2.2.2.2.2.2.2.2.2.2.1, Unit.unit))))))))))))))
   else none)
   else none)
   else none)
   else (if ((0 : Int) ≤ y2.2.2.2.1) then (if (y2.2.2.2.1 < (16 : Int)) then (if ((0 : Int) ≤ y2.2.2.2.1) then (if (y2.2.2.2.1 < (16 : Int)) then (if ((List.length y2.2.2.2.2.2.2.2.2.2.1) = (List.length y2.2.2.2.2.2.2.2.2.2.1)) then (some (Sum.inl (y2.1, ((Go.IntKind.wrap Go.IntKind.i64 (y2.2.1 + (List.getD y2.2.2.2.2.2.2.1 (Int.toNat y2.2.2.2.1) (0 : Int)))), ((Go.IntKind.wrap Go.IntKind.i64 (y2.2.2.1 + (List.getD y2.2.2.2.2.2.2.1 (Int.toNat y2.2.2.2.1) (0 : Int)))), ((Go.IntKind.wrap Go.IntKind.i64 (y2.2.2.2.1 + (1 : Int))), (y2.2.2.2.2.2.2.1, (y2.2.2.2.2.2.2.2.1, (y2.2.2.2.2.2.2.2.2.1, (y2.2.2.2.2.2.2.2.2.2.1, (y2.2.2.2.2.2.2.2.2.2.2.1, (y2.2.2.2.2.2.2.2.2.2.2.2.1, (y2.2.2.2.2.2.2.2.2.2.2.2.2.1, (y2.2.2.2.2.2.2.2.2.2.2.2.2.2.1, Unit.unit))))))))))))))
   else none)
   else none)
   else none)
   else none)
   else none))) Empty.elim))
   else none))))
   else (if ((List.length x.2.2.2.2.2.2.2.1) = (List.length x.2.2.2.2.2.2.2.1)) then (some (Sum.inr (Sum.inl (x.2.2.2.2.1, (x.2.2.2.2.2.1, (x.2.2.2.2.2.2.1, (x.2.2.2.2.2.2.2.1, (x.2.2.2.2.2.2.2.2.1, (x.2.2.2.2.2.2.2.2.2.1, (x.2.2.2.2.2.2.2.2.2.2.1, (x.2.2.2.2.2.2.2.2.2.2.2.1, Unit.unit)))))))))))
   else none))
theorem b71_b_1_eq (x : g71_b_1.D) : b71_b_1 x = evF P (T46.orc _) Go.Proofs.Try.f71.ntmps fx71_b (Code.at [true, true, true, false, true, false, false] c71) (planAt 64 [([true, false, false, true, true, true, false, true, false], ⟨g71_b_2, o71_b_2, b71_b_2⟩)]) g71_b_1 x (injK fx71_b ((.normal, g71_b_1) :: o71_b_1) some) := by kernel_rfl
noncomputable def l71_b_1 : g71_b_1.D → Option (outD o71_b_1) := loopN g71_b_1 o71_b_1 b71_b_1 18446744073709551616
theorem p71_b_1 : AllSub P Go.Proofs.Try.f71.ntmps fx71_b (Code.at [true, true, true, false, true, false, false] c71) [([true, false, false, true, true, true, false, true, false], ⟨g71_b_2, o71_b_2, b71_b_2⟩)] := And.intro s71_b_2_ok (trivial)
theorem q71_b_1 : PlanOk P Go.Proofs.Try.f71.ntmps fx71_b (planAt 64 [([true, false, false, true, true, true, false, true, false], ⟨g71_b_2, o71_b_2, b71_b_2⟩)]) (Code.at [true, true, true, false, true, false, false] c71) := planAt_ok p71_b_1
theorem at71_b_1 : Code.at [true, true, true, false, true, false] c71 = .loop (Code.at [true, true, true, false, true, false, false] c71) := by kernel_rfl
theorem s71_b_1_ok : SubOk P Go.Proofs.Try.f71.ntmps fx71_b (Code.at [true, true, true, false, true, false] c71) ⟨g71_b_1, o71_b_1, l71_b_1⟩ := by
  rw [at71_b_1]
  exact loop_ok (sub_ok (g := g71_b_1) (outs := ((.normal, g71_b_1) :: o71_b_1)) (f := b71_b_1) (Table.ok T46_ok _) hmix (q71_b_1) b71_b_1_eq) rfl _
noncomputable def f71_b (x : gi71_b.D) : Option go71_b.D :=
  (if ((List.length x.2.2.2.1) = (List.length x.2.2.2.1)) then (Option.bind (Go.Ev.Deflate.l71_b_1 ((0 : Int), ((0 : Int), ((0 : Int), ((1 : Int), (x.1, (x.2.1, (x.2.2.1, (x.2.2.2.1, (x.2.2.2.2.1, (x.2.2.2.2.2.1, (x.2.2.2.2.2.2.1, (x.2.2.2.2.2.2.2.1, Unit.unit))))))))))))) (Sum.elim (fun y1 => (if ((List.length y1.2.2.2.1) = (List.length y1.2.2.2.1)) then (some ((0 : Int), ((4 : Int), (y1.1, (y1.2.1, (y1.2.2.1, (y1.2.2.2.1, (y1.2.2.2.2.1, (y1.2.2.2.2.2.1, (y1.2.2.2.2.2.2.1, (y1.2.2.2.2.2.2.2.1, Unit.unit)))))))))))
   else none)) (Sum.elim (fun y1 => (if ((List.length y1.2.2.2.2.2.1) = (List.length y1.2.2.2.2.2.1)) then (some (y1.1, (y1.2.1, (y1.2.2.1, (y1.2.2.2.1, (y1.2.2.2.2.1, (y1.2.2.2.2.2.1, (y1.2.2.2.2.2.2.1, (y1.2.2.2.2.2.2.2.1, (y1.2.2.2.2.2.2.2.2.1, (y1.2.2.2.2.2.2.2.2.2.1, Unit.unit)))))))))))
   else none)) Empty.elim)))
   else none)
theorem f71_b_eq (x : gi71_b.D) : f71_b x = evF P (T46.orc _) Go.Proofs.Try.f71.ntmps fx71_b c71 (planAt 64 [([true, true, true, false, true, false], ⟨g71_b_1, o71_b_1, l71_b_1⟩)]) gi71_b x (fnK fx71_b [go71_b]) := by kernel_rfl
theorem pf71_b : AllSub P Go.Proofs.Try.f71.ntmps fx71_b c71 [([true, true, true, false, true, false], ⟨g71_b_1, o71_b_1, l71_b_1⟩)] := And.intro s71_b_1_ok (trivial)
theorem qf71_b : PlanOk P Go.Proofs.Try.f71.ntmps fx71_b (planAt 64 [([true, true, true, false, true, false], ⟨g71_b_1, o71_b_1, l71_b_1⟩)]) c71 := planAt_ok pf71_b
theorem f71_b_ok : EntOk P 71 ⟨gi71_b, [go71_b], f71_b⟩ :=
  ent_ok (fn := Go.Proofs.Try.f71) (gi := gi71_b) (gos := [go71_b]) (f := f71_b) (c := c71) (fx := fx71_b) ⟨Go.Proofs.Try.func71, by kernel_rfl, rfl, by decide +kernel, rfl, rfl⟩ (by kernel_rfl) (Table.ok T46_ok _) hmix (qf71_b) f71_b_eq
noncomputable def T71 : Table := T46.add 71 [⟨gi71, [go71], f71⟩, ⟨gi71_b, [go71_b], f71_b⟩] []
theorem T71_ok : TableOk P T71 := Table.plus T46_ok (es := [⟨gi71, [go71], f71⟩, ⟨gi71_b, [go71_b], f71_b⟩]) ⟨f71_ok, f71_b_ok, trivial⟩ []

/-! ## 72: erasure/inflate.length -/
noncomputable def c72 : Code := Func.code Go.Proofs.Try.f72
abbrev gi72 : Sg := ⟨[0], [.lf (.int .i64)], []⟩
abbrev go72 : Sg := ⟨[2, 3], [.lf (.int .i64), .lf (.int .i64)], []⟩
def fx72 : List Bool := []
noncomputable def f72 (x : gi72.D) : Option go72.D :=
  (if ((x.1 == (285 : Int)) = true) then (some ((258 : Int), ((0 : Int), Unit.unit)))
   else (if ((decide ((Go.IntKind.wrap Go.IntKind.i64 ((Go.IntKind.wrap Go.IntKind.i64 (x.1 - (256 : Int))) - (1 : Int))) < (8 : Int))) = true) then (some ((Go.IntKind.wrap Go.IntKind.i64 ((3 : Int) + (Go.IntKind.wrap Go.IntKind.i64 ((Go.IntKind.wrap Go.IntKind.i64 (x.1 - (256 : Int))) - (1 : Int))))), ((0 : Int), Unit.unit)))
   else (if ((Go.IntKind.wrap Go.IntKind.i64 ((Int.fdiv (Go.IntKind.wrap Go.IntKind.i64 ((Go.IntKind.wrap Go.IntKind.i64 (x.1 - (256 : Int))) - (1 : Int))) (4 : Int)) - (1 : Int))) < (0 : Int)) then none
   else (some ((Go.IntKind.wrap Go.IntKind.i64 ((3 : Int) + (Go.IntKind.wrap Go.IntKind.i64 ((Go.IntKind.wrap Go.IntKind.i64 ((4 : Int) + (Go.IntKind.wrap Go.IntKind.i64 (((BitVec.toNat ((BitVec.ofInt (64 : Nat) (Go.IntKind.wrap Go.IntKind.i64 ((Go.IntKind.wrap Go.IntKind.i64 (x.1 - (256 : Int))) - (1 : Int)))) &&& (BitVec.ofInt (64 : Nat) (3 : Int)))) : Nat) : Int)))) * ((2 : Int) ^ (Min.min (Int.toNat (Go.IntKind.wrap Go.IntKind.i64 ((Int.fdiv (Go.IntKind.wrap Go.IntKind.i64 ((Go.IntKind.wrap Go.IntKind.i64 (x.1 - (256 : Int))) - (1 : Int))) (4 : Int)) - (1 : Int)))) (64 : Nat))))))), ((Go.IntKind.wrap Go.IntKind.i64 ((Int.fdiv (Go.IntKind.wrap Go.IntKind.i64 ((Go.IntKind.wrap Go.IntKind.i64 (x.1 - (256 : Int))) - (1 : Int))) (4 : Int)) - (1 : Int))), Unit.unit))))))
theorem f72_eq (x : gi72.D) : f72 x = evF P (T71.orc _) Go.Proofs.Try.f72.ntmps fx72 c72 (planAt 64 []) gi72 x (fnK fx72 [go72]) := by kernel_rfl
theorem f72_ok : EntOk P 72 ⟨gi72, [go72], f72⟩ :=
  ent_ok (fn := Go.Proofs.Try.f72) (gi := gi72) (gos := [go72]) (f := f72) (c := c72) (fx := fx72) ⟨Go.Proofs.Try.func72, by kernel_rfl, rfl, by decide +kernel, rfl, rfl⟩ (by kernel_rfl) (Table.ok T71_ok _) hmix (planAt_ok (P := P) (n := Go.Proofs.Try.f72.ntmps) (fx := fx72) (c := c72) (d := 64) (l := []) trivial) f72_eq
noncomputable def T72 : Table := T71.add 72 [⟨gi72, [go72], f72⟩] []
theorem T72_ok : TableOk P T72 := Table.plus T71_ok (es := [⟨gi72, [go72], f72⟩]) ⟨f72_ok, trivial⟩ []

/-! ## 73: erasure/inflate.back -/
noncomputable def c73 : Code := Func.code Go.Proofs.Try.f73
abbrev gi73 : Sg := ⟨[0], [.lf (.int .i64)], []⟩
abbrev go73 : Sg := ⟨[2, 3], [.lf (.int .i64), .lf (.int .i64)], []⟩
def fx73 : List Bool := []
noncomputable def f73 (x : gi73.D) : Option go73.D :=
  (if ((decide (x.1 < (4 : Int))) = true) then (some ((Go.IntKind.wrap Go.IntKind.i64 ((1 : Int) + x.1)), ((0 : Int), Unit.unit)))
   else (if ((Go.IntKind.wrap Go.IntKind.i64 ((Int.fdiv x.1 (2 : Int)) - (1 : Int))) < (0 : Int)) then none
   else (some ((Go.IntKind.wrap Go.IntKind.i64 ((1 : Int) + (Go.IntKind.wrap Go.IntKind.i64 ((Go.IntKind.wrap Go.IntKind.i64 ((2 : Int) + (Go.IntKind.wrap Go.IntKind.i64 (((BitVec.toNat ((BitVec.ofInt (64 : Nat) x.1) &&& (BitVec.ofInt (64 : Nat) (1 : Int)))) : Nat) : Int)))) * ((2 : Int) ^ (Min.min (Int.toNat (Go.IntKind.wrap Go.IntKind.i64 ((Int.fdiv x.1 (2 : Int)) - (1 : Int)))) (64 : Nat))))))), ((Go.IntKind.wrap Go.IntKind.i64 ((Int.fdiv x.1 (2 : Int)) - (1 : Int))), Unit.unit)))))
theorem f73_eq (x : gi73.D) : f73 x = evF P (T72.orc _) Go.Proofs.Try.f73.ntmps fx73 c73 (planAt 64 []) gi73 x (fnK fx73 [go73]) := by kernel_rfl
theorem f73_ok : EntOk P 73 ⟨gi73, [go73], f73⟩ :=
  ent_ok (fn := Go.Proofs.Try.f73) (gi := gi73) (gos := [go73]) (f := f73) (c := c73) (fx := fx73) ⟨Go.Proofs.Try.func73, by kernel_rfl, rfl, by decide +kernel, rfl, rfl⟩ (by kernel_rfl) (Table.ok T72_ok _) hmix (planAt_ok (P := P) (n := Go.Proofs.Try.f73.ntmps) (fx := fx73) (c := c73) (d := 64) (l := []) trivial) f73_eq
noncomputable def T73 : Table := T72.add 73 [⟨gi73, [go73], f73⟩] []
theorem T73_ok : TableOk P T73 := Table.plus T72_ok (es := [⟨gi73, [go73], f73⟩]) ⟨f73_ok, trivial⟩ []

/-! ## 65: (*erasure/inflate.work).words -/
noncomputable def c65 : Code := Func.code Go.Proofs.Try.f65
abbrev gi65 : Sg := ⟨[0, 1, 2], [.lf (.ptr 0 0), .lf .nilp, .lf .nilp], [some (.box true [.lf (.ptr 1 0), .lf (.gr (.pair (.int .i64) (.pair (.int .i64) (.int .i64))) 2), .lf (.int .i64), .lf (.int .i64)]), some (.box true [.lf (.sl (.int .u8)), .lf (.int .i64), .lf (.int .i64), .lf (.int .i64)]), some (.arr true (.pair (.int .i64) (.pair (.int .i64) (.int .i64))))]⟩
abbrev go65 : Sg := ⟨[6], [.lf (.int .i64)], [some (.box true [.lf (.ptr 1 0), .lf (.gr (.pair (.int .i64) (.pair (.int .i64) (.int .i64))) 3), .lf (.int .i64), .lf (.int .i64)]), some (.box true [.lf (.sl (.int .u8)), .lf (.int .i64), .lf (.int .i64), .lf (.int .i64)]), none, some (.arr true (.pair (.int .i64) (.pair (.int .i64) (.int .i64))))]⟩
def fx65 : List Bool := [true, true, false]
abbrev g65_1 : Sg := ⟨[0, 1, 2], [.lf (.ptr 0 0), .lf .nilp, .lf .nilp], [some (.box true [.lf (.ptr 1 0), .lf (.gr (.pair (.int .i64) (.pair (.int .i64) (.int .i64))) 3), .lf (.int .i64), .lf (.int .i64)]), some (.box true [.lf (.sl (.int .u8)), .lf (.int .i64), .lf (.int .i64), .lf (.int .i64)]), none, some (.arr true (.pair (.int .i64) (.pair (.int .i64) (.int .i64))))]⟩
abbrev o65_1 : Outs := [(.ret, ⟨[6], [.lf (.int .i64)], [some (.box true [.lf (.ptr 1 0), .lf (.gr (.pair (.int .i64) (.pair (.int .i64) (.int .i64))) 3), .lf (.int .i64), .lf (.int .i64)]), some (.box true [.lf (.sl (.int .u8)), .lf (.int .i64), .lf (.int .i64), .lf (.int .i64)]), none, some (.arr true (.pair (.int .i64) (.pair (.int .i64) (.int .i64))))]⟩)]
noncomputable def b65_1 (x : g65_1.D) : Option (outD ((.normal, g65_1) :: o65_1)) :=
  (Option.bind (Go.Ev.Deflate.f71 (x.2.2.1, (x.2.2.2.1, (x.2.2.2.2.1, (x.2.2.2.2.2.1, Unit.unit))))) (fun y1 => (if ((y1.2.1 != (0 : Int)) = true) then (if ((List.length x.2.2.2.2.2.2.1) = (List.length x.2.2.2.2.2.2.1)) then (some (Sum.inr (Sum.inl (y1.2.1, (x.1, (x.2.1, (y1.2.2.1, (y1.2.2.2.1, (y1.2.2.2.2.1, (y1.2.2.2.2.2.1, (x.2.2.2.2.2.2.1, Unit.unit)))))))))))
   else none)
   else (if ((y1.1 == (256 : Int)) = true) then (if ((List.length x.2.2.2.2.2.2.1) = (List.length x.2.2.2.2.2.2.1)) then (some (Sum.inr (Sum.inl ((0 : Int), (x.1, (x.2.1, (y1.2.2.1, (y1.2.2.2.1, (y1.2.2.2.2.1, (y1.2.2.2.2.2.1, (x.2.2.2.2.2.2.1, Unit.unit)))))))))))
   else none)
   else (if ((decide (y1.1 > (285 : Int))) = true) then (if ((List.length x.2.2.2.2.2.2.1) = (List.length x.2.2.2.2.2.2.1)) then (some (Sum.inr (Sum.inl ((4 : Int), (x.1, (x.2.1, (y1.2.2.1, (y1.2.2.2.1, (y1.2.2.2.2.1, (y1.2.2.2.2.2.1, (x.2.2.2.2.2.2.1, Unit.unit)))))))))))
   else none)
   else (if ((decide (y1.1 < (256 : Int))) = true) then (if ((List.length x.2.2.2.2.2.2.1) = (List.length x.2.2.2.2.2.2.1)) then (Option.bind (Go.Ev.Deflate.f64 (y1.1, ((0 : Int), ((0 : Int), (x.1, (x.2.1, (y1.2.2.1, (y1.2.2.2.1, (y1.2.2.2.2.1, (y1.2.2.2.2.2.1, (x.2.2.2.2.2.2.1, Unit.unit))))))))))) (fun y2 => (if ((y2.1 != (0 : Int)) = true) then (if ((List.length y2.2.2.2.2.2.2.2.1) = (List.length y2.2.2.2.2.2.2.2.1)) then (some (Sum.inr (Sum.inl (y2.1, (y2.2.1, (y2.2.2.1, (y2.2.2.2.1, (y2.2.2.2.2.1, (y2.2.2.2.2.2.1, (y2.2.2.2.2.2.2.1, (y2.2.2.2.2.2.2.2.1, Unit.unit)))))))))))
   else none)
   else (if ((List.length y2.2.2.2.2.2.2.2.1) = (List.length y2.2.2.2.2.2.2.2.1)) then (some (Sum.inl (y2.2.1, (y2.2.2.1, (y2.2.2.2.1, (y2.2.2.2.2.1, (y2.2.2.2.2.2.1, (y2.2.2.2.2.2.2.1, (y2.2.2.2.2.2.2.2.1, Unit.unit)))))))))
   else none))))
   else none)
   else (Option.bind (Go.Ev.Deflate.f72 (y1.1, Unit.unit)) (fun y2 => (Option.bind (Go.Ev.Deflate.f61 (y2.2.1, (y1.2.2.1, (y1.2.2.2.1, (y1.2.2.2.2.1, (y1.2.2.2.2.2.1, Unit.unit)))))) (fun y3 => (if ((y3.2.1 != (0 : Int)) = true) then (if ((List.length x.2.2.2.2.2.2.1) = (List.length x.2.2.2.2.2.2.1)) then (some (Sum.inr (Sum.inl (y3.2.1, (x.1, (x.2.1, (y3.2.2.1, (y3.2.2.2.1, (y3.2.2.2.2.1, (y3.2.2.2.2.2.1, (x.2.2.2.2.2.2.1, Unit.unit)))))))))))
   else none)
   else (Option.bind (Go.Ev.Deflate.f71 (y3.2.2.1, (y3.2.2.2.1, (y3.2.2.2.2.1, (y3.2.2.2.2.2.1, Unit.unit))))) (fun y4 => (if ((y4.2.1 != (0 : Int)) = true) then (if ((List.length x.2.2.2.2.2.2.1) = (List.length x.2.2.2.2.2.2.1)) then (some (Sum.inr (Sum.inl (y4.2.1, (x.1, (x.2.1, (y4.2.2.1, (y4.2.2.2.1, (y4.2.2.2.2.1, (y4.2.2.2.2.2.1, (x.2.2.2.2.2.2.1, Unit.unit)))))))))))
   else none)
   else (if ((decide (y4.1 ≥ (30 : Int))) = true) then (if ((List.length x.2.2.2.2.2.2.1) = (List.length x.2.2.2.2.2.2.1)) then (some (Sum.inr (Sum.inl ((4 : Int), (x.1, (x.2.1, (y4.2.2.1, (y4.2.2.2.1, (y4.2.2.2.2.1, (y4.2.2.2.2.2.1, (x.2.2.2.2.2.2.1, Unit.unit)))))))))))
   else none)
   else (Option.bind (Go.Ev.Deflate.f73 (y4.1, Unit.unit)) (fun y5 => (Option.bind (Go.Ev.Deflate.f61 (y5.2.1, (y4.2.2.1, (y4.2.2.2.1, (y4.2.2.2.2.1, (y4.2.2.2.2.2.1, Unit.unit)))))) (fun y6 => (if ((y6.2.1 != (0 : Int)) = true) then (if ((List.length x.2.2.2.2.2.2.1) = (List.length x.2.2.2.2.2.2.1)) then (some (Sum.inr (Sum.inl (y6.2.1, (x.1, (x.2.1, (y6.2.2.1, (y6.2.2.2.1, (y6.2.2.2.2.1, (y6.2.2.2.2.2.1, (x.2.2.2.2.2.2.1, Unit.unit)))))))))))
   else none)
   else (if ((List.length x.2.2.2.2.2.2.1) = (List.length x.2.2.2.2.2.2.1)) then (Option.bind (Go.Ev.Deflate.f64 ((0 : Int), ((Go.IntKind.wrap Go.IntKind.i64 (y2.1 + y3.1)), ((Go.IntKind.wrap Go.IntKind.i64 (y5.1 + y6.1)), (x.1, (x.2.1, (y6.2.2.1, (y6.2.2.2.1, (y6.2.2.2.2.1, (y6.2.2.2.2.2.1, (x.2.2.2.2.2.2.1, Unit.unit))))))))))) (fun y7 => (if ((y7.1 != (0 : Int)) = true) then (if ((List.length y7.2.2.2.2.2.2.2.1) = (List.length y7.2.2.2.2.2.2.2.1)) then (some (Sum.inr (Sum.inl (y7.1, (y7.2.1, (y7.2.2.1, (y7.2.2.2.1, (y7.2.2.2.2.1, (y7.2.2.2.2.2.1, (y7.2.2.2.2.2.2.1, (y7.2.2.2.2.2.2.2.1, Unit.unit)))))))))))
   else none)
   else (if ((List.length y7.2.2.2.2.2.2.2.1) = (List.length y7.2.2.2.2.2.2.2.1)) then (some (Sum.inl (y7.2.1, (y7.2.2.1, (y7.2.2.2.1, (y7.2.2.2.2.1, (y7.2.2.2.2.2.1, (y7.2.2.2.2.2.2.1, (y7.2.2.2.2.2.2.2.1, Unit.unit)))))))))
   else none))))
   else none)))))))))))))))))))))
theorem b65_1_eq (x : g65_1.D) : b65_1 x = evF P (T73.orc _) Go.Proofs.Try.f65.ntmps fx65 (Code.at [true, false, false] c65) (planAt 64 []) g65_1 x (injK fx65 ((.normal, g65_1) :: o65_1) some) := by kernel_rfl
noncomputable def l65_1 : g65_1.D → Option (outD o65_1) := loopN g65_1 o65_1 b65_1 18446744073709551616
theorem at65_1 : Code.at [true, false] c65 = .loop (Code.at [true, false, false] c65) := by kernel_rfl
theorem s65_1_ok : SubOk P Go.Proofs.Try.f65.ntmps fx65 (Code.at [true, false] c65) ⟨g65_1, o65_1, l65_1⟩ := by
  rw [at65_1]
  exact loop_ok (sub_ok (g := g65_1) (outs := ((.normal, g65_1) :: o65_1)) (f := b65_1) (Table.ok T73_ok _) hmix (planAt_ok (P := P) (n := Go.Proofs.Try.f65.ntmps) (fx := fx65) (c := (Code.at [true, false, false] c65)) (d := 64) (l := []) trivial) b65_1_eq) rfl _
noncomputable def f65 (x : gi65.D) : Option go65.D :=
  (if ((List.length x.2.2.2.2.2.2.1) = (List.length x.2.2.2.2.2.2.1)) then (Option.bind (Go.Ev.Deflate.l65_1 (x.1, (x.2.1, (x.2.2.1, (x.2.2.2.1, (x.2.2.2.2.1, (x.2.2.2.2.2.1, (x.2.2.2.2.2.2.1, Unit.unit)))))))) (Sum.elim (fun y1 => (if ((List.length y1.2.2.2.2.2.2.2.1) = (List.length y1.2.2.2.2.2.2.2.1)) then (some (y1.1, (y1.2.1, (y1.2.2.1, (y1.2.2.2.1, (y1.2.2.2.2.1, (y1.2.2.2.2.2.1, (y1.2.2.2.2.2.2.1, (y1.2.2.2.2.2.2.2.1, Unit.unit)))))))))
   else none)) Empty.elim))
   else none)
theorem f65_eq (x : gi65.D) : f65 x = evF P (T73.orc _) Go.Proofs.Try.f65.ntmps fx65 c65 (planAt 64 [([true, false], ⟨g65_1, o65_1, l65_1⟩)]) gi65 x (fnK fx65 [go65]) := by kernel_rfl
theorem pf65 : AllSub P Go.Proofs.Try.f65.ntmps fx65 c65 [([true, false], ⟨g65_1, o65_1, l65_1⟩)] := And.intro s65_1_ok (trivial)
theorem qf65 : PlanOk P Go.Proofs.Try.f65.ntmps fx65 (planAt 64 [([true, false], ⟨g65_1, o65_1, l65_1⟩)]) c65 := planAt_ok pf65
theorem f65_ok : EntOk P 65 ⟨gi65, [go65], f65⟩ :=
  ent_ok (fn := Go.Proofs.Try.f65) (gi := gi65) (gos := [go65]) (f := f65) (c := c65) (fx := fx65) ⟨Go.Proofs.Try.func65, by kernel_rfl, rfl, by decide +kernel, rfl, rfl⟩ (by kernel_rfl) (Table.ok T73_ok _) hmix (qf65) f65_eq
abbrev gi65_b : Sg := ⟨[0, 1, 2], [.lf (.ptr 0 0), .lf .nilp, .lf (.ptr 3 0)], [some (.box true [.lf (.ptr 1 0), .lf (.gr (.pair (.int .i64) (.pair (.int .i64) (.int .i64))) 2), .lf (.int .i64), .lf (.int .i64)]), some (.box true [.lf (.sl (.int .u8)), .lf (.int .i64), .lf (.int .i64), .lf (.int .i64)]), some (.arr true (.pair (.int .i64) (.pair (.int .i64) (.int .i64)))), some (.box true [.many (.int .i64) 16, .lf (.sl (.int .i64)), .lf (.sl (.int .i64)), .lf (.gr (.int .i64) 4)]), some (.arr true (.int .i64))]⟩
abbrev go65_b : Sg := ⟨[6], [.lf (.int .i64)], [some (.box true [.lf (.ptr 1 0), .lf (.gr (.pair (.int .i64) (.pair (.int .i64) (.int .i64))) 5), .lf (.int .i64), .lf (.int .i64)]), some (.box true [.lf (.sl (.int .u8)), .lf (.int .i64), .lf (.int .i64), .lf (.int .i64)]), none, some (.box true [.many (.int .i64) 16, .lf (.sl (.int .i64)), .lf (.sl (.int .i64)), .lf (.gr (.int .i64) 4)]), some (.arr true (.int .i64)), some (.arr true (.pair (.int .i64) (.pair (.int .i64) (.int .i64))))]⟩
def fx65_b : List Bool := [true, true, false, true, true]
abbrev g65_b_1 : Sg := ⟨[0, 1, 2], [.lf (.ptr 0 0), .lf .nilp, .lf (.ptr 3 0)], [some (.box true [.lf (.ptr 1 0), .lf (.gr (.pair (.int .i64) (.pair (.int .i64) (.int .i64))) 5), .lf (.int .i64), .lf (.int .i64)]), some (.box true [.lf (.sl (.int .u8)), .lf (.int .i64), .lf (.int .i64), .lf (.int .i64)]), none, some (.box true [.many (.int .i64) 16, .lf (.sl (.int .i64)), .lf (.sl (.int .i64)), .lf (.gr (.int .i64) 4)]), some (.arr true (.int .i64)), some (.arr true (.pair (.int .i64) (.pair (.int .i64) (.int .i64))))]⟩
abbrev o65_b_1 : Outs := [(.ret, ⟨[6], [.lf (.int .i64)], [some (.box true [.lf (.ptr 1 0), .lf (.gr (.pair (.int .i64) (.pair (.int .i64) (.int .i64))) 5), .lf (.int .i64), .lf (.int .i64)]), some (.box true [.lf (.sl (.int .u8)), .lf (.int .i64), .lf (.int .i64), .lf (.int .i64)]), none, some (.box true [.many (.int .i64) 16, .lf (.sl (.int .i64)), .lf (.sl (.int .i64)), .lf (.gr (.int .i64) 4)]), some (.arr true (.int .i64)), some (.arr true (.pair (.int .i64) (.pair (.int .i64) (.int .i64))))]⟩)]
noncomputable def b65_b_1 (x : g65_b_1.D) : Option (outD ((.normal, g65_b_1) :: o65_b_1)) :=
  (Option.bind (Go.Ev.Deflate.f71 (x.2.2.1, (x.2.2.2.1, (x.2.2.2.2.1, (x.2.2.2.2.2.1, Unit.unit))))) (fun y1 => (if ((y1.2.1 != (0 : Int)) = true) then (if ((List.length x.2.2.2.2.2.2.2.2.2.2.1) = (List.length x.2.2.2.2.2.2.2.2.2.2.1)) then (if ((List.length x.2.2.2.2.2.2.2.2.2.1) = (List.length x.2.2.2.2.2.2.2.2.2.1)) then (some (Sum.inr (Sum.inl (y1.2.1, (x.1, (x.2.1, (y1.2.2.1, (y1.2.2.2.1, (y1.2.2.2.2.1, (y1.2.2.2.2.2.1, (x.2.2.2.2.2.2.1, (x.2.2.2.2.2.2.2.1, (x.2.2.2.2.2.2.2.2.1, (x.2.2.2.2.2.2.2.2.2.1, (x.2.2.2.2.2.2.2.2.2.2.1, Unit.unit)))))))))))))))
   else none)
   else none)
   else (if ((y1.1 == (256 : Int)) = true) then (if ((List.length x.2.2.2.2.2.2.2.2.2.2.1) = (List.length x.2.2.2.2.2.2.2.2.2.2.1)) then (if ((List.length x.2.2.2.2.2.2.2.2.2.1) = (List.length x.2.2.2.2.2.2.2.2.2.1)) then (some (Sum.inr (Sum.inl ((0 : Int), (x.1, (x.2.1, (y1.2.2.1, (y1.2.2.2.1, (y1.2.2.2.2.1, (y1.2.2.2.2.2.1, (x.2.2.2.2.2.2.1, (x.2.2.2.2.2.2.2.1, (x.2.2.2.2.2.2.2.2.1, (x.2.2.2.2.2.2.2.2.2.1, (x.2.2.2.2.2.2.2.2.2.2.1, Unit.unit)))))))))))))))
   else none)
   else none)
   else (if ((decide (y1.1 > (285 : Int))) = true) then (if ((List.length x.2.2.2.2.2.2.2.2.2.2.1) = (List.length x.2.2.2.2.2.2.2.2.2.2.1)) then (if ((List.length x.2.2.2.2.2.2.2.2.2.1) = (List.length x.2.2.2.2.2.2.2.2.2.1)) then (some (Sum.inr (Sum.inl ((4 : Int), (x.1, (x.2.1, (y1.2.2.1, (y1.2.2.2.1, (y1.2.2.2.2.1, (y1.2.2.2.2.2.1, (x.2.2.2.2.2.2.1, (x.2.2.2.2.2.2.2.1, (x.2.2.2.2.2.2.2.2.1, (x.2.2.2.2.2.2.2.2.2.1, (x.2.2.2.2.2.2.2.2.2.2.1, Unit.unit)))))))))))))))
   else none)
   else none)
   else (if ((decide (y1.1 < (256 : Int))) = true) then (if ((List.length x.2.2.2.2.2.2.2.2.2.2.1) = (List.length x.2.2.2.2.2.2.2.2.2.2.1)) then (Option.bind (Go.Ev.Deflate.f64 (y1.1, ((0 : Int), ((0 : Int), (x.1, (x.2.1, (y1.2.2.1, (y1.2.2.2.1, (y1.2.2.2.2.1, (y1.2.2.2.2.2.1, (x.2.2.2.2.2.2.2.2.2.2.1, Unit.unit))))))))))) (fun y2 => (if ((y2.1 != (0 : Int)) = true) then (if ((List.length y2.2.2.2.2.2.2.2.1) = (List.length y2.2.2.2.2.2.2.2.1)) then (if ((List.length x.2.2.2.2.2.2.2.2.2.1) = (List.length x.2.2.2.2.2.2.2.2.2.1)) then (some (Sum.inr (Sum.inl (y2.1, (y2.2.1, (y2.2.2.1, (y2.2.2.2.1, (y2.2.2.2.2.1, (y2.2.2.2.2.2.1, (y2.2.2.2.2.2.2.1, (x.2.2.2.2.2.2.1, (x.2.2.2.2.2.2.2.1, (x.2.2.2.2.2.2.2.2.1, (x.2.2.2.2.2.2.2.2.2.1, (y2.2.2.2.2.2.2.2.1, Unit.unit)))))))))))))))
   else none)
   else none)
   else (if ((List.length y2.2.2.2.2.2.2.2.1) = (List.length y2.2.2.2.2.2.2.2.1)) then (if ((List.length x.2.2.2.2.2.2.2.2.2.1) = (List.length x.2.2.2.2.2.2.2.2.2.1)) then (some (Sum.inl (y2.2.1, (y2.2.2.1, (y2.2.2.2.1, (y2.2.2.2.2.1, (y2.2.2.2.2.2.1, (y2.2.2.2.2.2.2.1, (x.2.2.2.2.2.2.1, (x.2.2.2.2.2.2.2.1, (x.2.2.2.2.2.2.2.2.1, (x.2.2.2.2.2.2.2.2.2.1, (y2.2.2.2.2.2.2.2.1, Unit.unit)))))))))))))
   else none)
   else none))))
   else none)
   else (Option.bind (Go.Ev.Deflate.f72 (y1.1, Unit.unit)) (fun y2 => (Option.bind (Go.Ev.Deflate.f61 (y2.2.1, (y1.2.2.1, (y1.2.2.2.1, (y1.2.2.2.2.1, (y1.2.2.2.2.2.1, Unit.unit)))))) (fun y3 => (if ((y3.2.1 != (0 : Int)) = true) then (if ((List.length x.2.2.2.2.2.2.2.2.2.2.1) = (List.length x.2.2.2.2.2.2.2.2.2.2.1)) then (if ((List.length x.2.2.2.2.2.2.2.2.2.1) = (List.length x.2.2.2.2.2.2.2.2.2.1)) then (some (Sum.inr (Sum.inl (y3.2.1, (x.1, (x.2.1, (y3.2.2.1, (y3.2.2.2.1, (y3.2.2.2.2.1, (y3.2.2.2.2.2.1, (x.2.2.2.2.2.2.1, (x.2.2.2.2.2.2.2.1, (x.2.2.2.2.2.2.2.2.1, (x.2.2.2.2.2.2.2.2.2.1, (x.2.2.2.2.2.2.2.2.2.2.1, Unit.unit)))))))))))))))
   else none)
   else none)
   else (if ((List.length x.2.2.2.2.2.2.2.2.2.1) = (List.length x.2.2.2.2.2.2.2.2.2.1)) then (Option.bind (Go.Ev.Deflate.f71_b (x.2.2.2.2.2.2.1, (x.2.2.2.2.2.2.2.1, (x.2.2.2.2.2.2.2.2.1, (x.2.2.2.2.2.2.2.2.2.1, (y3.2.2.1, (y3.2.2.2.1, (y3.2.2.2.2.1, (y3.2.2.2.2.2.1, Unit.unit))))))))) (fun y4 => (if ((y4.2.1 != (0 : Int)) = true) then (if ((List.length x.2.2.2.2.2.2.2.2.2.2.1) = (List.length x.2.2.2.2.2.2.2.2.2.2.1)) then (if ((List.length y4.2.2.2.2.2.1) = (List.length y4.2.2.2.2.2.1)) then (some (Sum.inr (Sum.inl (y4.2.1, (x.1, (x.2.1, (y4.2.2.2.2.2.2.1, (y4.2.2.2.2.2.2.2.1, (y4.2.2.2.2.2.2.2.2.1, (y4.2.2.2.2.2.2.2.2.2.1, (y4.2.2.1, (y4.2.2.2.1, (y4.2.2.2.2.1, (y4.2.2.2.2.2.1, (x.2.2.2.2.2.2.2.2.2.2.1, Unit.unit)))))))))))))))
   else none)
   else none)
   else (if ((decide (y4.1 ≥ (30 : Int))) = true) then (if ((List.length x.2.2.2.2.2.2.2.2.2.2.1) = (List.length x.2.2.2.2.2.2.2.2.2.2.1)) then (if ((List.length y4.2.2.2.2.2.1) = (List.length y4.2.2.2.2.2.1)) then (some (Sum.inr (Sum.inl ((4 : Int), (x.1, (x.2.1, (y4.2.2.2.2.2.2.1, (y4.2.2.2.2.2.2.2.1, (y4.2.2.2.2.2.2.2.2.1, (y4.2.2.2.2.2.2.2.2.2.1, (y4.2.2.1, (y4.2.2.2.1, (y4.2.2.2.2.1, (y4.2.2.2.2.2.1, (x.2.2.2.2.2.2.2.2.2.2.1, Unit.unit)))))))))))))))
   else none)
   else none)
   else (Option.bind (Go.Ev.Deflate.f73 (y4.1, Unit.unit)) (fun y5 => (Option.bind (Go.Ev.Deflate.f61 (y5.2.1, (y4.2.2.2.2.2.2.1, (y4.2.2.2.2.2.2.2.1, (y4.2.2.2.2.2.2.2.2.1, (y4.2.2.2.2.2.2.2.2.2.1, Unit.unit)))))) (fun y6 => (if ((y6.2.1 != (0 : Int)) = true) then (if ((List.length x.2.2.2.2.2.2.2.2.2.2.1) = (List.length x.2.2.2.2.2.2.2.2.2.2.1)) then (if ((List.length y4.2.2.2.2.2.1) = (List.length y4.2.2.2.2.2.1)) then (some (Sum.inr (Sum.inl (y6.2.1, (x.1, (x.2.1, (y6.2.2.1, (y6.2.2.2.1, (y6.2.2.2.2.1, (y6.2.2.2.2.2.1, (y4.2.2.1, (y4.2.2.2.1, (y4.2.2.2.2.1, (y4.2.2.2.2.2.1, (x.2.2.2.2.2.2.2.2.2.2.1, Unit.unit)))))))))))))))
   else none)
   else none)
   else (if ((List.length x.2.2.2.2.2.2.2.2.2.2.1) = (List.length x.2.2.2.2.2.2.2.2.2.2.1)) then (Option.bind (Go.Ev.Deflate.f64 ((0 : Int), ((Go.IntKind.wrap Go.IntKind.i64 (y2.1 + y3.1)), ((Go.IntKind.wrap Go.IntKind.i64 (y5.1 + y6.1)), (x.1, (x.2.1, (y6.2.2.1, (y6.2.2.2.1, (y6.2.2.2.2.1, (y6.2.2.2.2.2.1, (x.2.2.2.2.2.2.2.2.2.2.1, Unit.unit))))))))))) (fun y7 => (if ((y7.1 != (0 : Int)) = true) then (if ((List.length y7.2.2.2.2.2.2.2.1) = (List.length y7.2.2.2.2.2.2.2.1)) then (if ((List.length y4.2.2.2.2.2.1) = (List.length y4.2.2.2.2.2.1)) then (some (Sum.inr (Sum.inl (y7.1, (y7.2.1, (y7.2.2.1, (y7.2.2.2.1, (y7.2.2.2.2.1, (y7.2.2.2.2.2.1, (y7.2.2.2.2.2.2.1, (y4.2.2.1, (y4.2.2.2.1, (y4.2.2.2.2.1, (y4.2.2.2.2.2.1, (y7.2.2.2.2.2.2.2.1, Unit.unit)))))))))))))))
   else none)
   else none)
   else (if ((List.length y7.2.2.2.2.2.2.2.1) = (List.length y7.2.2.2.2.2.2.2.1)) then (if ((List.length y4.2.2.2.2.2.1) = (List.length y4.2.2.2.2.2.1)) then (some (Sum.inl (y7.2.1, (y7.2.2.1, (y7.2.2.2.1, (y7.2.2.2.2.1, (y7.2.2.2.2.2.1, (y7.2.2.2.2.2.2.1, (y4.2.2.1, (y4.2.2.2.1, (y4.2.2.2.2.1, (y4.2.2.2.2.2.1, (y7.2.2.2.2.2.2.2.1, Unit.unit)))))))))))))
   else none)
   else none))))
   else none))))))))))
   else none))))))))))))
theorem b65_b_1_eq (x : g65_b_1.D) : b65_b_1 x = evF P (T73.orc _) Go.Proofs.Try.f65.ntmps fx65_b (Code.at [true, false, false] c65) (planAt 64 []) g65_b_1 x (injK fx65_b ((.normal, g65_b_1) :: o65_b_1) some) := by kernel_rfl
noncomputable def l65_b_1 : g65_b_1.D → Option (outD o65_b_1) := loopN g65_b_1 o65_b_1 b65_b_1 18446744073709551616
theorem at65_b_1 : Code.at [true, false] c65 = .loop (Code.at [true, false, false] c65) := by kernel_rfl
theorem s65_b_1_ok : SubOk P Go.Proofs.Try.f65.ntmps fx65_b (Code.at [true, false] c65) ⟨g65_b_1, o65_b_1, l65_b_1⟩ := by
  rw [at65_b_1]
  exact loop_ok (sub_ok (g := g65_b_1) (outs := ((.normal, g65_b_1) :: o65_b_1)) (f := b65_b_1) (Table.ok T73_ok _) hmix (planAt_ok (P := P) (n := Go.Proofs.Try.f65.ntmps) (fx := fx65_b) (c := (Code.at [true, false, false] c65)) (d := 64) (l := []) trivial) b65_b_1_eq) rfl _
noncomputable def f65_b (x : gi65_b.D) : Option go65_b.D :=
  (if ((List.length x.2.2.2.2.2.2.1) = (List.length x.2.2.2.2.2.2.1)) then (if ((List.length x.2.2.2.2.2.2.2.2.2.2.1) = (List.length x.2.2.2.2.2.2.2.2.2.2.1)) then (Option.bind (Go.Ev.Deflate.l65_b_1 (x.1, (x.2.1, (x.2.2.1, (x.2.2.2.1, (x.2.2.2.2.1, (x.2.2.2.2.2.1, (x.2.2.2.2.2.2.2.1, (x.2.2.2.2.2.2.2.2.1, (x.2.2.2.2.2.2.2.2.2.1, (x.2.2.2.2.2.2.2.2.2.2.1, (x.2.2.2.2.2.2.1, Unit.unit)))))))))))) (Sum.elim (fun y1 => (if ((List.length y1.2.2.2.2.2.2.2.2.2.2.2.1) = (List.length y1.2.2.2.2.2.2.2.2.2.2.2.1)) then (if ((List.length y1.2.2.2.2.2.2.2.2.2.2.1) = (List.length y1.2.2.2.2.2.2.2.2.2.2.1)) then (some (y1.1, (y1.2.1, (y1.2.2.1, (y1.2.2.2.1, (y1.2.2.2.2.1, (y1.2.2.2.2.2.1, (y1.2.2.2.2.2.2.1, (y1.2.2.2.2.2.2.2.1, (y1.2.2.2.2.2.2.2.2.1, (y1.2.2.2.2.2.2.2.2.2.1, (y1.2.2.2.2.2.2.2.2.2.2.1, (y1.2.2.2.2.2.2.2.2.2.2.2.1, Unit.unit)))))))))))))
   else none)
   else none)) Empty.elim))
   else none)
   else none)
theorem f65_b_eq (x : gi65_b.D) : f65_b x = evF P (T73.orc _) Go.Proofs.Try.f65.ntmps fx65_b c65 (planAt 64 [([true, false], ⟨g65_b_1, o65_b_1, l65_b_1⟩)]) gi65_b x (fnK fx65_b [go65_b]) := by kernel_rfl
theorem pf65_b : AllSub P Go.Proofs.Try.f65.ntmps fx65_b c65 [([true, false], ⟨g65_b_1, o65_b_1, l65_b_1⟩)] := And.intro s65_b_1_ok (trivial)
theorem qf65_b : PlanOk P Go.Proofs.Try.f65.ntmps fx65_b (planAt 64 [([true, false], ⟨g65_b_1, o65_b_1, l65_b_1⟩)]) c65 := planAt_ok pf65_b
theorem f65_b_ok : EntOk P 65 ⟨gi65_b, [go65_b], f65_b⟩ :=
  ent_ok (fn := Go.Proofs.Try.f65) (gi := gi65_b) (gos := [go65_b]) (f := f65_b) (c := c65) (fx := fx65_b) ⟨Go.Proofs.Try.func65, by kernel_rfl, rfl, by decide +kernel, rfl, rfl⟩ (by kernel_rfl) (Table.ok T73_ok _) hmix (qf65_b) f65_b_eq
abbrev gi65_c : Sg := ⟨[0, 1, 2], [.lf (.ptr 0 0), .lf (.ptr 3 0), .lf .nilp], [some (.box true [.lf (.ptr 1 0), .lf (.gr (.pair (.int .i64) (.pair (.int .i64) (.int .i64))) 2), .lf (.int .i64), .lf (.int .i64)]), some (.box true [.lf (.sl (.int .u8)), .lf (.int .i64), .lf (.int .i64), .lf (.int .i64)]), some (.arr true (.pair (.int .i64) (.pair (.int .i64) (.int .i64)))), some (.box true [.many (.int .i64) 16, .lf (.sl (.int .i64)), .lf (.sl (.int .i64)), .lf (.gr (.int .i64) 4)]), some (.arr true (.int .i64))]⟩
abbrev go65_c : Sg := ⟨[6], [.lf (.int .i64)], [some (.box true [.lf (.ptr 1 0), .lf (.gr (.pair (.int .i64) (.pair (.int .i64) (.int .i64))) 5), .lf (.int .i64), .lf (.int .i64)]), some (.box true [.lf (.sl (.int .u8)), .lf (.int .i64), .lf (.int .i64), .lf (.int .i64)]), none, some (.box true [.many (.int .i64) 16, .lf (.sl (.int .i64)), .lf (.sl (.int .i64)), .lf (.gr (.int .i64) 4)]), some (.arr true (.int .i64)), some (.arr true (.pair (.int .i64) (.pair (.int .i64) (.int .i64))))]⟩
def fx65_c : List Bool := [true, true, false, true, true]
abbrev g65_c_1 : Sg := ⟨[0, 1, 2], [.lf (.ptr 0 0), .lf (.ptr 3 0), .lf .nilp], [some (.box true [.lf (.ptr 1 0), .lf (.gr (.pair (.int .i64) (.pair (.int .i64) (.int .i64))) 5), .lf (.int .i64), .lf (.int .i64)]), some (.box true [.lf (.sl (.int .u8)), .lf (.int .i64), .lf (.int .i64), .lf (.int .i64)]), none, some (.box true [.many (.int .i64) 16, .lf (.sl (.int .i64)), .lf (.sl (.int .i64)), .lf (.gr (.int .i64) 4)]), some (.arr true (.int .i64)), some (.arr true (.pair (.int .i64) (.pair (.int .i64) (.int .i64))))]⟩
abbrev o65_c_1 : Outs := [(.ret, ⟨[6], [.lf (.int .i64)], [some (.box true [.lf (.ptr 1 0), .lf (.gr (.pair (.int .i64) (.pair (.int .i64) (.int .i64))) 5), .lf (.int .i64), .lf (.int .i64)]), some (.box true [.lf (.sl (.int .u8)), .lf (.int .i64), .lf (.int .i64), .lf (.int .i64)]), none, some (.box true [.many (.int .i64) 16, .lf (.sl (.int .i64)), .lf (.sl (.int .i64)), .lf (.gr (.int .i64) 4)]), some (.arr true (.int .i64)), some (.arr true (.pair (.int .i64) (.pair (.int .i64) (.int .i64))))]⟩)]
noncomputable def b65_c_1 (x : g65_c_1.D) : Option (outD ((.normal, g65_c_1) :: o65_c_1)) :=
  (if ((List.length x.2.2.2.2.2.2.2.2.2.1) = (List.length x.2.2.2.2.2.2.2.2.2.1)) then (Option.bind (Go.Ev.Deflate.f71_b (x.2.2.2.2.2.2.1, (x.2.2.2.2.2.2.2.1, (x.2.2.2.2.2.2.2.2.1, (x.2.2.2.2.2.2.2.2.2.1, (x.2.2.1, (x.2.2.2.1, (x.2.2.2.2.1, (x.2.2.2.2.2.1, Unit.unit))))))))) (fun y1 => (if ((y1.2.1 != (0 : Int)) = true) then (if ((List.length x.2.2.2.2.2.2.2.2.2.2.1) = (List.length x.2.2.2.2.2.2.2.2.2.2.1)) then (if ((List.length y1.2.2.2.2.2.1) = (List.length y1.2.2.2.2.2.1)) then (some (Sum.inr (Sum.inl (y1.2.1, (x.1, (x.2.1, (y1.2.2.2.2.2.2.1, (y1.2.2.2.2.2.2.2.1, (y1.2.2.2.2.2.2.2.2.1, (y1.2.2.2.2.2.2.2.2.2.1, (y1.2.2.1, (y1.2.2.2.1, (y1.2.2.2.2.1, (y1.2.2.2.2.2.1, (x.2.2.2.2.2.2.2.2.2.2.1, Unit.unit)))))))))))))))
   else none)
   else none)
   else (if ((y1.1 == (256 : Int)) = true) then (if ((List.length x.2.2.2.2.2.2.2.2.2.2.1) = (List.length x.2.2.2.2.2.2.2.2.2.2.1)) then (if ((List.length y1.2.2.2.2.2.1) = (List.length y1.2.2.2.2.2.1)) then (some (Sum.inr (Sum.inl ((0 : Int), (x.1, (x.2.1, (y1.2.2.2.2.2.2.1, (y1.2.2.2.2.2.2.2.1, (y1.2.2.2.2.2.2.2.2.1, (y1.2.2.2.2.2.2.2.2.2.1, (y1.2.2.1, (y1.2.2.2.1, (y1.2.2.2.2.1, (y1.2.2.2.2.2.1, (x.2.2.2.2.2.2.2.2.2.2.1, Unit.unit)))))))))))))))
   else none)
   else none)
   else (if ((decide (y1.1 > (285 : Int))) = true) then (if ((List.length x.2.2.2.2.2.2.2.2.2.2.1) = (List.length x.2.2.2.2.2.2.2.2.2.2.1)) then (if ((List.length y1.2.2.2.2.2.1) = (List.length y1.2.2.2.2.2.1)) then (some (Sum.inr (Sum.inl ((4 : Int), (x.1, (x.2.1, (y1.2.2.2.2.2.2.1, (y1.2.2.2.2.2.2.2.1, (y1.2.2.2.2.2.2.2.2.1, (y1.2.2.2.2.2.2.2.2.2.1, (y1.2.2.1, (y1.2.2.2.1, (y1.2.2.2.2.1, (y1.2.2.2.2.2.1, (x.2.2.2.2.2.2.2.2.2.2.1, Unit.unit)))))))))))))))
   else none)
   else none)
   else (if ((decide (y1.1 < (256 : Int))) = true) then (if ((List.length x.2.2.2.2.2.2.2.2.2.2.1) = (List.length x.2.2.2.2.2.2.2.2.2.2.1)) then (Option.bind (Go.Ev.Deflate.f64 (y1.1, ((0 : Int), ((0 : Int), (x.1, (x.2.1, (y1.2.2.2.2.2.2.1, (y1.2.2.2.2.2.2.2.1, (y1.2.2.2.2.2.2.2.2.1, (y1.2.2.2.2.2.2.2.2.2.1, (x.2.2.2.2.2.2.2.2.2.2.1, Unit.unit))))))))))) (fun y2 => (if ((y2.1 != (0 : Int)) = true) then (if ((List.length y2.2.2.2.2.2.2.2.1) = (List.length y2.2.2.2.2.2.2.2.1)) then (if ((List.length y1.2.2.2.2.2.1) = (List.length y1.2.2.2.2.2.1)) then (some (Sum.inr (Sum.inl (y2.1, (y2.2.1, (y2.2.2.1, (y2.2.2.2.1, (y2.2.2.2.2.1, (y2.2.2.2.2.2.1, (y2.2.2.2.2.2.2.1, (y1.2.2.1, (y1.2.2.2.1, (y1.2.2.2.2.1, (y1.2.2.2.2.2.1, (y2.2.2.2.2.2.2.2.1, Unit.unit)))))))))))))))
   else none)
   else none)
   else (if ((List.length y2.2.2.2.2.2.2.2.1) = (List.length y2.2.2.2.2.2.2.2.1)) then (if ((List.length y1.2.2.2.2.2.1) = (List.length y1.2.2.2.2.2.1)) then (some (Sum.inl (y2.2.1, (y2.2.2.1, (y2.2.2.2.1, (y2.2.2.2.2.1, (y2.2.2.2.2.2.1, (y2.2.2.2.2.2.2.1, (y1.2.2.1, (y1.2.2.2.1, (y1.2.2.2.2.1, (y1.2.2.2.2.2.1, (y2.2.2.2.2.2.2.2.1, Unit.unit)))))))))))))
   else none)
   else none))))
   else none)
   else (Option.bind (Go.Ev.Deflate.f72 (y1.1, Unit.unit)) (fun y2 => (Option.bind (Go.Ev.Deflate.f61 (y2.2.1, (y1.2.2.2.2.2.2.1, (y1.2.2.2.2.2.2.2.1, (y1.2.2.2.2.2.2.2.2.1, (y1.2.2.2.2.2.2.2.2.2.1, Unit.unit)))))) (fun y3 => (if ((y3.2.1 != (0 : Int)) = true) then (if ((List.length x.2.2.2.2.2.2.2.2.2.2.1) = (List.length x.2.2.2.2.2.2.2.2.2.2.1)) then (if ((List.length y1.2.2.2.2.2.1) = (List.length y1.2.2.2.2.2.1)) then (some (Sum.inr (Sum.inl (y3.2.1, (x.1, (x.2.1, (y3.2.2.1, (y3.2.2.2.1, (y3.2.2.2.2.1, (y3.2.2.2.2.2.1, (y1.2.2.1, (y1.2.2.2.1, (y1.2.2.2.2.1, (y1.2.2.2.2.2.1, (x.2.2.2.2.2.2.2.2.2.2.1, Unit.unit)))))))))))))))
   else none)
   else none)
   else (Option.bind (Go.Ev.Deflate.f71 (y3.2.2.1, (y3.2.2.2.1, (y3.2.2.2.2.1, (y3.2.2.2.2.2.1, Unit.unit))))) (fun y4 => (if ((y4.2.1 != (0 : Int)) = true) then (if ((List.length x.2.2.2.2.2.2.2.2.2.2.1) = (List.length x.2.2.2.2.2.2.2.2.2.2.1)) then (if ((List.length y1.2.2.2.2.2.1) = (List.length y1.2.2.2.2.2.1)) then (some (Sum.inr (Sum.inl (y4.2.1, (x.1, (x.2.1, (y4.2.2.1, (y4.2.2.2.1, (y4.2.2.2.2.1, (y4.2.2.2.2.2.1, (y1.2.2.1, (y1.2.2.2.1, (y1.2.2.2.2.1, (y1.2.2.2.2.2.1, (x.2.2.2.2.2.2.2.2.2.2.1, Unit.unit)))))))))))))))
   else none)
   else none)
   else (if ((decide (y4.1 ≥ (30 : Int))) = true) then (if ((List.length x.2.2.2.2.2.2.2.2.2.2.1) = (List.length x.2.2.2.2.2.2.2.2.2.2.1)) then (if ((List.length y1.2.2.2.2.2.1) = (List.length y1.2.2.2.2.2.1)) then (some (Sum.inr (Sum.inl ((4 : Int), (x.1, (x.2.1, (y4.2.2.1, (y4.2.2.2.1, (y4.2.2.2.2.1, (y4.2.2.2.2.2.1, (y1.2.2.1, (y1.2.2.2.1, (y1.2.2.2.2.1, (y1.2.2.2.2.2.1, (x.2.2.2.2.2.2.2.2.2.2.1, Unit.unit)))))))))))))))
   else none)
   else none)
   else (Option.bind (Go.Ev.Deflate.f73 (y4.1, Unit.unit)) (fun y5 => (Option.bind (Go.Ev.Deflate.f61 (y5.2.1, (y4.2.2.1, (y4.2.2.2.1, (y4.2.2.2.2.1, (y4.2.2.2.2.2.1, Unit.unit)))))) (fun y6 => (if ((y6.2.1 != (0 : Int)) = true) then (if ((List.length x.2.2.2.2.2.2.2.2.2.2.1) = (List.length x.2.2.2.2.2.2.2.2.2.2.1)) then (if ((List.length y1.2.2.2.2.2.1) = (List.length y1.2.2.2.2.2.1)) then (some (Sum.inr (Sum.inl (y6.2.1, (x.1, (x.2.1, (y6.2.2.1, (y6.2.2.2.1, (y6.2.2.2.2.1, (y6.2.2.2.2.2.1, (y1.2.2.1, (y1.2.2.2.1, (y1.2.2.2.2.1, (y1.2.2.2.2.2.1, (x.2.2.2.2.2.2.2.2.2.2.1, Unit.unit)))))))))))))))
   else none)
   else none)
   else (if ((List.length x.2.2.2.2.2.2.2.2.2.2.1) = (List.length x.2.2.2.2.2.2.2.2.2.2.1)) then (Option.bind (Go.Ev.Deflate.f64 ((0 : Int), ((Go.IntKind.wrap Go.IntKind.i64 (y2.1 + y3.1)), ((Go.IntKind.wrap Go.IntKind.i64 (y5.1 + y6.1)), (x.1, (x.2.1, (y6.2.2.1, (y6.2.2.2.1, (y6.2.2.2.2.1, (y6.2.2.2.2.2.1, (x.2.2.2.2.2.2.2.2.2.2.1, Unit.unit))))))))))) (fun y7 => (if ((y7.1 != (0 : Int)) = true) then (if ((List.length y7.2.2.2.2.2.2.2.1) = (List.length y7.2.2.2.2.2.2.2.1)) then (if ((List.length y1.2.2.2.2.2.1) = (List.length y1.2.2.2.2.2.1)) then (some (Sum.inr (Sum.inl (y7.1, (y7.2.1, (y7.2.2.1, (y7.2.2.2.1, (y7.2.2.2.2.1, (y7.2.2.2.2.2.1, (y7.2.2.2.2.2.2.1, (y1.2.2.1, (y1.2.2.2.1, (y1.2.2.2.2.1, (y1.2.2.2.2.2.1, (y7.2.2.2.2.2.2.2.1, Unit.unit)))))))))))))))
   else none)
   else none)
   else (if ((List.length y7.2.2.2.2.2.2.2.1) = (List.length y7.2.2.2.2.2.2.2.1)) then (if ((List.length y1.2.2.2.2.2.1) = (List.length y1.2.2.2.2.2.1)) then (some (Sum.inl (y7.2.1, (y7.2.2.1, (y7.2.2.2.1, (y7.2.2.2.2.1, (y7.2.2.2.2.2.1, (y7.2.2.2.2.2.2.1, (y1.2.2.1, (y1.2.2.2.1, (y1.2.2.2.2.1, (y1.2.2.2.2.2.1, (y7.2.2.2.2.2.2.2.1, Unit.unit)))))))))))))
   else none)
   else none))))
   else none)))))))))))))))))))))
   else none)
theorem b65_c_1_eq (x : g65_c_1.D) : b65_c_1 x = evF P (T73.orc _) Go.Proofs.Try.f65.ntmps fx65_c (Code.at [true, false, false] c65) (planAt 64 []) g65_c_1 x (injK fx65_c ((.normal, g65_c_1) :: o65_c_1) some) := by kernel_rfl
noncomputable def l65_c_1 : g65_c_1.D → Option (outD o65_c_1) := loopN g65_c_1 o65_c_1 b65_c_1 18446744073709551616
theorem at65_c_1 : Code.at [true, false] c65 = .loop (Code.at [true, false, false] c65) := by kernel_rfl
theorem s65_c_1_ok : SubOk P Go.Proofs.Try.f65.ntmps fx65_c (Code.at [true, false] c65) ⟨g65_c_1, o65_c_1, l65_c_1⟩ := by
  rw [at65_c_1]
  exact loop_ok (sub_ok (g := g65_c_1) (outs := ((.normal, g65_c_1) :: o65_c_1)) (f := b65_c_1) (Table.ok T73_ok _) hmix (planAt_ok (P := P) (n := Go.Proofs.Try.f65.ntmps) (fx := fx65_c) (c := (Code.at [true, false, false] c65)) (d := 64) (l := []) trivial) b65_c_1_eq) rfl _
noncomputable def f65_c (x : gi65_c.D) : Option go65_c.D :=
  (if ((List.length x.2.2.2.2.2.2.1) = (List.length x.2.2.2.2.2.2.1)) then (if ((List.length x.2.2.2.2.2.2.2.2.2.2.1) = (List.length x.2.2.2.2.2.2.2.2.2.2.1)) then (Option.bind (Go.Ev.Deflate.l65_c_1 (x.1, (x.2.1, (x.2.2.1, (x.2.2.2.1, (x.2.2.2.2.1, (x.2.2.2.2.2.1, (x.2.2.2.2.2.2.2.1, (x.2.2.2.2.2.2.2.2.1, (x.2.2.2.2.2.2.2.2.2.1, (x.2.2.2.2.2.2.2.2.2.2.1, (x.2.2.2.2.2.2.1, Unit.unit)))))))))))) (Sum.elim (fun y1 => (if ((List.length y1.2.2.2.2.2.2.2.2.2.2.2.1) = (List.length y1.2.2.2.2.2.2.2.2.2.2.2.1)) then (if ((List.length y1.2.2.2.2.2.2.2.2.2.2.1) = (List.length y1.2.2.2.2.2.2.2.2.2.2.1)) then (some (y1.1, (y1.2.1, (y1.2.2.1, (y1.2.2.2.1, (y1.2.2.2.2.1, (y1.2.2.2.2.2.1, (y1.2.2.2.2.2.2.1, (y1.2.2.2.2.2.2.2.1, (y1.2.2.2.2.2.2.2.2.1, (y1.2.2.2.2.2.2.2.2.2.1, (y1.2.2.2.2.2.2.2.2.2.2.1, (y1.2.2.2.2.2.2.2.2.2.2.2.1, Unit.unit)))))))))))))
   else none)
   else none)) Empty.elim))
   else none)
   else none)
theorem f65_c_eq (x : gi65_c.D) : f65_c x = evF P (T73.orc _) Go.Proofs.Try.f65.ntmps fx65_c c65 (planAt 64 [([true, false], ⟨g65_c_1, o65_c_1, l65_c_1⟩)]) gi65_c x (fnK fx65_c [go65_c]) := by kernel_rfl
theorem pf65_c : AllSub P Go.Proofs.Try.f65.ntmps fx65_c c65 [([true, false], ⟨g65_c_1, o65_c_1, l65_c_1⟩)] := And.intro s65_c_1_ok (trivial)
theorem qf65_c : PlanOk P Go.Proofs.Try.f65.ntmps fx65_c (planAt 64 [([true, false], ⟨g65_c_1, o65_c_1, l65_c_1⟩)]) c65 := planAt_ok pf65_c
theorem f65_c_ok : EntOk P 65 ⟨gi65_c, [go65_c], f65_c⟩ :=
  ent_ok (fn := Go.Proofs.Try.f65) (gi := gi65_c) (gos := [go65_c]) (f := f65_c) (c := c65) (fx := fx65_c) ⟨Go.Proofs.Try.func65, by kernel_rfl, rfl, by decide +kernel, rfl, rfl⟩ (by kernel_rfl) (Table.ok T73_ok _) hmix (qf65_c) f65_c_eq
abbrev gi65_d : Sg := ⟨[0, 1, 2], [.lf (.ptr 0 0), .lf (.ptr 3 0), .lf (.ptr 5 0)], [some (.box true [.lf (.ptr 1 0), .lf (.gr (.pair (.int .i64) (.pair (.int .i64) (.int .i64))) 2), .lf (.int .i64), .lf (.int .i64)]), some (.box true [.lf (.sl (.int .u8)), .lf (.int .i64), .lf (.int .i64), .lf (.int .i64)]), some (.arr true (.pair (.int .i64) (.pair (.int .i64) (.int .i64)))), some (.box true [.many (.int .i64) 16, .lf (.sl (.int .i64)), .lf (.sl (.int .i64)), .lf (.gr (.int .i64) 4)]), some (.arr true (.int .i64)), some (.box true [.many (.int .i64) 16, .lf (.sl (.int .i64)), .lf (.sl (.int .i64)), .lf (.gr (.int .i64) 6)]), some (.arr true (.int .i64))]⟩
abbrev go65_d : Sg := ⟨[6], [.lf (.int .i64)], [some (.box true [.lf (.ptr 1 0), .lf (.gr (.pair (.int .i64) (.pair (.int .i64) (.int .i64))) 7), .lf (.int .i64), .lf (.int .i64)]), some (.box true [.lf (.sl (.int .u8)), .lf (.int .i64), .lf (.int .i64), .lf (.int .i64)]), none, some (.box true [.many (.int .i64) 16, .lf (.sl (.int .i64)), .lf (.sl (.int .i64)), .lf (.gr (.int .i64) 4)]), some (.arr true (.int .i64)), some (.box true [.many (.int .i64) 16, .lf (.sl (.int .i64)), .lf (.sl (.int .i64)), .lf (.gr (.int .i64) 6)]), some (.arr true (.int .i64)), some (.arr true (.pair (.int .i64) (.pair (.int .i64) (.int .i64))))]⟩
def fx65_d : List Bool := [true, true, false, true, true, true, true]
abbrev g65_d_1 : Sg := ⟨[0, 1, 2], [.lf (.ptr 0 0), .lf (.ptr 3 0), .lf (.ptr 5 0)], [some (.box true [.lf (.ptr 1 0), .lf (.gr (.pair (.int .i64) (.pair (.int .i64) (.int .i64))) 7), .lf (.int .i64), .lf (.int .i64)]), some (.box true [.lf (.sl (.int .u8)), .lf (.int .i64), .lf (.int .i64), .lf (.int .i64)]), none, some (.box true [.many (.int .i64) 16, .lf (.sl (.int .i64)), .lf (.sl (.int .i64)), .lf (.gr (.int .i64) 4)]), some (.arr true (.int .i64)), some (.box true [.many (.int .i64) 16, .lf (.sl (.int .i64)), .lf (.sl (.int .i64)), .lf (.gr (.int .i64) 6)]), some (.arr true (.int .i64)), some (.arr true (.pair (.int .i64) (.pair (.int .i64) (.int .i64))))]⟩
abbrev o65_d_1 : Outs := [(.ret, ⟨[6], [.lf (.int .i64)], [some (.box true [.lf (.ptr 1 0), .lf (.gr (.pair (.int .i64) (.pair (.int .i64) (.int .i64))) 7), .lf (.int .i64), .lf (.int .i64)]), some (.box true [.lf (.sl (.int .u8)), .lf (.int .i64), .lf (.int .i64), .lf (.int .i64)]), none, some (.box true [.many (.int .i64) 16, .lf (.sl (.int .i64)), .lf (.sl (.int .i64)), .lf (.gr (.int .i64) 4)]), some (.arr true (.int .i64)), some (.box true [.many (.int .i64) 16, .lf (.sl (.int .i64)), .lf (.sl (.int .i64)), .lf (.gr (.int .i64) 6)]), some (.arr true (.int .i64)), some (.arr true (.pair (.int .i64) (.pair (.int .i64) (.int .i64))))]⟩)]
noncomputable def b65_d_1 (x : g65_d_1.D) : Option (outD ((.normal, g65_d_1) :: o65_d_1)) :=
  (if ((List.length x.2.2.2.2.2.2.2.2.2.1) = (List.length x.2.2.2.2.2.2.2.2.2.1)) then (Option.bind (Go.Ev.Deflate.f71_b (x.2.2.2.2.2.2.1, (x.2.2.2.2.2.2.2.1, (x.2.2.2.2.2.2.2.2.1, (x.2.2.2.2.2.2.2.2.2.1, (x.2.2.1, (x.2.2.2.1, (x.2.2.2.2.1, (x.2.2.2.2.2.1, Unit.unit))))))))) (fun y1 => (if ((y1.2.1 != (0 : Int)) = true) then (if ((List.length x.2.2.2.2.2.2.2.2.2.2.2.2.2.2.1) = (List.length x.2.2.2.2.2.2.2.2.2.2.2.2.2.2.1)) then (if ((List.length y1.2.2.2.2.2.1) = (List.length y1.2.2.2.2.2.1)) then (if ((List.length x.2.2.2.2.2.2.2.2.2.2.2.2.2.1) = (List.length x.2.2.2.2.2.2.2.2.2.2.2.2.2.1)) then (some (Sum.inr (Sum.inl (y1.2.1, (x.1, (x.2.1, (y1.2.2.2.2.2.2.1, (y1.2.2.2.2.2.2.2.1, (y1.2.2.2.2.2.2.2.2.1, (y1.2.2.2.2.2.2.2.2.2.1, (y1.2.2.1, (y1.2.2.2.1, (y1.2.2.2.2.1, (y1.2.2.2.2.2.1, (x.2.2.2.2.2.2.2.2.2.2.1, (x.2.2.2.2.2.2.2.2.2.2.2.1, (x.2.2.2.2.2.2.2.2.2.2.2.2.1, (x.2.2.2.2.2.2.2.2.2.2.2.2.2.1, (x.2.2.2.2.2.2.2.2.2.2.2.2.2.2.1, Unit.unit)))))))))))))))))))
   else none)
   else none)
   else none)
   else (if ((y1.1 == (256 : Int)) = true) then (if ((List.length x.2.2.2.2.2.2.2.2.2.2.2.2.2.2.1) = (List.length x.2.2.2.2.2.2.2.2.2.2.2.2.2.2.1)) then (if ((List.length y1.2.2.2.2.2.1) = (List.length y1.2.2.2.2.2.1)) then (if ((List.length x.2.2.2.2.2.2.2.2.2.2.2.2.2.1) = (List.length x.2.2.2.2.2.2.2.2.2.2.2.2.2.1)) then (some (Sum.inr (Sum.inl ((0 : Int), (x.1, (x.2.1, (y1.2.2.2.2.2.2.1, (y1.2.2.2.2.2.2.2.1, (y1.2.2.2.2.2.2.2.2.1, (y1.2.2.2.2.2.2.2.2.2.1, (y1.2.2.1, (y1.2.2.2.1, (y1.2.2.2.2.1, (y1.2.2.2.2.2.1, (x.2.2.2.2.2.2.2.2.2.2.1, (x.2.2.2.2.2.2.2.2.2.2.2.1, (x.2.2.2.2.2.2.2.2.2.2.2.2.1, (x.2.2.2.2.2.2.2.2.2.2.2.2.2.1, (x.2.2.2.2.2.2.2.2.2.2.2.2.2.2.1, Unit.unit)))))))))))))))))))
   else none)
   else none)
   else none)
   else (if ((decide (y1.1 > (285 : Int))) = true) then (if ((List.length x.2.2.2.2.2.2.2.2.2.2.2.2.2.2.1) = (List.length x.2.2.2.2.2.2.2.2.2.2.2.2.2.2.1)) then (if ((List.length y1.2.2.2.2.2.1) = (List.length y1.2.2.2.2.2.1)) then (if ((List.length x.2.2.2.2.2.2.2.2.2.2.2.2.2.1) = (List.length x.2.2.2.2.2.2.2.2.2.2.2.2.2.1)) then (some (Sum.inr (Sum.inl ((4 : Int), (x.1, (x.2.1, (y1.2.2.2.2.2.2.1, (y1.2.2.2.2.2.2.2.1, (y1.2.2.2.2.2.2.2.2.1, (y1.2.2.2.2.2.2.2.2.2.1, (y1.2.2.1, (y1.2.2.2.1, (y1.2.2.2.2.1, (y1.2.2.2.2.2.1, (x.2.2.2.2.2.2.2.2.2.2.1, (x.2.2.2.2.2.2.2.2.2.2.2.1, (x.2.2.2.2.2.2.2.2.2.2.2.2.1, (x.2.2.2.2.2.2.2.2.2.2.2.2.2.1, (x.2.2.2.2.2.2.2.2.2.2.2.2.2.2.1, Unit.unit)))))))))))))))))))
   else none)
   else none)
   else none)
   else (if ((decide (y1.1 < (256 : Int))) = true) then (if ((List.length x.2.2.2.2.2.2.2.2.2.2.2.2.2.2.1) = (List.length x.2.2.2.2.2.2.2.2.2.2.2.2.2.2.1)) then (Option.bind (Go.Ev.Deflate.f64 (y1.1, ((0 : Int), ((0 : Int), (x.1, (x.2.1, (y1.2.2.2.2.2.2.1, (y1.2.2.2.2.2.2.2.1, (y1.2.2.2.2.2.2.2.2.1, (y1.2.2.2.2.2.2.2.2.2.1, (x.2.2.2.2.2.2.2.2.2.2.2.2.2.2.1, Unit.unit))))))))))) (fun y2 => (if ((y2.1 != (0 : Int)) = true) then (if ((List.length y2.2.2.2.2.2.2.2.1) = (List.length y2.2.2.2.2.2.2.2.1)) then (if ((List.length y1.2.2.2.2.2.1) = (List.length y1.2.2.2.2.2.1)) then (if ((List.length x.2.2.2.2.2.2.2.2.2.2.2.2.2.1) = (List.length x.2.2.2.2.2.2.2.2.2.2.2.2.2.1)) then (some (Sum.inr (Sum.inl (y2.1, (y2.2.1, (y2.2.2.1, (y2.2.2.2.1, (y2.2.2.2.2.1, (y2.2.2.2.2.2.1, (y2.2.2.2.2.2.2.1, (y1.2.2.1, (y1.2.2.2.1, (y1.2.2.2.2.1, (y1.2.2.2.2.2.1, (x.2.2.2.2.2.2.2.2.2.2.1, (x.2.2.2.2.2.2.2.2.2.2.2.1, (x.2.2.2.2.2.2.2.2.2.2.2.2.1, (x.2.2.2.2.2.2.2.2.2.2.2.2.2.1, (y2.2.2.2.2.2.2.2.1, Unit.unit)))))))))))))))))))
   else none)
   else none)
   else none)
   else (if ((List.length y2.2.2.2.2.2.2.2.1) = (List.length y2.2.2.2.2.2.2.2.1)) then (if ((List.length y1.2.2.2.2.2.1) = (List.length y1.2.2.2.2.2.1)) then (if ((List.length x.2.2.2.2.2.2.2.2.2.2.2.2.2.1) = (List.length x.2.2.2.2.2.2.2.2.2.2.2.2.2.1)) then (some (Sum.inl (y2.2.1, (y2.2.2.1, (y2.2.2.2.1, (y2.2.2.2.2.1, (y2.2.2.2.2.2.1, (y2.2.2.2.2.2.2.1, (y1.2.2.1, (y1.2.2.2.1, (y1.2.2.2.2.1, (y1.2.2.2.2.2.1, (x.2.2.2.2.2.2.2.2.2.2.1, (x.2.2.2.2.2.2.2.2.2.2.2.1, (x.2.2.2.2.2.2.2.2.2.2.2.2.1, (x.2.2.2.2.2.2.2.2.2.2.2.2.2.1, (y2.2.2.2.2.2.2.2.1, Unit.unit)))))))))))))))))
   else none)
   else none)
   else none))))
   else none)
   else (Option.bind (Go.Ev.Deflate.f72 (y1.1, Unit.unit)) (fun y2 => (Option.bind (Go.Ev.Deflate.f61 (y2.2.1, (y1.2.2.2.2.2.2.1, (y1.2.2.2.2.2.2.2.1, (y1.2.2.2.2.2.2.2.2.1, (y1.2.2.2.2.2.2.2.2.2.1, Unit.unit)))))) (fun y3 => (if ((y3.2.1 != (0 : Int)) = true) then (if ((List.length x.2.2.2.2.2.2.2.2.2.2.2.2.2.2.1) = (List.length x.2.2.2.2.2.2.2.2.2.2.2.2.2.2.1)) then (if ((List.length y1.2.2.2.2.2.1) = (List.length y1.2.2.2.2.2.1)) then (if ((List.length x.2.2.2.2.2.2.2.2.2.2.2.2.2.1) = (List.length x.2.2.2.2.2.2.2.2.2.2.2.2.2.1)) then (some (Sum.inr (Sum.inl (y3.2.1, (x.1, (x.2.1, (y3.2.2.1, (y3.2.2.2.1, (y3.2.2.2.2.1, (y3.2.2.2.2.2.1, (y1.2.2.1, (y1.2.2.2.1, (y1.2.2.2.2.1, (y1.2.2.2.2.2.1, (x.2.2.2.2.2.2.2.2.2.2.1, (x.2.2.2.2.2.2.2.2.2.2.2.1, (x.2.2.2.2.2.2.2.2.2.2.2.2.1, (x.2.2.2.2.2.2.2.2.2.2.2.2.2.1, (x.2.2.2.2.2.2.2.2.2.2.2.2.2.2.1, Unit.unit)))))))))))))))))))
   else none)
   else none)
   else none)
   else (if ((List.length x.2.2.2.2.2.2.2.2.2.2.2.2.2.1) = (List.length x.2.2.2.2.2.2.2.2.2.2.2.2.2.1)) then (Option.bind (Go.Ev.Deflate.f71_b (x.2.2.2.2.2.2.2.2.2.2.1, (x.2.2.2.2.2.2.2.2.2.2.2.1, (x.2.2.2.2.2.2.2.2.2.2.2.2.1, (x.2.2.2.2.2.2.2.2.2.2.2.2.2.1, (y3.2.2.1, (y3.2.2.2.1, (y3.2.2.2.2.1, (y3.2.2.2.2.2.1, Unit.unit))))))))) (fun y4 => (if ((y4.2.1 != (0 : Int)) = true) then (if ((List.length x.2.2.2.2.2.2.2.2.2.2.2.2.2.2.1) = (List.length x.2.2.2.2.2.2.2.2.2.2.2.2.2.2.1)) then (if ((List.length y1.2.2.2.2.2.1) = (List.length y1.2.2.2.2.2.1)) then (if ((List.length y4.2.2.2.2.2.1) = (List.length y4.2.2.2.2.2.1)) then (some (Sum.inr (Sum.inl (y4.2.1, (x.1, (x.2.1, (y4.2.2.2.2.2.2.1, (y4.2.2.2.2.2.2.2.1, (y4.2.2.2.2.2.2.2.2.1, (y4.2.2.2.2.2.2.2.2.2.1, (y1.2.2.1, (y1.2.2.2.1, (y1.2.2.2.2.1, (y1.2.2.2.2.2.1, (y4.2.2.1, (y4.2.2.2.1, (y4.2.2.2.2.1, (y4.2.2.2.2.2.1, (x.2.2.2.2.2.2.2.2.2.2.2.2.2.2.1, Unit.unit)))))))))))))))))))
   else none)
   else none)
   else none)
   else (if ((decide (y4.1 ≥ (30 : Int))) = true) then (if ((List.length x.2.2.2.2.2.2.2.2.2.2.2.2.2.2.1) = (List.length x.2.2.2.2.2.2.2.2.2.2.2.2.2.2.1)) then (if ((List.length y1.2.2.2.2.2.1) = (List.length y1.2.2.2.2.2.1)) then (if ((List.length y4.2.2.2.2.2.1) = (List.length y4.2.2.2.2.2.1)) then (some (Sum.inr (Sum.inl ((4 : Int), (x.1, (x.2.1, (y4.2.2.2.2.2.2.1, (y4.2.2.2.2.2.2.2.1, (y4.2.2.2.2.2.2.2.2.1, (y4.2.2.2.2.2.2.2.2.2.1, (y1.2.2.1, (y1.2.2.2.1, (y1.2.2.2.2.1, (y1.2.2.2.2.2.1, (y4.2.2.1, (y4.2.2.2.1, (y4.2.2.2.2.1, (y4.2.2.2.2.2.1, (x.2.2.2.2.2.2.2.2.2.2.2.2.2.2.1, Unit.unit)))))))))))))))))))
   else none)
   else none)
   else none)
   else (Option.bind (Go.Ev.Deflate.f73 (y4.1, Unit.unit)) (fun y5 => (Option.bind (Go.Ev.Deflate.f61 (y5.2.1, (y4.2.2.2.2.2.2.1, (y4.2.2.2.2.2.2.2.1, (y4.2.2.2.2.2.2.2.2.1, (y4.2.2.2.2.2.2.2.2.2.1, Unit.unit)))))) (fun y6 => (if ((y6.2.1 != (0 : Int)) = true) then (if ((List.length x.2.2.2.2.2.2.2.2.2.2.2.2.2.2.1) = (List.length x.2.2.2.2.2.2.2.2.2.2.2.2.2.2.1)) then (if ((List.length y1.2.2.2.2.2.1) = (List.length y1.2.2.2.2.2.1)) then (if ((List.length y4.2.2.2.2.2.1) = (List.length y4.2.2.2.2.2.1)) then (some (Sum.inr (Sum.inl (y6.2.1, (x.1, (x.2.1, (y6.2.2.1, (y6.2.2.2.1, (y6.2.2.2.2.1, (y6.2.2.2.2.2.1, (y1.2.2.1, (y1.2.2.2.1, (y1.2.2.2.2.1, (y1.2.2.2.2.2.1, (y4.2.2.1, (y4.2.2.2.1, (y4.2.2.2.2.1, (y4.2.2.2.2.2.1, (x.2.2.2.2.2.2.2.2.2.2.2.2.2.2.1, Unit.unit)))))))))))))))))))
   else none)
   else none)
   else none)
   else (if ((List.length x.2.2.2.2.2.2.2.2.2.2.2.2.2.2.1) = (List.length x.2.2.2.2.2.2.2.2.2.2.2.2.2.2.1)) then (Option.bind (Go.Ev.Deflate.f64 ((0 : Int), ((Go.IntKind.wrap Go.IntKind.i64 (y2.1 + y3.1)), ((Go.IntKind.wrap Go.IntKind.i64 (y5.1 + y6.1)), (x.1, (x.2.1, (y6.2.2.1, (y6.2.2.2.1, (y6.2.2.2.2.1, (y6.2.2.2.2.2.1, (x.2.2.2.2.2.2.2.2.2.2.2.2.2.2.1, Unit.unit))))))))))) (fun y7 => (if ((y7.1 != (0 : Int)) = true) then (if ((List.length y7.2.2.2.2.2.2.2.1) = (List.length y7.2.2.2.2.2.2.2.1)) then (if ((List.length y1.2.2.2.2.2.1) = (List.length y1.2.2.2.2.2.1)) then (if ((List.length y4.2.2.2.2.2.1) = (List.length y4.2.2.2.2.2.1)) then (some (Sum.inr (Sum.inl (y7.1, (y7.2.1, (y7.2.2.1, (y7.2.2.2.1, (y7.2.2.2.2.1, (y7.2.2.2.2.2.1, (y7.2.2.2.2.2.2.1, (y1.2.2.1, (y1.2.2.2.1, (y1.2.2.2.2.1, (y1.2.2.2.2.2.1, (y4.2.2.1, (y4.2.2.2.1, (y4.2.2.2.2.1, (y4.2.2.2.2.2.1, (y7.2.2.2.2.2.2.2.1, Unit.unit)))))))))))))))))))
   else none)
   else none)
   else none)
   else (if ((List.length y7.2.2.2.2.2.2.2.1) = (List.length y7.2.2.2.2.2.2.2.1)) then (if ((List.length y1.2.2.2.2.2.1) = (List.length y1.2.2.2.2.2.1)) then (if ((List.length y4.2.2.2.2.2.1) = (List.length y4.2.2.2.2.2.1)) then (some (Sum.inl (y7.2.1, (y7.2.2.1, (y7.2.2.2.1, (y7.2.2.2.2.1, (y7.2.2.2.2.2.1, (y7.2.2.2.2.2.2.1, (y1.2.2.1, (y1.2.2.2.1, (y1.2.2.2.2.1, (y1.2.2.2.2.2.1, (y4.2.2.1, (y4.2.2.2.1, (y4.2.2.2.2.1, (y4.2.2.2.2.2.1, (y7.2.2.2.2.2.2.2.1, Unit.unit)))))))))))))))))
   else none)
   else none)
   else none))))
   else none))))))))))
   else none))))))))))))
   else none)
theorem b65_d_1_eq (x : g65_d_1.D) : b65_d_1 x = evF P (T73.orc _) Go.Proofs.Try.f65.ntmps fx65_d (Code.at [true, false, false] c65) (planAt 64 []) g65_d_1 x (injK fx65_d ((.normal, g65_d_1) :: o65_d_1) some) := by kernel_rfl
noncomputable def l65_d_1 : g65_d_1.D → Option (outD o65_d_1) := loopN g65_d_1 o65_d_1 b65_d_1 18446744073709551616
theorem at65_d_1 : Code.at [true, false] c65 = .loop (Code.at [true, false, false] c65) := by kernel_rfl
theorem s65_d_1_ok : SubOk P Go.Proofs.Try.f65.ntmps fx65_d (Code.at [true, false] c65) ⟨g65_d_1, o65_d_1, l65_d_1⟩ := by
  rw [at65_d_1]
  exact loop_ok (sub_ok (g := g65_d_1) (outs := ((.normal, g65_d_1) :: o65_d_1)) (f := b65_d_1) (Table.ok T73_ok _) hmix (planAt_ok (P := P) (n := Go.Proofs.Try.f65.ntmps) (fx := fx65_d) (c := (Code.at [true, false, false] c65)) (d := 64) (l := []) trivial) b65_d_1_eq) rfl _
noncomputable def f65_d (x : gi65_d.D) : Option go65_d.D :=
  (if ((List.length x.2.2.2.2.2.2.1) = (List.length x.2.2.2.2.2.2.1)) then (if ((List.length x.2.2.2.2.2.2.2.2.2.2.1) = (List.length x.2.2.2.2.2.2.2.2.2.2.1)) then (if ((List.length x.2.2.2.2.2.2.2.2.2.2.2.2.2.2.1) = (List.length x.2.2.2.2.2.2.2.2.2.2.2.2.2.2.1)) then (Option.bind (Go.Ev.Deflate.l65_d_1 (x.1, (x.2.1, (x.2.2.1, (x.2.2.2.1, (x.2.2.2.2.1, (x.2.2.2.2.2.1, (x.2.2.2.2.2.2.2.1, (x.2.2.2.2.2.2.2.2.1, (x.2.2.2.2.2.2.2.2.2.1, (x.2.2.2.2.2.2.2.2.2.2.1, (x.2.2.2.2.2.2.2.2.2.2.2.1, (x.2.2.2.2.2.2.2.2.2.2.2.2.1, (x.2.2.2.2.2.2.2.2.2.2.2.2.2.1, (x.2.2.2.2.2.2.2.2.2.2.2.2.2.2.1, (x.2.2.2.2.2.2.1, Unit.unit)))))))))))))))) (Sum.elim (fun y1 => (if ((List.length y1.2.2.2.2.2.2.2.2.2.2.2.2.2.2.2.1) = (List.length y1.2.2.2.2.2.2.2.2.2.2.2.2.2.2.2.1)) then (if ((List.length y1.2.2.2.2.2.2.2.2.2.2.1) = (List.length y1.2.2.2.2.2.2.2.2.2.2.1)) then (if ((List.length y1.2.2.2.2.2.2.2.2.2.2.2.2.2.2.1) = (List.length y1.2.2.2.2.2.2.2.2.2.2.2.2.2.2.1)) then (some (y1.1, (y1.2.1, (y1.2.2.1, (y1.2.2.2.1, (y1.2.2.2.2.1, (y1.2.2.2.2.2.1, (y1.2.2.2.2.2.2.1, (y1.2.2.2.2.2.2.2.1, (y1.2.2.2.2.2.2.2.2.1, (y1.2.2.2.2.2.2.2.2.2.1, (y1.2.2.2.2.2.2.2.2.2.2.1, (y1.2.2.2.2.2.2.2.2.2.2.2.1, (y1.2.2.2.2.2.2.2.2.2.2.2.2.1, (y1.2.2.2.2.2.2.2.2.2.2.2.2.2.1, (y1.2.2.2.2.2.2.2.2.2.2.2.2.2.2.1, (y1.2.2.2.2.2.2.2.2.2.2.2.2.2.2.2.1, Unit.unit)))))))))))))))))
   else none)
   else none)
   else none)) Empty.elim))
   else none)
   else none)
   else none)
theorem f65_d_eq (x : gi65_d.D) : f65_d x = evF P (T73.orc _) Go.Proofs.Try.f65.ntmps fx65_d c65 (planAt 64 [([true, false], ⟨g65_d_1, o65_d_1, l65_d_1⟩)]) gi65_d x (fnK fx65_d [go65_d]) := by kernel_rfl
theorem pf65_d : AllSub P Go.Proofs.Try.f65.ntmps fx65_d c65 [([true, false], ⟨g65_d_1, o65_d_1, l65_d_1⟩)] := And.intro s65_d_1_ok (trivial)
theorem qf65_d : PlanOk P Go.Proofs.Try.f65.ntmps fx65_d (planAt 64 [([true, false], ⟨g65_d_1, o65_d_1, l65_d_1⟩)]) c65 := planAt_ok pf65_d
theorem f65_d_ok : EntOk P 65 ⟨gi65_d, [go65_d], f65_d⟩ :=
  ent_ok (fn := Go.Proofs.Try.f65) (gi := gi65_d) (gos := [go65_d]) (f := f65_d) (c := c65) (fx := fx65_d) ⟨Go.Proofs.Try.func65, by kernel_rfl, rfl, by decide +kernel, rfl, rfl⟩ (by kernel_rfl) (Table.ok T73_ok _) hmix (qf65_d) f65_d_eq
noncomputable def T65 : Table := T73.add 65 [⟨gi65, [go65], f65⟩, ⟨gi65_b, [go65_b], f65_b⟩, ⟨gi65_c, [go65_c], f65_c⟩, ⟨gi65_d, [go65_d], f65_d⟩] []
theorem T65_ok : TableOk P T65 := Table.plus T73_ok (es := [⟨gi65, [go65], f65⟩, ⟨gi65_b, [go65_b], f65_b⟩, ⟨gi65_c, [go65_c], f65_c⟩, ⟨gi65_d, [go65_d], f65_d⟩]) ⟨f65_ok, f65_b_ok, f65_c_ok, f65_d_ok, trivial⟩ []

/-! ## 47: (*erasure/inflate.work).fixed -/
noncomputable def c47 : Code := Func.code Go.Proofs.Try.f47
abbrev gi47 : Sg := ⟨[0], [.lf (.ptr 0 0)], [some (.box true [.lf (.ptr 1 0), .lf (.gr (.pair (.int .i64) (.pair (.int .i64) (.int .i64))) 2), .lf (.int .i64), .lf (.int .i64)]), some (.box true [.lf (.sl (.int .u8)), .lf (.int .i64), .lf (.int .i64), .lf (.int .i64)]), some (.arr true (.pair (.int .i64) (.pair (.int .i64) (.int .i64))))]⟩
abbrev go47 : Sg := ⟨[2], [.lf (.int .i64)], [some (.box true [.lf (.ptr 1 0), .lf (.gr (.pair (.int .i64) (.pair (.int .i64) (.int .i64))) 3), .lf (.int .i64), .lf (.int .i64)]), some (.box true [.lf (.sl (.int .u8)), .lf (.int .i64), .lf (.int .i64), .lf (.int .i64)]), none, some (.arr true (.pair (.int .i64) (.pair (.int .i64) (.int .i64))))]⟩
def fx47 : List Bool := [true, true, false]
noncomputable def f47 (x : gi47.D) : Option go47.D :=
  (Option.bind (Go.Ev.Deflate.f26 Unit.unit) (fun y1 => (Option.bind (Go.Ev.Deflate.f25 ((List.take (List.length y1.1) (List.drop (0 : Nat) y1.1)), Unit.unit)) (Sum.elim (fun y2 => (if ((y2.1 != (0 : Int)) = true) then (if ((List.length x.2.2.2.2.2.2.1) = (List.length x.2.2.2.2.2.2.1)) then (some (y2.1, (x.1, (x.2.1, (x.2.2.1, (x.2.2.2.1, (x.2.2.2.2.1, (x.2.2.2.2.2.1, (x.2.2.2.2.2.2.1, Unit.unit)))))))))
   else none)
   else (Option.bind (Go.Ev.Deflate.f27 ((List.take (1 : Nat) (List.drop (0 : Nat) (List.set (List.replicate (1 : Nat) (0 : Int)) (0 : Nat) (5 : Int)))), ((32 : Int), Unit.unit))) (fun y3 => (Option.bind (Go.Ev.Deflate.f25 ((List.take (List.length y3.1) (List.drop (0 : Nat) y3.1)), Unit.unit)) (Sum.elim (fun y4 => (if ((y4.1 != (0 : Int)) = true) then (if ((List.length x.2.2.2.2.2.2.1) = (List.length x.2.2.2.2.2.2.1)) then (some (y4.1, (x.1, (x.2.1, (x.2.2.1, (x.2.2.2.1, (x.2.2.2.2.1, (x.2.2.2.2.2.1, (x.2.2.2.2.2.2.1, Unit.unit)))))))))
   else none)
   else (if ((List.length x.2.2.2.2.2.2.1) = (List.length x.2.2.2.2.2.2.1)) then (Option.bind (Go.Ev.Deflate.f65 (x.1, (x.2.1, (x.2.2.1, (x.2.2.2.1, (x.2.2.2.2.1, (x.2.2.2.2.2.1, (x.2.2.2.2.2.2.1, Unit.unit)))))))) (fun y5 => (if ((List.length y5.2.2.2.2.2.2.2.1) = (List.length y5.2.2.2.2.2.2.2.1)) then (some (y5.1, (y5.2.1, (y5.2.2.1, (y5.2.2.2.1, (y5.2.2.2.2.1, (y5.2.2.2.2.2.1, (y5.2.2.2.2.2.2.1, (y5.2.2.2.2.2.2.2.1, Unit.unit)))))))))
   else none)))
   else none))) (fun y4 => (if ((y4.1 != (0 : Int)) = true) then (if ((List.length x.2.2.2.2.2.2.1) = (List.length x.2.2.2.2.2.2.1)) then (some (y4.1, (x.1, (x.2.1, (x.2.2.1, (x.2.2.2.1, (x.2.2.2.2.1, (x.2.2.2.2.2.1, (x.2.2.2.2.2.2.1, Unit.unit)))))))))
   else none)
   else (if ((List.length x.2.2.2.2.2.2.1) = (List.length x.2.2.2.2.2.2.1)) then (if ((List.length y4.2.2.2.2.1) = (List.length y4.2.2.2.2.1)) then (Option.bind (Go.Ev.Deflate.f65_b (x.1, (x.2.1, (x.2.2.1, (x.2.2.2.1, (x.2.2.2.2.1, (x.2.2.2.2.2.1, (x.2.2.2.2.2.2.1, (y4.2.1, (y4.2.2.1, (y4.2.2.2.1, (y4.2.2.2.2.1, Unit.unit)))))))))))) (fun y5 => (if ((List.length y5.2.2.2.2.2.2.2.2.2.2.2.1) = (List.length y5.2.2.2.2.2.2.2.2.2.2.2.1)) then (some (y5.1, (y5.2.1, (y5.2.2.1, (y5.2.2.2.1, (y5.2.2.2.2.1, (y5.2.2.2.2.2.1, (y5.2.2.2.2.2.2.1, (y5.2.2.2.2.2.2.2.2.2.2.2.1, Unit.unit)))))))))
   else none)))
   else none)
   else none))))))))) (fun y2 => (if ((y2.1 != (0 : Int)) = true) then (if ((List.length x.2.2.2.2.2.2.1) = (List.length x.2.2.2.2.2.2.1)) then (some (y2.1, (x.1, (x.2.1, (x.2.2.1, (x.2.2.2.1, (x.2.2.2.2.1, (x.2.2.2.2.2.1, (x.2.2.2.2.2.2.1, Unit.unit)))))))))
   else none)
   else (Option.bind (Go.Ev.Deflate.f27 ((List.take (1 : Nat) (List.drop (0 : Nat) (List.set (List.replicate (1 : Nat) (0 : Int)) (0 : Nat) (5 : Int)))), ((32 : Int), Unit.unit))) (fun y3 => (Option.bind (Go.Ev.Deflate.f25 ((List.take (List.length y3.1) (List.drop (0 : Nat) y3.1)), Unit.unit)) (Sum.elim (fun y4 => (if ((y4.1 != (0 : Int)) = true) then (if ((List.length x.2.2.2.2.2.2.1) = (List.length x.2.2.2.2.2.2.1)) then (some (y4.1, (x.1, (x.2.1, (x.2.2.1, (x.2.2.2.1, (x.2.2.2.2.1, (x.2.2.2.2.2.1, (x.2.2.2.2.2.2.1, Unit.unit)))))))))
   else none)
   else (if ((List.length x.2.2.2.2.2.2.1) = (List.length x.2.2.2.2.2.2.1)) then (if ((List.length y2.2.2.2.2.1) = (List.length y2.2.2.2.2.1)) then (Option.bind (Go.Ev.Deflate.f65_c (x.1, (x.2.1, (x.2.2.1, (x.2.2.2.1, (x.2.2.2.2.1, (x.2.2.2.2.2.1, (x.2.2.2.2.2.2.1, (y2.2.1, (y2.2.2.1, (y2.2.2.2.1, (y2.2.2.2.2.1, Unit.unit)))))))))))) (fun y5 => (if ((List.length y5.2.2.2.2.2.2.2.2.2.2.2.1) = (List.length y5.2.2.2.2.2.2.2.2.2.2.2.1)) then (some (y5.1, (y5.2.1, (y5.2.2.1, (y5.2.2.2.1, (y5.2.2.2.2.1, (y5.2.2.2.2.2.1, (y5.2.2.2.2.2.2.1, (y5.2.2.2.2.2.2.2.2.2.2.2.1, Unit.unit)))))))))
   else none)))
   else none)
   else none))) (fun y4 => (if ((y4.1 != (0 : Int)) = true) then (if ((List.length x.2.2.2.2.2.2.1) = (List.length x.2.2.2.2.2.2.1)) then (some (y4.1, (x.1, (x.2.1, (x.2.2.1, (x.2.2.2.1, (x.2.2.2.2.1, (x.2.2.2.2.2.1, (x.2.2.2.2.2.2.1, Unit.unit)))))))))
   else none)
   else (if ((List.length x.2.2.2.2.2.2.1) = (List.length x.2.2.2.2.2.2.1)) then (if ((List.length y2.2.2.2.2.1) = (List.length y2.2.2.2.2.1)) then (if ((List.length y4.2.2.2.2.1) = (List.length y4.2.2.2.2.1)) then (Option.bind (Go.Ev.Deflate.f65_d (x.1, (x.2.1, (x.2.2.1, (x.2.2.2.1, (x.2.2.2.2.1, (x.2.2.2.2.2.1, (x.2.2.2.2.2.2.1, (y2.2.1, (y2.2.2.1, (y2.2.2.2.1, (y2.2.2.2.2.1, (y4.2.1, (y4.2.2.1, (y4.2.2.2.1, (y4.2.2.2.2.1, Unit.unit)))))))))))))))) (fun y5 => (if ((List.length y5.2.2.2.2.2.2.2.2.2.2.2.2.2.2.2.1) = (List.length y5.2.2.2.2.2.2.2.2.2.2.2.2.2.2.2.1)) then (some (y5.1, (y5.2.1, (y5.2.2.1, (y5.2.2.2.1, (y5.2.2.2.2.1, (y5.2.2.2.2.2.1, (y5.2.2.2.2.2.2.1, (y5.2.2.2.2.2.2.2.2.2.2.2.2.2.2.2.1, Unit.unit)))))))))
   else none)))
   else none)
   else none)
   else none)))))))))))))
theorem f47_eq (x : gi47.D) : f47 x = evF P (T65.orc _) Go.Proofs.Try.f47.ntmps fx47 c47 (planAt 64 []) gi47 x (fnK fx47 [go47]) := by kernel_rfl
theorem f47_ok : EntOk P 47 ⟨gi47, [go47], f47⟩ :=
  ent_ok (fn := Go.Proofs.Try.f47) (gi := gi47) (gos := [go47]) (f := f47) (c := c47) (fx := fx47) ⟨Go.Proofs.Try.func47, by kernel_rfl, rfl, by decide +kernel, rfl, rfl⟩ (by kernel_rfl) (Table.ok T65_ok _) hmix (planAt_ok (P := P) (n := Go.Proofs.Try.f47.ntmps) (fx := fx47) (c := c47) (d := 64) (l := []) trivial) f47_eq
noncomputable def T47 : Table := T65.add 47 [⟨gi47, [go47], f47⟩] []
theorem T47_ok : TableOk P T47 := Table.plus T65_ok (es := [⟨gi47, [go47], f47⟩]) ⟨f47_ok, trivial⟩ []

/-! ## 74: erasure/inflate.repeat -/
noncomputable def c74 : Code := Func.code Go.Proofs.Try.f74
abbrev gi74 : Sg := ⟨[0], [.lf (.int .i64)], []⟩
abbrev go74 : Sg := ⟨[2, 3, 4], [.lf (.int .i64), .lf (.int .i64), .lf .bool], []⟩
def fx74 : List Bool := []
noncomputable def f74 (x : gi74.D) : Option go74.D :=
  (if ((x.1 == (16 : Int)) = true) then (some ((2 : Int), ((3 : Int), (true, Unit.unit))))
   else (if ((x.1 == (17 : Int)) = true) then (some ((3 : Int), ((3 : Int), (false, Unit.unit))))
   else (some ((7 : Int), ((11 : Int), (false, Unit.unit))))))
theorem f74_eq (x : gi74.D) : f74 x = evF P (T47.orc _) Go.Proofs.Try.f74.ntmps fx74 c74 (planAt 64 []) gi74 x (fnK fx74 [go74]) := by kernel_rfl
theorem f74_ok : EntOk P 74 ⟨gi74, [go74], f74⟩ :=
  ent_ok (fn := Go.Proofs.Try.f74) (gi := gi74) (gos := [go74]) (f := f74) (c := c74) (fx := fx74) ⟨Go.Proofs.Try.func74, by kernel_rfl, rfl, by decide +kernel, rfl, rfl⟩ (by kernel_rfl) (Table.ok T47_ok _) hmix (planAt_ok (P := P) (n := Go.Proofs.Try.f74.ntmps) (fx := fx74) (c := c74) (d := 64) (l := []) trivial) f74_eq
noncomputable def T74 : Table := T47.add 74 [⟨gi74, [go74], f74⟩] []
theorem T74_ok : TableOk P T74 := Table.plus T47_ok (es := [⟨gi74, [go74], f74⟩]) ⟨f74_ok, trivial⟩ []

/-! ## 66: (*erasure/inflate.work).lengths -/
noncomputable def c66 : Code := Func.code Go.Proofs.Try.f66
abbrev gi66 : Sg := ⟨[0, 1, 2], [.lf (.ptr 0 0), .lf .nilp, .lf (.int .i64)], [some (.box true [.lf (.ptr 1 0), .lf (.gr (.pair (.int .i64) (.pair (.int .i64) (.int .i64))) 2), .lf (.int .i64), .lf (.int .i64)]), some (.box true [.lf (.sl (.int .u8)), .lf (.int .i64), .lf (.int .i64), .lf (.int .i64)]), some (.arr true (.pair (.int .i64) (.pair (.int .i64) (.int .i64))))]⟩
abbrev go66 : Sg := ⟨[6, 7], [.lf (.sl (.int .i64)), .lf (.int .i64)], [some (.box true [.lf (.ptr 1 0), .lf (.gr (.pair (.int .i64) (.pair (.int .i64) (.int .i64))) 2), .lf (.int .i64), .lf (.int .i64)]), some (.box true [.lf (.sl (.int .u8)), .lf (.int .i64), .lf (.int .i64), .lf (.int .i64)]), some (.arr true (.pair (.int .i64) (.pair (.int .i64) (.int .i64))))]⟩
def fx66 : List Bool := [true, true, true]
abbrev g66_2 : Sg := ⟨[0, 1, 2, 8, 11, 12, 13, 14], [.lf (.ptr 0 0), .lf .nilp, .lf (.int .i64), .lf (.gr (.int .i64) 3), .lf (.int .i64), .lf (.int .i64), .lf .bool, .lf (.int .i64)], [some (.box true [.lf (.ptr 1 0), .lf (.gr (.pair (.int .i64) (.pair (.int .i64) (.int .i64))) 2), .lf (.int .i64), .lf (.int .i64)]), some (.box true [.lf (.sl (.int .u8)), .lf (.int .i64), .lf (.int .i64), .lf (.int .i64)]), some (.arr true (.pair (.int .i64) (.pair (.int .i64) (.int .i64)))), some (.arr true (.int .i64))]⟩
abbrev o66_2 : Outs := [(.normal, ⟨[0, 1, 2, 8, 11, 12, 13, 14, 51], [.lf (.ptr 0 0), .lf .nilp, .lf (.int .i64), .lf (.gr (.int .i64) 3), .lf (.int .i64), .lf (.int .i64), .lf .bool, .lf (.int .i64), .lf .bool], [some (.box true [.lf (.ptr 1 0), .lf (.gr (.pair (.int .i64) (.pair (.int .i64) (.int .i64))) 2), .lf (.int .i64), .lf (.int .i64)]), some (.box true [.lf (.sl (.int .u8)), .lf (.int .i64), .lf (.int .i64), .lf (.int .i64)]), some (.arr true (.pair (.int .i64) (.pair (.int .i64) (.int .i64)))), some (.arr true (.int .i64))]⟩)]
noncomputable def b66_2 (x : g66_2.D) : Option (outD o66_2) :=
  (if (x.2.2.2.1 = true) then (if ((List.length x.2.2.2.2.2.2.2.2.2.2.2.2.1) = (List.length x.2.2.2.2.2.2.2.2.2.2.2.2.1)) then (if ((List.length x.2.2.2.2.2.2.2.2.2.2.2.1) = (List.length x.2.2.2.2.2.2.2.2.2.2.2.1)) then (some (Sum.inl (x.1, (x.2.1, (x.2.2.1, (x.2.2.2.1, (x.2.2.2.2.1, (((((List.length x.2.2.2.2.2.2.2.2.2.2.2.2.1) : Nat) : Int) == (0 : Int)), (x.2.2.2.2.2.1, (x.2.2.2.2.2.2.1, (x.2.2.2.2.2.2.2.1, (x.2.2.2.2.2.2.2.2.1, (x.2.2.2.2.2.2.2.2.2.1, (x.2.2.2.2.2.2.2.2.2.2.1, (x.2.2.2.2.2.2.2.2.2.2.2.1, (x.2.2.2.2.2.2.2.2.2.2.2.2.1, Unit.unit))))))))))))))))
   else none)
   else none)
   else (if ((List.length x.2.2.2.2.2.2.2.2.2.2.2.2.1) = (List.length x.2.2.2.2.2.2.2.2.2.2.2.2.1)) then (if ((List.length x.2.2.2.2.2.2.2.2.2.2.2.1) = (List.length x.2.2.2.2.2.2.2.2.2.2.2.1)) then (some (Sum.inl (x.1, (x.2.1, (x.2.2.1, (x.2.2.2.1, (x.2.2.2.2.1, (false, (x.2.2.2.2.2.1, (x.2.2.2.2.2.2.1, (x.2.2.2.2.2.2.2.1, (x.2.2.2.2.2.2.2.2.1, (x.2.2.2.2.2.2.2.2.2.1, (x.2.2.2.2.2.2.2.2.2.2.1, (x.2.2.2.2.2.2.2.2.2.2.2.1, (x.2.2.2.2.2.2.2.2.2.2.2.2.1, Unit.unit))))))))))))))))
   else none)
   else none))
theorem b66_2_eq (x : g66_2.D) : b66_2 x = evF P (T74.orc _) Go.Proofs.Try.f66.ntmps fx66 (Code.at [true, false, true, true, false, false, false, true, false, true, true, true, true, false, false] c66) (planAt 64 []) g66_2 x (injK fx66 o66_2 some) := by kernel_rfl
theorem s66_2_ok : SubOk P Go.Proofs.Try.f66.ntmps fx66 (Code.at [true, false, true, true, false, false, false, true, false, true, true, true, true, false, false] c66) ⟨g66_2, o66_2, b66_2⟩ :=
  sub_ok (g := g66_2) (outs := o66_2) (f := b66_2) (Table.ok T74_ok _) hmix (planAt_ok (P := P) (n := Go.Proofs.Try.f66.ntmps) (fx := fx66) (c := (Code.at [true, false, true, true, false, false, false, true, false, true, true, true, true, false, false] c66)) (d := 64) (l := []) trivial) b66_2_eq
abbrev g66_3 : Sg := ⟨[0, 1, 2, 8, 11, 12, 13, 14], [.lf (.ptr 0 0), .lf .nilp, .lf (.int .i64), .lf (.gr (.int .i64) 3), .lf (.int .i64), .lf (.int .i64), .lf .bool, .lf (.int .i64)], [some (.box true [.lf (.ptr 1 0), .lf (.gr (.pair (.int .i64) (.pair (.int .i64) (.int .i64))) 2), .lf (.int .i64), .lf (.int .i64)]), some (.box true [.lf (.sl (.int .u8)), .lf (.int .i64), .lf (.int .i64), .lf (.int .i64)]), some (.arr true (.pair (.int .i64) (.pair (.int .i64) (.int .i64)))), some (.arr true (.int .i64))]⟩
abbrev o66_3 : Outs := [(.normal, ⟨[0, 1, 2, 8, 11, 12, 14], [.lf (.ptr 0 0), .lf .nilp, .lf (.int .i64), .lf (.gr (.int .i64) 3), .lf (.int .i64), .lf (.int .i64), .lf (.int .i64)], [some (.box true [.lf (.ptr 1 0), .lf (.gr (.pair (.int .i64) (.pair (.int .i64) (.int .i64))) 2), .lf (.int .i64), .lf (.int .i64)]), some (.box true [.lf (.sl (.int .u8)), .lf (.int .i64), .lf (.int .i64), .lf (.int .i64)]), some (.arr true (.pair (.int .i64) (.pair (.int .i64) (.int .i64)))), some (.arr true (.int .i64))]⟩)]
noncomputable def b66_3 (x : g66_3.D) : Option (outD o66_3) :=
  (if (x.2.2.2.1 = true) then (if ((0 : Int) ≤ (Go.IntKind.wrap Go.IntKind.i64 ((((List.length x.2.2.2.2.2.2.2.2.2.2.2.2.1) : Nat) : Int) - (1 : Int)))) then (if ((Go.IntKind.wrap Go.IntKind.i64 ((((List.length x.2.2.2.2.2.2.2.2.2.2.2.2.1) : Nat) : Int) - (1 : Int))) < (((List.length x.2.2.2.2.2.2.2.2.2.2.2.2.1) : Nat) : Int)) then (if ((List.length x.2.2.2.2.2.2.2.2.2.2.2.2.1) = (List.length x.2.2.2.2.2.2.2.2.2.2.2.2.1)) then (if ((List.length x.2.2.2.2.2.2.2.2.2.2.2.1) = (List.length x.2.2.2.2.2.2.2.2.2.2.2.1)) then (some (Sum.inl (x.1, (x.2.1, (x.2.2.1, ((List.getD x.2.2.2.2.2.2.2.2.2.2.2.2.1 ((0 : Nat) + (Int.toNat (Go.IntKind.wrap Go.IntKind.i64 ((((List.length x.2.2.2.2.2.2.2.2.2.2.2.2.1) : Nat) : Int) - (1 : Int))))) (0 : Int)), (x.2.2.2.2.2.1, (x.2.2.2.2.2.2.1, (x.2.2.2.2.2.2.2.1, (x.2.2.2.2.2.2.2.2.1, (x.2.2.2.2.2.2.2.2.2.1, (x.2.2.2.2.2.2.2.2.2.2.1, (x.2.2.2.2.2.2.2.2.2.2.2.1, (x.2.2.2.2.2.2.2.2.2.2.2.2.1, Unit.unit))))))))))))))
   else none)
   else none)
   else none)
   else none)
   else (if ((List.length x.2.2.2.2.2.2.2.2.2.2.2.2.1) = (List.length x.2.2.2.2.2.2.2.2.2.2.2.2.1)) then (if ((List.length x.2.2.2.2.2.2.2.2.2.2.2.1) = (List.length x.2.2.2.2.2.2.2.2.2.2.2.1)) then (some (Sum.inl (x.1, (x.2.1, (x.2.2.1, (x.2.2.2.2.1, (x.2.2.2.2.2.1, (x.2.2.2.2.2.2.1, (x.2.2.2.2.2.2.2.1, (x.2.2.2.2.2.2.2.2.1, (x.2.2.2.2.2.2.2.2.2.1, (x.2.2.2.2.2.2.2.2.2.2.1, (x.2.2.2.2.2.2.2.2.2.2.2.1, (x.2.2.2.2.2.2.2.2.2.2.2.2.1, Unit.unit))))))))))))))
   else none)
   else none))
theorem b66_3_eq (x : g66_3.D) : b66_3 x = evF P (T74.orc _) Go.Proofs.Try.f66.ntmps fx66 (Code.at [true, false, true, true, false, false, false, true, false, true, true, true, true, true, false] c66) (planAt 64 []) g66_3 x (injK fx66 o66_3 some) := by kernel_rfl
theorem s66_3_ok : SubOk P Go.Proofs.Try.f66.ntmps fx66 (Code.at [true, false, true, true, false, false, false, true, false, true, true, true, true, true, false] c66) ⟨g66_3, o66_3, b66_3⟩ :=
  sub_ok (g := g66_3) (outs := o66_3) (f := b66_3) (Table.ok T74_ok _) hmix (planAt_ok (P := P) (n := Go.Proofs.Try.f66.ntmps) (fx := fx66) (c := (Code.at [true, false, true, true, false, false, false, true, false, true, true, true, true, true, false] c66)) (d := 64) (l := []) trivial) b66_3_eq
abbrev g66_1 : Sg := ⟨[0, 1, 2, 8], [.lf (.ptr 0 0), .lf .nilp, .lf (.int .i64), .lf (.gr (.int .i64) 3)], [some (.box true [.lf (.ptr 1 0), .lf (.gr (.pair (.int .i64) (.pair (.int .i64) (.int .i64))) 2), .lf (.int .i64), .lf (.int .i64)]), some (.box true [.lf (.sl (.int .u8)), .lf (.int .i64), .lf (.int .i64), .lf (.int .i64)]), some (.arr true (.pair (.int .i64) (.pair (.int .i64) (.int .i64)))), some (.arr true (.int .i64))]⟩
abbrev o66_1 : Outs := [(.exit 0, ⟨[8], [.lf (.gr (.int .i64) 3)], [some (.box true [.lf (.ptr 1 0), .lf (.gr (.pair (.int .i64) (.pair (.int .i64) (.int .i64))) 2), .lf (.int .i64), .lf (.int .i64)]), some (.box true [.lf (.sl (.int .u8)), .lf (.int .i64), .lf (.int .i64), .lf (.int .i64)]), some (.arr true (.pair (.int .i64) (.pair (.int .i64) (.int .i64)))), some (.arr true (.int .i64))]⟩), (.ret, ⟨[6, 7], [.lf (.sl (.int .i64)), .lf (.int .i64)], [some (.box true [.lf (.ptr 1 0), .lf (.gr (.pair (.int .i64) (.pair (.int .i64) (.int .i64))) 2), .lf (.int .i64), .lf (.int .i64)]), some (.box true [.lf (.sl (.int .u8)), .lf (.int .i64), .lf (.int .i64), .lf (.int .i64)]), some (.arr true (.pair (.int .i64) (.pair (.int .i64) (.int .i64))))]⟩)]
noncomputable def b66_1 (x : g66_1.D) : Option (outD ((.normal, g66_1) :: o66_1)) :=
  (if ((decide ((((List.length x.2.2.2.2.2.2.2.2.1) : Nat) : Int) < x.1)) = true) then (Option.bind (Go.Ev.Deflate.f71 (x.2.2.2.1, (x.2.2.2.2.1, (x.2.2.2.2.2.1, (x.2.2.2.2.2.2.1, Unit.unit))))) (fun y1 => (if ((y1.2.1 != (0 : Int)) = true) then (if ((List.length x.2.2.2.2.2.2.2.1) = (List.length x.2.2.2.2.2.2.2.1)) then (some (Sum.inr (Sum.inr (Sum.inl ([], (y1.2.1, (x.2.1, (x.2.2.1, (y1.2.2.1, (y1.2.2.2.1, (y1.2.2.2.2.1, (y1.2.2.2.2.2.1, (x.2.2.2.2.2.2.2.1, Unit.unit)))))))))))))
   else none)
   else (if ((decide (y1.1 < (16 : Int))) = true) then (if (((List.length (List.take (List.length x.2.2.2.2.2.2.2.2.1) (List.drop (0 : Nat) x.2.2.2.2.2.2.2.2.1))) + (List.length (List.take (1 : Nat) (List.drop (0 : Nat) (List.set (List.replicate (1 : Nat) (0 : Int)) (0 : Nat) y1.1))))) ≤ (17592186044416 : Nat)) then (if ((List.length ((List.take (List.length x.2.2.2.2.2.2.2.2.1) (List.drop (0 : Nat) x.2.2.2.2.2.2.2.2.1)) ++ (List.take (1 : Nat) (List.drop (0 : Nat) (List.set (List.replicate (1 : Nat) (0 : Int)) (0 : Nat) y1.1))))) = (List.length ((List.take (List.length x.2.2.2.2.2.2.2.2.1) (List.drop (0 : Nat) x.2.2.2.2.2.2.2.2.1)) ++ (List.take (1 : Nat) (List.drop (0 : Nat) (List.set (List.replicate (1 : Nat) (0 : Int)) (0 : Nat) y1.1)))))) then (if ((List.length x.2.2.2.2.2.2.2.1) = (List.length x.2.2.2.2.2.2.2.1)) then (some (Sum.inl (x.1, (x.2.1, (x.2.2.1, (y1.2.2.1, (y1.2.2.2.1, (y1.2.2.2.2.1, (y1.2.2.2.2.2.1, (x.2.2.2.2.2.2.2.1, (((List.take (List.length x.2.2.2.2.2.2.2.2.1) (List.drop (0 : Nat) x.2.2.2.2.2.2.2.2.1)) ++ (List.take (1 : Nat) (List.drop (0 : Nat) (List.set (List.replicate (1 : Nat) (0 : Int)) (0 : Nat) y1.1)))), Unit.unit)))))))))))
   else none)
   else none)
   else none)
   else (Option.bind (Go.Ev.Deflate.f74 (y1.1, Unit.unit)) (fun y2 => (if ((List.length x.2.2.2.2.2.2.2.2.1) = (List.length x.2.2.2.2.2.2.2.2.1)) then (if ((List.length x.2.2.2.2.2.2.2.1) = (List.length x.2.2.2.2.2.2.2.1)) then (Option.bind (Go.Ev.Deflate.b66_2 (x.1, (y2.1, (y2.2.1, (y2.2.2.1, ((0 : Int), (x.2.1, (x.2.2.1, (y1.2.2.1, (y1.2.2.2.1, (y1.2.2.2.2.1, (y1.2.2.2.2.2.1, (x.2.2.2.2.2.2.2.1, (x.2.2.2.2.2.2.2.2.1, Unit.unit)))))))))))))) (Sum.elim (fun y3 => (if (y3.2.2.2.2.2.1 = true) then (if ((List.length y3.2.2.2.2.2.2.2.2.2.2.2.2.1) = (List.length y3.2.2.2.2.2.2.2.2.2.2.2.2.1)) then (some (Sum.inr (Sum.inr (Sum.inl ([], ((4 : Int), (y3.2.2.2.2.2.2.1, (y3.2.2.2.2.2.2.2.1, (y3.2.2.2.2.2.2.2.2.1, (y3.2.2.2.2.2.2.2.2.2.1, (y3.2.2.2.2.2.2.2.2.2.2.1, (y3.2.2.2.2.2.2.2.2.2.2.2.1, (y3.2.2.2.2.2.2.2.2.2.2.2.2.1, Unit.unit)))))))))))))
   else none)
   else (if ((List.length y3.2.2.2.2.2.2.2.2.2.2.2.2.2.1) = (List.length y3.2.2.2.2.2.2.2.2.2.2.2.2.2.1)) then (if ((List.length y3.2.2.2.2.2.2.2.2.2.2.2.2.1) = (List.length y3.2.2.2.2.2.2.2.2.2.2.2.2.1)) then (Option.bind (Go.Ev.Deflate.b66_3 (y3.1, (y3.2.1, (y3.2.2.1, (y3.2.2.2.1, (y3.2.2.2.2.1, (y3.2.2.2.2.2.2.1, (y3.2.2.2.2.2.2.2.1, (y3.2.2.2.2.2.2.2.2.1, (y3.2.2.2.2.2.2.2.2.2.1, (y3.2.2.2.2.2.2.2.2.2.2.1, (y3.2.2.2.2.2.2.2.2.2.2.2.1, (y3.2.2.2.2.2.2.2.2.2.2.2.2.1, (y3.2.2.2.2.2.2.2.2.2.2.2.2.2.1, Unit.unit)))))))))))))) (Sum.elim (fun y4 => (Option.bind (Go.Ev.Deflate.f61 (y4.2.1, (y4.2.2.2.2.2.2.1, (y4.2.2.2.2.2.2.2.1, (y4.2.2.2.2.2.2.2.2.1, (y4.2.2.2.2.2.2.2.2.2.1, Unit.unit)))))) (fun y5 => (if ((y5.2.1 != (0 : Int)) = true) then (if ((List.length y4.2.2.2.2.2.2.2.2.2.2.1) = (List.length y4.2.2.2.2.2.2.2.2.2.2.1)) then (some (Sum.inr (Sum.inr (Sum.inl ([], (y5.2.1, (y4.2.2.2.2.1, (y4.2.2.2.2.2.1, (y5.2.2.1, (y5.2.2.2.1, (y5.2.2.2.2.1, (y5.2.2.2.2.2.1, (y4.2.2.2.2.2.2.2.2.2.2.1, Unit.unit)))))))))))))
   else none)
   else (if ((decide ((Go.IntKind.wrap Go.IntKind.i64 ((Go.IntKind.wrap Go.IntKind.i64 ((((List.length y4.2.2.2.2.2.2.2.2.2.2.2.1) : Nat) : Int) + y4.2.2.1)) + y5.1)) > y4.1)) = true) then (if ((List.length y4.2.2.2.2.2.2.2.2.2.2.1) = (List.length y4.2.2.2.2.2.2.2.2.2.2.1)) then (some (Sum.inr (Sum.inr (Sum.inl ([], ((4 : Int), (y4.2.2.2.2.1, (y4.2.2.2.2.2.1, (y5.2.2.1, (y5.2.2.2.1, (y5.2.2.2.2.1, (y5.2.2.2.2.2.1, (y4.2.2.2.2.2.2.2.2.2.2.1, Unit.unit)))))))))))))
   else none)
   else (Option.bind (Go.Ev.Deflate.f27 ((List.take (1 : Nat) (List.drop (0 : Nat) (List.set (List.replicate (1 : Nat) (0 : Int)) (0 : Nat) y4.2.2.2.1))), ((Go.IntKind.wrap Go.IntKind.i64 (y4.2.2.1 + y5.1)), Unit.unit))) (fun y6 => (if (((List.length (List.take (List.length y4.2.2.2.2.2.2.2.2.2.2.2.1) (List.drop (0 : Nat) y4.2.2.2.2.2.2.2.2.2.2.2.1))) + (List.length (List.take (List.length y6.1) (List.drop (0 : Nat) y6.1)))) ≤ (17592186044416 : Nat)) then (if ((List.length ((List.take (List.length y4.2.2.2.2.2.2.2.2.2.2.2.1) (List.drop (0 : Nat) y4.2.2.2.2.2.2.2.2.2.2.2.1)) ++ (List.take (List.length y6.1) (List.drop (0 : Nat) y6.1)))) = (List.length ((List.take (List.length y4.2.2.2.2.2.2.2.2.2.2.2.1) (List.drop (0 : Nat) y4.2.2.2.2.2.2.2.2.2.2.2.1)) ++ (List.take (List.length y6.1) (List.drop (0 : Nat) y6.1))))) then (if ((List.length y4.2.2.2.2.2.2.2.2.2.2.1) = (List.length y4.2.2.2.2.2.2.2.2.2.2.1)) then (some (Sum.inl (y4.1, (y4.2.2.2.2.1, (y4.2.2.2.2.2.1, (y5.2.2.1, (y5.2.2.2.1, (y5.2.2.2.2.1, (y5.2.2.2.2.2.1, (y4.2.2.2.2.2.2.2.2.2.2.1, (((List.take (List.length y4.2.2.2.2.2.2.2.2.2.2.2.1) (List.drop (0 : Nat) y4.2.2.2.2.2.2.2.2.2.2.2.1)) ++ (List.take (List.length y6.1) (List.drop (0 : Nat) y6.1))), Unit.unit)))))))))))
   else none)
   else none)
   else none)))))))) Empty.elim))
   else none)
   else none))) Empty.elim))
   else none)
   else none)))))))
   else (if ((List.length x.2.2.2.2.2.2.2.2.1) = (List.length x.2.2.2.2.2.2.2.2.1)) then (if ((List.length x.2.2.2.2.2.2.2.1) = (List.length x.2.2.2.2.2.2.2.1)) then (some (Sum.inr (Sum.inl (x.2.1, (x.2.2.1, (x.2.2.2.1, (x.2.2.2.2.1, (x.2.2.2.2.2.1, (x.2.2.2.2.2.2.1, (x.2.2.2.2.2.2.2.1, (x.2.2.2.2.2.2.2.2.1, Unit.unit)))))))))))
   else none)
   else none))
theorem b66_1_eq (x : g66_1.D) : b66_1 x = evF P (T74.orc _) Go.Proofs.Try.f66.ntmps fx66 (Code.at [true, false, true, true, false, false, false] c66) (planAt 64 [([true, false, true, true, true, true, false, false], ⟨g66_2, o66_2, b66_2⟩), ([true, false, true, true, true, true, true, false], ⟨g66_3, o66_3, b66_3⟩)]) g66_1 x (injK fx66 ((.normal, g66_1) :: o66_1) some) := by kernel_rfl
noncomputable def l66_1 : g66_1.D → Option (outD o66_1) := loopN g66_1 o66_1 b66_1 18446744073709551616
theorem p66_1 : AllSub P Go.Proofs.Try.f66.ntmps fx66 (Code.at [true, false, true, true, false, false, false] c66) [([true, false, true, true, true, true, false, false], ⟨g66_2, o66_2, b66_2⟩), ([true, false, true, true, true, true, true, false], ⟨g66_3, o66_3, b66_3⟩)] := And.intro s66_2_ok (And.intro s66_3_ok (trivial))
theorem q66_1 : PlanOk P Go.Proofs.Try.f66.ntmps fx66 (planAt 64 [([true, false, true, true, true, true, false, false], ⟨g66_2, o66_2, b66_2⟩), ([true, false, true, true, true, true, true, false], ⟨g66_3, o66_3, b66_3⟩)]) (Code.at [true, false, true, true, false, false, false] c66) := planAt_ok p66_1
theorem at66_1 : Code.at [true, false, true, true, false, false] c66 = .loop (Code.at [true, false, true, true, false, false, false] c66) := by kernel_rfl
theorem s66_1_ok : SubOk P Go.Proofs.Try.f66.ntmps fx66 (Code.at [true, false, true, true, false, false] c66) ⟨g66_1, o66_1, l66_1⟩ := by
  rw [at66_1]
  exact loop_ok (sub_ok (g := g66_1) (outs := ((.normal, g66_1) :: o66_1)) (f := b66_1) (Table.ok T74_ok _) hmix (q66_1) b66_1_eq) rfl _
noncomputable def f66 (x : gi66.D) : Option go66.D :=
  (if ((List.length x.2.2.2.2.2.2.2.1) = (List.length x.2.2.2.2.2.2.2.1)) then (Option.bind (Go.Ev.Deflate.l66_1 (x.1, (x.2.1, (x.2.2.1, (x.2.2.2.1, (x.2.2.2.2.1, (x.2.2.2.2.2.1, (x.2.2.2.2.2.2.1, (x.2.2.2.2.2.2.2.1, ([], Unit.unit)))))))))) (Sum.elim (fun y1 => (if ((List.length y1.2.2.2.2.2.2.1) = (List.length y1.2.2.2.2.2.2.1)) then (some ((List.take (List.length y1.2.2.2.2.2.2.2.1) (List.drop (0 : Nat) y1.2.2.2.2.2.2.2.1)), ((0 : Int), (y1.1, (y1.2.1, (y1.2.2.1, (y1.2.2.2.1, (y1.2.2.2.2.1, (y1.2.2.2.2.2.1, (y1.2.2.2.2.2.2.1, Unit.unit))))))))))
   else none)) (Sum.elim (fun y1 => (if ((List.length y1.2.2.2.2.2.2.2.2.1) = (List.length y1.2.2.2.2.2.2.2.2.1)) then (some (y1.1, (y1.2.1, (y1.2.2.1, (y1.2.2.2.1, (y1.2.2.2.2.1, (y1.2.2.2.2.2.1, (y1.2.2.2.2.2.2.1, (y1.2.2.2.2.2.2.2.1, (y1.2.2.2.2.2.2.2.2.1, Unit.unit))))))))))
   else none)) Empty.elim)))
   else none)
theorem f66_eq (x : gi66.D) : f66 x = evF P (T74.orc _) Go.Proofs.Try.f66.ntmps fx66 c66 (planAt 64 [([true, false, true, true, false, false], ⟨g66_1, o66_1, l66_1⟩)]) gi66 x (fnK fx66 [go66]) := by kernel_rfl
theorem pf66 : AllSub P Go.Proofs.Try.f66.ntmps fx66 c66 [([true, false, true, true, false, false], ⟨g66_1, o66_1, l66_1⟩)] := And.intro s66_1_ok (trivial)
theorem qf66 : PlanOk P Go.Proofs.Try.f66.ntmps fx66 (planAt 64 [([true, false, true, true, false, false], ⟨g66_1, o66_1, l66_1⟩)]) c66 := planAt_ok pf66
theorem f66_ok : EntOk P 66 ⟨gi66, [go66], f66⟩ :=
  ent_ok (fn := Go.Proofs.Try.f66) (gi := gi66) (gos := [go66]) (f := f66) (c := c66) (fx := fx66) ⟨Go.Proofs.Try.func66, by kernel_rfl, rfl, by decide +kernel, rfl, rfl⟩ (by kernel_rfl) (Table.ok T74_ok _) hmix (qf66) f66_eq
abbrev gi66_b : Sg := ⟨[0, 1, 2], [.lf (.ptr 0 0), .lf (.ptr 3 0), .lf (.int .i64)], [some (.box true [.lf (.ptr 1 0), .lf (.gr (.pair (.int .i64) (.pair (.int .i64) (.int .i64))) 2), .lf (.int .i64), .lf (.int .i64)]), some (.box true [.lf (.sl (.int .u8)), .lf (.int .i64), .lf (.int .i64), .lf (.int .i64)]), some (.arr true (.pair (.int .i64) (.pair (.int .i64) (.int .i64)))), some (.box true [.many (.int .i64) 16, .lf (.sl (.int .i64)), .lf (.sl (.int .i64)), .lf (.gr (.int .i64) 4)]), some (.arr true (.int .i64))]⟩
abbrev go66_b : Sg := ⟨[6, 7], [.lf (.sl (.int .i64)), .lf (.int .i64)], [some (.box true [.lf (.ptr 1 0), .lf (.gr (.pair (.int .i64) (.pair (.int .i64) (.int .i64))) 2), .lf (.int .i64), .lf (.int .i64)]), some (.box true [.lf (.sl (.int .u8)), .lf (.int .i64), .lf (.int .i64), .lf (.int .i64)]), some (.arr true (.pair (.int .i64) (.pair (.int .i64) (.int .i64)))), some (.box true [.many (.int .i64) 16, .lf (.sl (.int .i64)), .lf (.sl (.int .i64)), .lf (.gr (.int .i64) 4)]), some (.arr true (.int .i64))]⟩
def fx66_b : List Bool := [true, true, true, true, true]
abbrev g66_b_2 : Sg := ⟨[0, 1, 2, 8, 11, 12, 13, 14], [.lf (.ptr 0 0), .lf (.ptr 3 0), .lf (.int .i64), .lf (.gr (.int .i64) 5), .lf (.int .i64), .lf (.int .i64), .lf .bool, .lf (.int .i64)], [some (.box true [.lf (.ptr 1 0), .lf (.gr (.pair (.int .i64) (.pair (.int .i64) (.int .i64))) 2), .lf (.int .i64), .lf (.int .i64)]), some (.box true [.lf (.sl (.int .u8)), .lf (.int .i64), .lf (.int .i64), .lf (.int .i64)]), some (.arr true (.pair (.int .i64) (.pair (.int .i64) (.int .i64)))), some (.box true [.many (.int .i64) 16, .lf (.sl (.int .i64)), .lf (.sl (.int .i64)), .lf (.gr (.int .i64) 4)]), some (.arr true (.int .i64)), some (.arr true (.int .i64))]⟩
abbrev o66_b_2 : Outs := [(.normal, ⟨[0, 1, 2, 8, 11, 12, 13, 14, 51], [.lf (.ptr 0 0), .lf (.ptr 3 0), .lf (.int .i64), .lf (.gr (.int .i64) 5), .lf (.int .i64), .lf (.int .i64), .lf .bool, .lf (.int .i64), .lf .bool], [some (.box true [.lf (.ptr 1 0), .lf (.gr (.pair (.int .i64) (.pair (.int .i64) (.int .i64))) 2), .lf (.int .i64), .lf (.int .i64)]), some (.box true [.lf (.sl (.int .u8)), .lf (.int .i64), .lf (.int .i64), .lf (.int .i64)]), some (.arr true (.pair (.int .i64) (.pair (.int .i64) (.int .i64)))), some (.box true [.many (.int .i64) 16, .lf (.sl (.int .i64)), .lf (.sl (.int .i64)), .lf (.gr (.int .i64) 4)]), some (.arr true (.int .i64)), some (.arr true (.int .i64))]⟩)]
noncomputable def b66_b_2 (x : g66_b_2.D) : Option (outD o66_b_2) :=
  (if (x.2.2.2.1 = true) then (if ((List.length x.2.2.2.2.2.2.2.2.2.2.2.2.2.2.2.2.1) = (List.length x.2.2.2.2.2.2.2.2.2.2.2.2.2.2.2.2.1)) then (if ((List.length x.2.2.2.2.2.2.2.2.2.2.2.1) = (List.length x.2.2.2.2.2.2.2.2.2.2.2.1)) then (if ((List.length x.2.2.2.2.2.2.2.2.2.2.2.2.2.2.2.1) = (List.length x.2.2.2.2.2.2.2.2.2.2.2.2.2.2.2.1)) then (some (Sum.inl (x.1, (x.2.1, (x.2.2.1, (x.2.2.2.1, (x.2.2.2.2.1, (((((List.length x.2.2.2.2.2.2.2.2.2.2.2.2.2.2.2.2.1) : Nat) : Int) == (0 : Int)), (x.2.2.2.2.2.1, (x.2.2.2.2.2.2.1, (x.2.2.2.2.2.2.2.1, (x.2.2.2.2.2.2.2.2.1, (x.2.2.2.2.2.2.2.2.2.1, (x.2.2.2.2.2.2.2.2.2.2.1, (x.2.2.2.2.2.2.2.2.2.2.2.1, (x.2.2.2.2.2.2.2.2.2.2.2.2.1, (x.2.2.2.2.2.2.2.2.2.2.2.2.2.1, (x.2.2.2.2.2.2.2.2.2.2.2.2.2.2.1, (x.2.2.2.2.2.2.2.2.2.2.2.2.2.2.2.1, (x.2.2.2.2.2.2.2.2.2.2.2.2.2.2.2.2.1, Unit.unit))))))))))))))))))))
   else none)
   else none)
   else none)
   else (if ((List.length x.2.2.2.2.2.2.2.2.2.2.2.2.2.2.2.2.1) = (List.length x.2.2.2.2.2.2.2.2.2.2.2.2.2.2.2.2.1)) then (if ((List.length x.2.2.2.2.2.2.2.2.2.2.2.1) = (List.length x.2.2.2.2.2.2.2.2.2.2.2.1)) then (if ((List.length x.2.2.2.2.2.2.2.2.2.2.2.2.2.2.2.1) = (List.length x.2.2.2.2.2.2.2.2.2.2.2.2.2.2.2.1)) then (some (Sum.inl (x.1, (x.2.1, (x.2.2.1, (x.2.2.2.1, (x.2.2.2.2.1, (false, (x.2.2.2.2.2.1, (x.2.2.2.2.2.2.1, (x.2.2.2.2.2.2.2.1, (x.2.2.2.2.2.2.2.2.1, (x.2.2.2.2.2.2.2.2.2.1, (x.2.2.2.2.2.2.2.2.2.2.1, (x.2.2.2.2.2.2.2.2.2.2.2.1, (x.2.2.2.2.2.2.2.2.2.2.2.2.1, (x.2.2.2.2.2.2.2.2.2.2.2.2.2.1, (x.2.2.2.2.2.2.2.2.2.2.2.2.2.2.1, (x.2.2.2.2.2.2.2.2.2.2.2.2.2.2.2.1, (x.2.2.2.2.2.2.2.2.2.2.2.2.2.2.2.2.1, Unit.unit))))))))))))))))))))
   else none)
   else none)
   else none))
theorem b66_b_2_eq (x : g66_b_2.D) : b66_b_2 x = evF P (T74.orc _) Go.Proofs.Try.f66.ntmps fx66_b (Code.at [true, false, true, true, false, false, false, true, false, true, true, true, true, false, false] c66) (planAt 64 []) g66_b_2 x (injK fx66_b o66_b_2 some) := by kernel_rfl
theorem s66_b_2_ok : SubOk P Go.Proofs.Try.f66.ntmps fx66_b (Code.at [true, false, true, true, false, false, false, true, false, true, true, true, true, false, false] c66) ⟨g66_b_2, o66_b_2, b66_b_2⟩ :=
  sub_ok (g := g66_b_2) (outs := o66_b_2) (f := b66_b_2) (Table.ok T74_ok _) hmix (planAt_ok (P := P) (n := Go.Proofs.Try.f66.ntmps) (fx := fx66_b) (c := (Code.at [true, false, true, true, false, false, false, true, false, true, true, true, true, false, false] c66)) (d := 64) (l := []) trivial) b66_b_2_eq
abbrev g66_b_3 : Sg := ⟨[0, 1, 2, 8, 11, 12, 13, 14], [.lf (.ptr 0 0), .lf (.ptr 3 0), .lf (.int .i64), .lf (.gr (.int .i64) 5), .lf (.int .i64), .lf (.int .i64), .lf .bool, .lf (.int .i64)], [some (.box true [.lf (.ptr 1 0), .lf (.gr (.pair (.int .i64) (.pair (.int .i64) (.int .i64))) 2), .lf (.int .i64), .lf (.int .i64)]), some (.box true [.lf (.sl (.int .u8)), .lf (.int .i64), .lf (.int .i64), .lf (.int .i64)]), some (.arr true (.pair (.int .i64) (.pair (.int .i64) (.int .i64)))), some (.box true [.many (.int .i64) 16, .lf (.sl (.int .i64)), .lf (.sl (.int .i64)), .lf (.gr (.int .i64) 4)]), some (.arr true (.int .i64)), some (.arr true (.int .i64))]⟩
abbrev o66_b_3 : Outs := [(.normal, ⟨[0, 1, 2, 8, 11, 12, 14], [.lf (.ptr 0 0), .lf (.ptr 3 0), .lf (.int .i64), .lf (.gr (.int .i64) 5), .lf (.int .i64), .lf (.int .i64), .lf (.int .i64)], [some (.box true [.lf (.ptr 1 0), .lf (.gr (.pair (.int .i64) (.pair (.int .i64) (.int .i64))) 2), .lf (.int .i64), .lf (.int .i64)]), some (.box true [.lf (.sl (.int .u8)), .lf (.int .i64), .lf (.int .i64), .lf (.int .i64)]), some (.arr true (.pair (.int .i64) (.pair (.int .i64) (.int .i64)))), some (.box true [.many (.int .i64) 16, .lf (.sl (.int .i64)), .lf (.sl (.int .i64)), .lf (.gr (.int .i64) 4)]), some (.arr true (.int .i64)), some (.arr true (.int .i64))]⟩)]
noncomputable def b66_b_3 (x : g66_b_3.D) : Option (outD o66_b_3) :=
  (if (x.2.2.2.1 = true) then (if ((0 : Int) ≤ (Go.IntKind.wrap Go.IntKind.i64 ((((List.length x.2.2.2.2.2.2.2.2.2.2.2.2.2.2.2.2.1) : Nat) : Int) - (1 : Int)))) then (if ((Go.IntKind.wrap Go.IntKind.i64 ((((List.length x.2.2.2.2.2.2.2.2.2.2.2.2.2.2.2.2.1) : Nat) : Int) - (1 : Int))) < (((List.length x.2.2.2.2.2.2.2.2.2.2.2.2.2.2.2.2.1) : Nat) : Int)) then (if ((List.length x.2.2.2.2.2.2.2.2.2.2.2.2.2.2.2.2.1) = (List.length x.2.2.2.2.2.2.2.2.2.2.2.2.2.2.2.2.1)) then (if ((List.length x.2.2.2.2.2.2.2.2.2.2.2.1) = (List.length x.2.2.2.2.2.2.2.2.2.2.2.1)) then (if ((List.length x.2.2.2.2.2.2.2.2.2.2.2.2.2.2.2.1) = (List.length x.2.2.2.2.2.2.2.2.2.2.2.2.2.2.2.1)) then (some (Sum.inl (x.1, (x.2.1, (x.2.2.1, ((List.getD x.2.2.2.2.2.2.2.2.2.2.2.2.2.2.2.2.1 ((0 : Nat) + (Int.toNat (Go.IntKind.wrap Go.IntKind.i64 ((((List.length x.2.2.2.2.2.2.2.2.2.2.2.2.2.2.2.2.1) : Nat) : Int) - (1 : Int))))) (0 : Int)), (x.2.2.2.2.2.1, (x.2.2.2.2.2.2.1, (x.2.2.2.2.2.2.2.1, (x.2.2.2.2.2.2.2.2.1, (x.2.2.2.2.2.2.2.2.2.1, (x.2.2.2.2.2.2.2.2.2.2.1, (x.2.2.2.2.2.2.2.2.2.2.2.1, (x.2.2.2.2.2.2.2.2.2.2.2.2.1, (x.2.2.2.2.2.2.2.2.2.2.2.2.2.1, (x.2.2.2.2.2.2.2.2.2.2.2.2.2.2.1, (x.2.2.2.2.2.2.2.2.2.2.2.2.2.2.2.1, (x.2.2.2.2.2.2.2.2.2.2.2.2.2.2.2.2.1, Unit.unit))))))))))))))))))
   else none)
   else none)
   else none)
   else none)
   else none)
   else (if ((List.length x.2.2.2.2.2.2.2.2.2.2.2.2.2.2.2.2.1) = (List.length x.2.2.2.2.2.2.2.2.2.2.2.2.2.2.2.2.1)) then (if ((List.length x.2.2.2.2.2.2.2.2.2.2.2.1) = (List.length x.2.2.2.2.2.2.2.2.2.2.2.1)) then (if ((List.length x.2.2.2.2.2.2.2.2.2.2.2.2.2.2.2.1) = (List.length x.2.2.2.2.2.2.2.2.2.2.2.2.2.2.2.1)) then (some (Sum.inl (x.1, (x.2.1, (x.2.2.1, (x.2.2.2.2.1, (x.2.2.2.2.2.1, (x.2.2.2.2.2.2.1, (x.2.2.2.2.2.2.2.1, (x.2.2.2.2.2.2.2.2.1, (x.2.2.2.2.2.2.2.2.2.1, (x.2.2.2.2.2.2.2.2.2.2.1, (x.2.2.2.2.2.2.2.2.2.2.2.1, (x.2.2.2.2.2.2.2.2.2.2.2.2.1, (x.2.2.2.2.2.2.2.2.2.2.2.2.2.1, (x.2.2.2.2.2.2.2.2.2.2.2.2.2.2.1, (x.2.2.2.2.2.2.2.2.2.2.2.2.2.2.2.1, (x.2.2.2.2.2.2.2.2.2.2.2.2.2.2.2.2.1, Unit.unit))))))))))))))))))
   else none)
   else none)
   else none))
theorem b66_b_3_eq (x : g66_b_3.D) : b66_b_3 x = evF P (T74.orc _) Go.Proofs.Try.f66.ntmps fx66_b (Code.at [true, false, true, true, false, false, false, true, false, true, true, true, true, true, false] c66) (planAt 64 []) g66_b_3 x (injK fx66_b o66_b_3 some) := by kernel_rfl
theorem s66_b_3_ok : SubOk P Go.Proofs.Try.f66.ntmps fx66_b (Code.at [true, false, true, true, false, false, false, true, false, true, true, true, true, true, false] c66) ⟨g66_b_3, o66_b_3, b66_b_3⟩ :=
  sub_ok (g := g66_b_3) (outs := o66_b_3) (f := b66_b_3) (Table.ok T74_ok _) hmix (planAt_ok (P := P) (n := Go.Proofs.Try.f66.ntmps) (fx := fx66_b) (c := (Code.at [true, false, true, true, false, false, false, true, false, true, true, true, true, true, false] c66)) (d := 64) (l := []) trivial) b66_b_3_eq
abbrev g66_b_1 : Sg := ⟨[0, 1, 2, 8], [.lf (.ptr 0 0), .lf (.ptr 3 0), .lf (.int .i64), .lf (.gr (.int .i64) 5)], [some (.box true [.lf (.ptr 1 0), .lf (.gr (.pair (.int .i64) (.pair (.int .i64) (.int .i64))) 2), .lf (.int .i64), .lf (.int .i64)]), some (.box true [.lf (.sl (.int .u8)), .lf (.int .i64), .lf (.int .i64), .lf (.int .i64)]), some (.arr true (.pair (.int .i64) (.pair (.int .i64) (.int .i64)))), some (.box true [.many (.int .i64) 16, .lf (.sl (.int .i64)), .lf (.sl (.int .i64)), .lf (.gr (.int .i64) 4)]), some (.arr true (.int .i64)), some (.arr true (.int .i64))]⟩
abbrev o66_b_1 : Outs := [(.exit 0, ⟨[8], [.lf (.gr (.int .i64) 5)], [some (.box true [.lf (.ptr 1 0), .lf (.gr (.pair (.int .i64) (.pair (.int .i64) (.int .i64))) 2), .lf (.int .i64), .lf (.int .i64)]), some (.box true [.lf (.sl (.int .u8)), .lf (.int .i64), .lf (.int .i64), .lf (.int .i64)]), some (.arr true (.pair (.int .i64) (.pair (.int .i64) (.int .i64)))), some (.box true [.many (.int .i64) 16, .lf (.sl (.int .i64)), .lf (.sl (.int .i64)), .lf (.gr (.int .i64) 4)]), some (.arr true (.int .i64)), some (.arr true (.int .i64))]⟩), (.ret, ⟨[6, 7], [.lf (.sl (.int .i64)), .lf (.int .i64)], [some (.box true [.lf (.ptr 1 0), .lf (.gr (.pair (.int .i64) (.pair (.int .i64) (.int .i64))) 2), .lf (.int .i64), .lf (.int .i64)]), some (.box true [.lf (.sl (.int .u8)), .lf (.int .i64), .lf (.int .i64), .lf (.int .i64)]), some (.arr true (.pair (.int .i64) (.pair (.int .i64) (.int .i64)))), some (.box true [.many (.int .i64) 16, .lf (.sl (.int .i64)), .lf (.sl (.int .i64)), .lf (.gr (.int .i64) 4)]), some (.arr true (.int .i64))]⟩)]
noncomputable def b66_b_1 (x : g66_b_1.D) : Option (outD ((.normal, g66_b_1) :: o66_b_1)) :=
  (if ((decide ((((List.length x.2.2.2.2.2.2.2.2.2.2.2.2.1) : Nat) : Int) < x.1)) = true) then (if ((List.length x.2.2.2.2.2.2.2.2.2.2.2.1) = (List.length x.2.2.2.2.2.2.2.2.2.2.2.1)) then (Option.bind (Go.Ev.Deflate.f71_b (x.2.2.2.2.2.2.2.2.1, (x.2.2.2.2.2.2.2.2.2.1, (x.2.2.2.2.2.2.2.2.2.2.1, (x.2.2.2.2.2.2.2.2.2.2.2.1, (x.2.2.2.1, (x.2.2.2.2.1, (x.2.2.2.2.2.1, (x.2.2.2.2.2.2.1, Unit.unit))))))))) (fun y1 => (if ((y1.2.1 != (0 : Int)) = true) then (if ((List.length x.2.2.2.2.2.2.2.1) = (List.length x.2.2.2.2.2.2.2.1)) then (if ((List.length y1.2.2.2.2.2.1) = (List.length y1.2.2.2.2.2.1)) then (some (Sum.inr (Sum.inr (Sum.inl ([], (y1.2.1, (x.2.1, (x.2.2.1, (y1.2.2.2.2.2.2.1, (y1.2.2.2.2.2.2.2.1, (y1.2.2.2.2.2.2.2.2.1, (y1.2.2.2.2.2.2.2.2.2.1, (x.2.2.2.2.2.2.2.1, (y1.2.2.1, (y1.2.2.2.1, (y1.2.2.2.2.1, (y1.2.2.2.2.2.1, Unit.unit)))))))))))))))))
   else none)
   else none)
   else (if ((decide (y1.1 < (16 : Int))) = true) then (if (((List.length (List.take (List.length x.2.2.2.2.2.2.2.2.2.2.2.2.1) (List.drop (0 : Nat) x.2.2.2.2.2.2.2.2.2.2.2.2.1))) + (List.length (List.take (1 : Nat) (List.drop (0 : Nat) (List.set (List.replicate (1 : Nat) (0 : Int)) (0 : Nat) y1.1))))) ≤ (17592186044416 : Nat)) then (if ((List.length ((List.take (List.length x.2.2.2.2.2.2.2.2.2.2.2.2.1) (List.drop (0 : Nat) x.2.2.2.2.2.2.2.2.2.2.2.2.1)) ++ (List.take (1 : Nat) (List.drop (0 : Nat) (List.set (List.replicate (1 : Nat) (0 : Int)) (0 : Nat) y1.1))))) = (List.length ((List.take (List.length x.2.2.2.2.2.2.2.2.2.2.2.2.1) (List.drop (0 : Nat) x.2.2.2.2.2.2.2.2.2.2.2.2.1)) ++ (List.take (1 : Nat) (List.drop (0 : Nat) (List.set (List.replicate (1 : Nat) (0 : Int)) (0 : Nat) y1.1)))))) then (if ((List.length x.2.2.2.2.2.2.2.1) = (List.length x.2.2.2.2.2.2.2.1)) then (if ((List.length y1.2.2.2.2.2.1) = (List.length y1.2.2.2.2.2.1)) then (some (Sum.inl (x.1, (x.2.1, (x.2.2.1, (y1.2.2.2.2.2.2.1, (y1.2.2.2.2.2.2.2.1, (y1.2.2.2.2.2.2.2.2.1, (y1.2.2.2.2.2.2.2.2.2.1, (x.2.2.2.2.2.2.2.1, (y1.2.2.1, (y1.2.2.2.1, (y1.2.2.2.2.1, (y1.2.2.2.2.2.1, (((List.take (List.length x.2.2.2.2.2.2.2.2.2.2.2.2.1) (List.drop (0 : Nat) x.2.2.2.2.2.2.2.2.2.2.2.2.1)) ++ (List.take (1 : Nat) (List.drop (0 : Nat) (List.set (List.replicate (1 : Nat) (0 : Int)) (0 : Nat) y1.1)))), Unit.unit)))))))))))))))
   else none)
   else none)
   else none)
   else none)
   else (Option.bind (Go.Ev.Deflate.f74 (y1.1, Unit.unit)) (fun y2 => (if ((List.length x.2.2.2.2.2.2.2.2.2.2.2.2.1) = (List.length x.2.2.2.2.2.2.2.2.2.2.2.2.1)) then (if ((List.length x.2.2.2.2.2.2.2.1) = (List.length x.2.2.2.2.2.2.2.1)) then (if ((List.length y1.2.2.2.2.2.1) = (List.length y1.2.2.2.2.2.1)) then (Option.bind (Go.Ev.Deflate.b66_b_2 (x.1, (y2.1, (y2.2.1, (y2.2.2.1, ((0 : Int), (x.2.1, (x.2.2.1, (y1.2.2.2.2.2.2.1, (y1.2.2.2.2.2.2.2.1, (y1.2.2.2.2.2.2.2.2.1, (y1.2.2.2.2.2.2.2.2.2.1, (x.2.2.2.2.2.2.2.1, (y1.2.2.1, (y1.2.2.2.1, (y1.2.2.2.2.1, (y1.2.2.2.2.2.1, (x.2.2.2.2.2.2.2.2.2.2.2.2.1, Unit.unit)))))))))))))))))) (Sum.elim (fun y3 => (if (y3.2.2.2.2.2.1 = true) then (if ((List.length y3.2.2.2.2.2.2.2.2.2.2.2.2.1) = (List.length y3.2.2.2.2.2.2.2.2.2.2.2.2.1)) then (if ((List.length y3.2.2.2.2.2.2.2.2.2.2.2.2.2.2.2.2.1) = (List.length y3.2.2.2.2.2.2.2.2.2.2.2.2.2.2.2.2.1)) then (some (Sum.inr (Sum.inr (Sum.inl ([], ((4 : Int), (y3.2.2.2.2.2.2.1, (y3.2.2.2.2.2.2.2.1, (y3.2.2.2.2.2.2.2.2.1, (y3.2.2.2.2.2.2.2.2.2.1, (y3.2.2.2.2.2.2.2.2.2.2.1, (y3.2.2.2.2.2.2.2.2.2.2.2.1, (y3.2.2.2.2.2.2.2.2.2.2.2.2.1, (y3.2.2.2.2.2.2.2.2.2.2.2.2.2.1, (y3.2.2.2.2.2.2.2.2.2.2.2.2.2.2.1, (y3.2.2.2.2.2.2.2.2.2.2.2.2.2.2.2.1, (y3.2.2.2.2.2.2.2.2.2.2.2.2.2.2.2.2.1, Unit.unit)))))))))))))))))
   else none)
   else none)
   else (if ((List.length y3.2.2.2.2.2.2.2.2.2.2.2.2.2.2.2.2.2.1) = (List.length y3.2.2.2.2.2.2.2.2.2.2.2.2.2.2.2.2.2.1)) then (if ((List.length y3.2.2.2.2.2.2.2.2.2.2.2.2.1) = (List.length y3.2.2.2.2.2.2.2.2.2.2.2.2.1)) then (if ((List.length y3.2.2.2.2.2.2.2.2.2.2.2.2.2.2.2.2.1) = (List.length y3.2.2.2.2.2.2.2.2.2.2.2.2.2.2.2.2.1)) then (Option.bind (Go.Ev.Deflate.b66_b_3 (y3.1, (y3.2.1, (y3.2.2.1, (y3.2.2.2.1, (y3.2.2.2.2.1, (y3.2.2.2.2.2.2.1, (y3.2.2.2.2.2.2.2.1, (y3.2.2.2.2.2.2.2.2.1, (y3.2.2.2.2.2.2.2.2.2.1, (y3.2.2.2.2.2.2.2.2.2.2.1, (y3.2.2.2.2.2.2.2.2.2.2.2.1, (y3.2.2.2.2.2.2.2.2.2.2.2.2.1, (y3.2.2.2.2.2.2.2.2.2.2.2.2.2.1, (y3.2.2.2.2.2.2.2.2.2.2.2.2.2.2.1, (y3.2.2.2.2.2.2.2.2.2.2.2.2.2.2.2.1, (y3.2.2.2.2.2.2.2.2.2.2.2.2.2.2.2.2.1, (y3.2.2.2.2.2.2.2.2.2.2.2.2.2.2.2.2.2.1, Unit.unit)))))))))))))))))) (Sum.elim (fun y4 => (Option.bind (Go.Ev.Deflate.f61 (y4.2.1, (y4.2.2.2.2.2.2.1, (y4.2.2.2.2.2.2.2.1, (y4.2.2.2.2.2.2.2.2.1, (y4.2.2.2.2.2.2.2.2.2.1, Unit.unit)))))) (fun y5 => (if ((y5.2.1 != (0 : Int)) = true) then (if ((List.length y4.2.2.2.2.2.2.2.2.2.2.1) = (List.length y4.2.2.2.2.2.2.2.2.2.2.1)) then (if ((List.length y4.2.2.2.2.2.2.2.2.2.2.2.2.2.2.1) = (List.length y4.2.2.2.2.2.2.2.2.2.2.2.2.2.2.1)) then (some (Sum.inr (Sum.inr (Sum.inl ([], (y5.2.1, (y4.2.2.2.2.1, (y4.2.2.2.2.2.1, (y5.2.2.1, (y5.2.2.2.1, (y5.2.2.2.2.1, (y5.2.2.2.2.2.1, (y4.2.2.2.2.2.2.2.2.2.2.1, (y4.2.2.2.2.2.2.2.2.2.2.2.1, (y4.2.2.2.2.2.2.2.2.2.2.2.2.1, (y4.2.2.2.2.2.2.2.2.2.2.2.2.2.1, (y4.2.2.2.2.2.2.2.2.2.2.2.2.2.2.1, Unit.unit)))))))))))))))))
   else none)
   else none)
   else (if ((decide ((Go.IntKind.wrap Go.IntKind.i64 ((Go.IntKind.wrap Go.IntKind.i64 ((((List.length y4.2.2.2.2.2.2.2.2.2.2.2.2.2.2.2.1) : Nat) : Int) + y4.2.2.1)) + y5.1)) > y4.1)) = true) then (if ((List.length y4.2.2.2.2.2.2.2.2.2.2.1) = (List.length y4.2.2.2.2.2.2.2.2.2.2.1)) then (if ((List.length y4.2.2.2.2.2.2.2.2.2.2.2.2.2.2.1) = (List.length y4.2.2.2.2.2.2.2.2.2.2.2.2.2.2.1)) then (some (Sum.inr (Sum.inr (Sum.inl ([], ((4 : Int), (y4.2.2.2.2.1, (y4.2.2.2.2.2.1, (y5.2.2.1, (y5.2.2.2.1, (y5.2.2.2.2.1, (y5.2.2.2.2.2.1, (y4.2.2.2.2.2.2.2.2.2.2.1, (y4.2.2.2.2.2.2.2.2.2.2.2.1, (y4.2.2.2.2.2.2.2.2.2.2.2.2.1, (y4.2.2.2.2.2.2.2.2.2.2.2.2.2.1, (y4.2.2.2.2.2.2.2.2.2.2.2.2.2.2.1, Unit.unit)))))))))))))))))
   else none)
   else none)
   else (Option.bind (Go.Ev.Deflate.f27 ((List.take (1 : Nat) (List.drop (0 : Nat) (List.set (List.replicate (1 : Nat) (0 : Int)) (0 : Nat) y4.2.2.2.1))), ((Go.IntKind.wrap Go.IntKind.i64 (y4.2.2.1 + y5.1)), Unit.unit))) (fun y6 => (if (((List.length (List.take (List.length y4.2.2.2.2.2.2.2.2.2.2.2.2.2.2.2.1) (List.drop (0 : Nat) y4.2.2.2.2.2.2.2.2.2.2.2.2.2.2.2.1))) + (List.length (List.take (List.length y6.1) (List.drop (0 : Nat) y6.1)))) ≤ (17592186044416 : Nat)) then (if ((List.length ((List.take (List.length y4.2.2.2.2.2.2.2.2.2.2.2.2.2.2.2.1) (List.drop (0 : Nat) y4.2.2.2.2.2.2.2.2.2.2.2.2.2.2.2.1)) ++ (List.take (List.length y6.1) (List.drop (0 : Nat) y6.1)))) = (List.length ((List.take (List.length y4.2.2.2.2.2.2.2.2.2.2.2.2.2.2.2.1) (List.drop (0 : Nat) y4.2.2.2.2.2.2.2.2.2.2.2.2.2.2.2.1)) ++ (List.take (List.length y6.1) (List.drop (0 : Nat) y6.1))))) then (if ((List.length y4.2.2.2.2.2.2.2.2.2.2.1) = (List.length y4.2.2.2.2.2.2.2.2.2.2.1)) then (if ((List.length y4.2.2.2.2.2.2.2.2.2.2.2.2.2.2.1) = (List.length y4.2.2.2.2.2.2.2.2.2.2.2.2.2.2.1)) then (some (Sum.inl (y4.1, (y4.2.2.2.2.1, (y4.2.2.2.2.2.1, (y5.2.2.1, (y5.2.2.2.1, (y5.2.2.2.2.1, (y5.2.2.2.2.2.1, (y4.2.2.2.2.2.2.2.2.2.2.1, (y4.2.2.2.2.2.2.2.2.2.2.2.1, (y4.2.2.2.2.2.2.2.2.2.2.2.2.1, (y4.2.2.2.2.2.2.2.2.2.2.2.2.2.1, (y4.2.2.2.2.2.2.2.2.2.2.2.2.2.2.1, (((List.take (List.length y4.2.2.2.2.2.2.2.2.2.2.2.2.2.2.2.1) (List.drop (0 : Nat) y4.2.2.2.2.2.2.2.2.2.2.2.2.2.2.2.1)) ++ (List.take (List.length y6.1) (List.drop (0 : Nat) y6.1))), Unit.unit)))))))))))))))
   else none)
   else none)
   else none)
   else none)))))))) Empty.elim))
   else none)
   else none)
   else none))) Empty.elim))
   else none)
   else none)
   else none)))))))
   else none)
   else (if ((List.length x.2.2.2.2.2.2.2.2.2.2.2.2.1) = (List.length x.2.2.2.2.2.2.2.2.2.2.2.2.1)) then (if ((List.length x.2.2.2.2.2.2.2.1) = (List.length x.2.2.2.2.2.2.2.1)) then (if ((List.length x.2.2.2.2.2.2.2.2.2.2.2.1) = (List.length x.2.2.2.2.2.2.2.2.2.2.2.1)) then (some (Sum.inr (Sum.inl (x.2.1, (x.2.2.1, (x.2.2.2.1, (x.2.2.2.2.1, (x.2.2.2.2.2.1, (x.2.2.2.2.2.2.1, (x.2.2.2.2.2.2.2.1, (x.2.2.2.2.2.2.2.2.1, (x.2.2.2.2.2.2.2.2.2.1, (x.2.2.2.2.2.2.2.2.2.2.1, (x.2.2.2.2.2.2.2.2.2.2.2.1, (x.2.2.2.2.2.2.2.2.2.2.2.2.1, Unit.unit)))))))))))))))
   else none)
   else none)
   else none))
theorem b66_b_1_eq (x : g66_b_1.D) : b66_b_1 x = evF P (T74.orc _) Go.Proofs.Try.f66.ntmps fx66_b (Code.at [true, false, true, true, false, false, false] c66) (planAt 64 [([true, false, true, true, true, true, false, false], ⟨g66_b_2, o66_b_2, b66_b_2⟩), ([true, false, true, true, true, true, true, false], ⟨g66_b_3, o66_b_3, b66_b_3⟩)]) g66_b_1 x (injK fx66_b ((.normal, g66_b_1) :: o66_b_1) some) := by kernel_rfl
noncomputable def l66_b_1 : g66_b_1.D → Option (outD o66_b_1) := loopN g66_b_1 o66_b_1 b66_b_1 18446744073709551616
theorem p66_b_1 : AllSub P Go.Proofs.Try.f66.ntmps fx66_b (Code.at [true, false, true, true, false, false, false] c66) [([true, false, true, true, true, true, false, false], ⟨g66_b_2, o66_b_2, b66_b_2⟩), ([true, false, true, true, true, true, true, false], ⟨g66_b_3, o66_b_3, b66_b_3⟩)] := And.intro s66_b_2_ok (And.intro s66_b_3_ok (trivial))
theorem q66_b_1 : PlanOk P Go.Proofs.Try.f66.ntmps fx66_b (planAt 64 [([true, false, true, true, true, true, false, false], ⟨g66_b_2, o66_b_2, b66_b_2⟩), ([true, false, true, true, true, true, true, false], ⟨g66_b_3, o66_b_3, b66_b_3⟩)]) (Code.at [true, false, true, true, false, false, false] c66) := planAt_ok p66_b_1
theorem at66_b_1 : Code.at [true, false, true, true, false, false] c66 = .loop (Code.at [true, false, true, true, false, false, false] c66) := by kernel_rfl
theorem s66_b_1_ok : SubOk P Go.Proofs.Try.f66.ntmps fx66_b (Code.at [true, false, true, true, false, false] c66) ⟨g66_b_1, o66_b_1, l66_b_1⟩ := by
  rw [at66_b_1]
  exact loop_ok (sub_ok (g := g66_b_1) (outs := ((.normal, g66_b_1) :: o66_b_1)) (f := b66_b_1) (Table.ok T74_ok _) hmix (q66_b_1) b66_b_1_eq) rfl _
noncomputable def f66_b (x : gi66_b.D) : Option go66_b.D :=
  (if ((List.length x.2.2.2.2.2.2.2.1) = (List.length x.2.2.2.2.2.2.2.1)) then (if ((List.length x.2.2.2.2.2.2.2.2.2.2.2.1) = (List.length x.2.2.2.2.2.2.2.2.2.2.2.1)) then (Option.bind (Go.Ev.Deflate.l66_b_1 (x.1, (x.2.1, (x.2.2.1, (x.2.2.2.1, (x.2.2.2.2.1, (x.2.2.2.2.2.1, (x.2.2.2.2.2.2.1, (x.2.2.2.2.2.2.2.1, (x.2.2.2.2.2.2.2.2.1, (x.2.2.2.2.2.2.2.2.2.1, (x.2.2.2.2.2.2.2.2.2.2.1, (x.2.2.2.2.2.2.2.2.2.2.2.1, ([], Unit.unit)))))))))))))) (Sum.elim (fun y1 => (if ((List.length y1.2.2.2.2.2.2.1) = (List.length y1.2.2.2.2.2.2.1)) then (if ((List.length y1.2.2.2.2.2.2.2.2.2.2.1) = (List.length y1.2.2.2.2.2.2.2.2.2.2.1)) then (some ((List.take (List.length y1.2.2.2.2.2.2.2.2.2.2.2.1) (List.drop (0 : Nat) y1.2.2.2.2.2.2.2.2.2.2.2.1)), ((0 : Int), (y1.1, (y1.2.1, (y1.2.2.1, (y1.2.2.2.1, (y1.2.2.2.2.1, (y1.2.2.2.2.2.1, (y1.2.2.2.2.2.2.1, (y1.2.2.2.2.2.2.2.1, (y1.2.2.2.2.2.2.2.2.1, (y1.2.2.2.2.2.2.2.2.2.1, (y1.2.2.2.2.2.2.2.2.2.2.1, Unit.unit))))))))))))))
   else none)
   else none)) (Sum.elim (fun y1 => (if ((List.length y1.2.2.2.2.2.2.2.2.1) = (List.length y1.2.2.2.2.2.2.2.2.1)) then (if ((List.length y1.2.2.2.2.2.2.2.2.2.2.2.2.1) = (List.length y1.2.2.2.2.2.2.2.2.2.2.2.2.1)) then (some (y1.1, (y1.2.1, (y1.2.2.1, (y1.2.2.2.1, (y1.2.2.2.2.1, (y1.2.2.2.2.2.1, (y1.2.2.2.2.2.2.1, (y1.2.2.2.2.2.2.2.1, (y1.2.2.2.2.2.2.2.2.1, (y1.2.2.2.2.2.2.2.2.2.1, (y1.2.2.2.2.2.2.2.2.2.2.1, (y1.2.2.2.2.2.2.2.2.2.2.2.1, (y1.2.2.2.2.2.2.2.2.2.2.2.2.1, Unit.unit))))))))))))))
   else none)
   else none)) Empty.elim)))
   else none)
   else none)
theorem f66_b_eq (x : gi66_b.D) : f66_b x = evF P (T74.orc _) Go.Proofs.Try.f66.ntmps fx66_b c66 (planAt 64 [([true, false, true, true, false, false], ⟨g66_b_1, o66_b_1, l66_b_1⟩)]) gi66_b x (fnK fx66_b [go66_b]) := by kernel_rfl
theorem pf66_b : AllSub P Go.Proofs.Try.f66.ntmps fx66_b c66 [([true, false, true, true, false, false], ⟨g66_b_1, o66_b_1, l66_b_1⟩)] := And.intro s66_b_1_ok (trivial)
theorem qf66_b : PlanOk P Go.Proofs.Try.f66.ntmps fx66_b (planAt 64 [([true, false, true, true, false, false], ⟨g66_b_1, o66_b_1, l66_b_1⟩)]) c66 := planAt_ok pf66_b
theorem f66_b_ok : EntOk P 66 ⟨gi66_b, [go66_b], f66_b⟩ :=
  ent_ok (fn := Go.Proofs.Try.f66) (gi := gi66_b) (gos := [go66_b]) (f := f66_b) (c := c66) (fx := fx66_b) ⟨Go.Proofs.Try.func66, by kernel_rfl, rfl, by decide +kernel, rfl, rfl⟩ (by kernel_rfl) (Table.ok T74_ok _) hmix (qf66_b) f66_b_eq
noncomputable def T66 : Table := T74.add 66 [⟨gi66, [go66], f66⟩, ⟨gi66_b, [go66_b], f66_b⟩] []
theorem T66_ok : TableOk P T66 := Table.plus T74_ok (es := [⟨gi66, [go66], f66⟩, ⟨gi66_b, [go66_b], f66_b⟩]) ⟨f66_ok, f66_b_ok, trivial⟩ []

/-! ## 48: (*erasure/inflate.work).own -/
noncomputable def c48 : Code := Func.code Go.Proofs.Try.f48
abbrev gi48 : Sg := ⟨[0], [.lf (.ptr 0 0)], [some (.box true [.lf (.ptr 1 0), .lf (.gr (.pair (.int .i64) (.pair (.int .i64) (.int .i64))) 2), .lf (.int .i64), .lf (.int .i64)]), some (.box true [.lf (.sl (.int .u8)), .lf (.int .i64), .lf (.int .i64), .lf (.int .i64)]), some (.arr true (.pair (.int .i64) (.pair (.int .i64) (.int .i64))))]⟩
abbrev go48 : Sg := ⟨[2], [.lf (.int .i64)], [some (.box true [.lf (.ptr 1 0), .lf (.gr (.pair (.int .i64) (.pair (.int .i64) (.int .i64))) 3), .lf (.int .i64), .lf (.int .i64)]), some (.box true [.lf (.sl (.int .u8)), .lf (.int .i64), .lf (.int .i64), .lf (.int .i64)]), none, some (.arr true (.pair (.int .i64) (.pair (.int .i64) (.int .i64))))]⟩
def fx48 : List Bool := [true, true, false]
abbrev g48_2 : Sg := ⟨[0, 5, 6, 7, 46, 47, 48], [.lf (.ptr 0 0), .lf (.int .i64), .lf (.int .i64), .lf (.gr (.int .i64) 3), .lf (.sl (.int .i64)), .lf (.int .i64), .lf (.int .i64)], [some (.box true [.lf (.ptr 1 0), .lf (.gr (.pair (.int .i64) (.pair (.int .i64) (.int .i64))) 4), .lf (.int .i64), .lf (.int .i64)]), some (.box true [.lf (.sl (.int .u8)), .lf (.int .i64), .lf (.int .i64), .lf (.int .i64)]), none, some (.arr true (.int .i64)), some (.arr true (.pair (.int .i64) (.pair (.int .i64) (.int .i64))))]⟩
abbrev o48_2 : Outs := [(.exit 0, ⟨[0, 5, 6, 7], [.lf (.ptr 0 0), .lf (.int .i64), .lf (.int .i64), .lf (.gr (.int .i64) 3)], [some (.box true [.lf (.ptr 1 0), .lf (.gr (.pair (.int .i64) (.pair (.int .i64) (.int .i64))) 4), .lf (.int .i64), .lf (.int .i64)]), some (.box true [.lf (.sl (.int .u8)), .lf (.int .i64), .lf (.int .i64), .lf (.int .i64)]), none, some (.arr true (.int .i64)), some (.arr true (.pair (.int .i64) (.pair (.int .i64) (.int .i64))))]⟩), (.ret, ⟨[2], [.lf (.int .i64)], [some (.box true [.lf (.ptr 1 0), .lf (.gr (.pair (.int .i64) (.pair (.int .i64) (.int .i64))) 3), .lf (.int .i64), .lf (.int .i64)]), some (.box true [.lf (.sl (.int .u8)), .lf (.int .i64), .lf (.int .i64), .lf (.int .i64)]), none, some (.arr true (.pair (.int .i64) (.pair (.int .i64) (.int .i64))))]⟩)]
noncomputable def b48_2 (x : g48_2.D) : Option (outD ((.normal, g48_2) :: o48_2)) :=
  (if ((decide (x.2.2.2.2.1 < x.2.2.2.1)) = true) then (if ((0 : Int) ≤ x.2.2.2.2.1) then (if (x.2.2.2.2.1 < (((List.length x.2.2.1) : Nat) : Int)) then (Option.bind (Go.Ev.Deflate.f61 ((3 : Int), (x.2.2.2.2.2.2.2.1, (x.2.2.2.2.2.2.2.2.1, (x.2.2.2.2.2.2.2.2.2.1, (x.2.2.2.2.2.2.2.2.2.2.1, Unit.unit)))))) (fun y1 => (if ((y1.2.1 != (0 : Int)) = true) then (if ((List.length x.2.2.2.2.2.2.2.2.2.2.2.2.1) = (List.length x.2.2.2.2.2.2.2.2.2.2.2.2.1)) then (some (Sum.inr (Sum.inr (Sum.inl (y1.2.1, (x.2.2.2.2.2.1, (x.2.2.2.2.2.2.1, (y1.2.2.1, (y1.2.2.2.1, (y1.2.2.2.2.1, (y1.2.2.2.2.2.1, (x.2.2.2.2.2.2.2.2.2.2.2.2.1, Unit.unit))))))))))))
   else none)
   else (if ((0 : Int) ≤ (List.getD x.2.2.1 (Int.toNat x.2.2.2.2.1) (0 : Int))) then (if ((List.getD x.2.2.1 (Int.toNat x.2.2.2.2.1) (0 : Int)) < (((List.length x.2.2.2.2.2.2.2.2.2.2.2.1) : Nat) : Int)) then (if ((List.length x.2.2.2.2.2.2.2.2.2.2.2.1) = (List.length (List.set x.2.2.2.2.2.2.2.2.2.2.2.1 ((0 : Nat) + (Int.toNat (List.getD x.2.2.1 (Int.toNat x.2.2.2.2.1) (0 : Int)))) y1.1))) then (if ((List.length x.2.2.2.2.2.2.2.2.2.2.2.2.1) = (List.length x.2.2.2.2.2.2.2.2.2.2.2.2.1)) then (some (Sum.inl (x.1, (x.2.1, (x.2.2.1, (x.2.2.2.1, ((Go.IntKind.wrap Go.IntKind.i64 (x.2.2.2.2.1 + (1 : Int))), (x.2.2.2.2.2.1, (x.2.2.2.2.2.2.1, (y1.2.2.1, (y1.2.2.2.1, (y1.2.2.2.2.1, (y1.2.2.2.2.2.1, ((List.set x.2.2.2.2.2.2.2.2.2.2.2.1 ((0 : Nat) + (Int.toNat (List.getD x.2.2.1 (Int.toNat x.2.2.2.2.1) (0 : Int)))) y1.1), (x.2.2.2.2.2.2.2.2.2.2.2.2.1, Unit.unit)))))))))))))))
   else none)
   else none)
   else none)
   else none))))
   else none)
   else none)
   else (if ((List.length x.2.2.2.2.2.2.2.2.2.2.2.1) = (List.length x.2.2.2.2.2.2.2.2.2.2.2.1)) then (if ((List.length x.2.2.2.2.2.2.2.2.2.2.2.2.1) = (List.length x.2.2.2.2.2.2.2.2.2.2.2.2.1)) then (some (Sum.inr (Sum.inl (x.1, (x.2.1, (x.2.2.2.2.2.1, (x.2.2.2.2.2.2.1, (x.2.2.2.2.2.2.2.1, (x.2.2.2.2.2.2.2.2.1, (x.2.2.2.2.2.2.2.2.2.1, (x.2.2.2.2.2.2.2.2.2.2.1, (x.2.2.2.2.2.2.2.2.2.2.2.1, (x.2.2.2.2.2.2.2.2.2.2.2.2.1, Unit.unit)))))))))))))
   else none)
   else none))
theorem b48_2_eq (x : g48_2.D) : b48_2 x = evF P (T66.orc _) Go.Proofs.Try.f48.ntmps fx48 (Code.at [true, true, true, true, true, true, false, true, false, false] c48) (planAt 64 []) g48_2 x (injK fx48 ((.normal, g48_2) :: o48_2) some) := by kernel_rfl
noncomputable def l48_2 : g48_2.D → Option (outD o48_2) := loopN g48_2 o48_2 b48_2 18446744073709551616
theorem at48_2 : Code.at [true, true, true, true, true, true, false, true, false] c48 = .loop (Code.at [true, true, true, true, true, true, false, true, false, false] c48) := by kernel_rfl
theorem s48_2_ok : SubOk P Go.Proofs.Try.f48.ntmps fx48 (Code.at [true, true, true, true, true, true, false, true, false] c48) ⟨g48_2, o48_2, l48_2⟩ := by
  rw [at48_2]
  exact loop_ok (sub_ok (g := g48_2) (outs := ((.normal, g48_2) :: o48_2)) (f := b48_2) (Table.ok T66_ok _) hmix (planAt_ok (P := P) (n := Go.Proofs.Try.f48.ntmps) (fx := fx48) (c := (Code.at [true, true, true, true, true, true, false, true, false, false] c48)) (d := 64) (l := []) trivial) b48_2_eq) rfl _
abbrev g48_1 : Sg := ⟨[0, 5, 6, 7], [.lf (.ptr 0 0), .lf (.int .i64), .lf (.int .i64), .lf (.gr (.int .i64) 3)], [some (.box true [.lf (.ptr 1 0), .lf (.gr (.pair (.int .i64) (.pair (.int .i64) (.int .i64))) 4), .lf (.int .i64), .lf (.int .i64)]), some (.box true [.lf (.sl (.int .u8)), .lf (.int .i64), .lf (.int .i64), .lf (.int .i64)]), none, some (.arr true (.int .i64)), some (.arr true (.pair (.int .i64) (.pair (.int .i64) (.int .i64))))]⟩
abbrev o48_1 : Outs := [(.normal, ⟨[0, 4, 5, 6, 12], [.lf (.ptr 0 0), .lf (.int .i64), .lf (.int .i64), .lf (.int .i64), .lf .nilp], [some (.box true [.lf (.ptr 1 0), .lf (.gr (.pair (.int .i64) (.pair (.int .i64) (.int .i64))) 3), .lf (.int .i64), .lf (.int .i64)]), some (.box true [.lf (.sl (.int .u8)), .lf (.int .i64), .lf (.int .i64), .lf (.int .i64)]), none, some (.arr true (.pair (.int .i64) (.pair (.int .i64) (.int .i64))))]⟩), (.normal, ⟨[0, 4, 5, 6, 12], [.lf (.ptr 0 0), .lf (.int .i64), .lf (.int .i64), .lf (.int .i64), .lf (.ptr 3 0)], [some (.box true [.lf (.ptr 1 0), .lf (.gr (.pair (.int .i64) (.pair (.int .i64) (.int .i64))) 4), .lf (.int .i64), .lf (.int .i64)]), some (.box true [.lf (.sl (.int .u8)), .lf (.int .i64), .lf (.int .i64), .lf (.int .i64)]), none, some (.box true [.many (.int .i64) 16, .lf (.sl (.int .i64)), .lf (.sl (.int .i64)), .lf (.gr (.int .i64) 5)]), some (.arr true (.pair (.int .i64) (.pair (.int .i64) (.int .i64)))), some (.arr true (.int .i64))]⟩)]
noncomputable def b48_1 (x : g48_1.D) : Option (outD o48_1) :=
  (Option.bind (Go.Ev.Deflate.f25 ((List.take (List.length x.2.2.2.2.2.2.2.2.1) (List.drop (0 : Nat) x.2.2.2.2.2.2.2.2.1)), Unit.unit)) (Sum.elim (fun y1 => (if ((List.length x.2.2.2.2.2.2.2.2.2.1) = (List.length x.2.2.2.2.2.2.2.2.2.1)) then (some (Sum.inl (y1.1, (x.1, (x.2.1, (x.2.2.1, (x.2.2.2.1, (x.2.2.2.2.1, (x.2.2.2.2.2.1, (x.2.2.2.2.2.2.1, (x.2.2.2.2.2.2.2.1, (x.2.2.2.2.2.2.2.2.2.1, Unit.unit))))))))))))
   else none)) (fun y1 => (if ((List.length x.2.2.2.2.2.2.2.2.2.1) = (List.length x.2.2.2.2.2.2.2.2.2.1)) then (if ((List.length y1.2.2.2.2.1) = (List.length y1.2.2.2.2.1)) then (some (Sum.inr (Sum.inl (y1.1, (x.1, (x.2.1, (x.2.2.1, (x.2.2.2.1, (x.2.2.2.2.1, (x.2.2.2.2.2.1, (x.2.2.2.2.2.2.1, (x.2.2.2.2.2.2.2.1, (y1.2.1, (y1.2.2.1, (y1.2.2.2.1, (x.2.2.2.2.2.2.2.2.2.1, (y1.2.2.2.2.1, Unit.unit)))))))))))))))))
   else none)
   else none))))
theorem b48_1_eq (x : g48_1.D) : b48_1 x = evF P (T66.orc _) Go.Proofs.Try.f48.ntmps fx48 (Code.at [true, true, true, true, true, true, true, false] c48) (planAt 64 []) g48_1 x (injK fx48 o48_1 some) := by kernel_rfl
theorem s48_1_ok : SubOk P Go.Proofs.Try.f48.ntmps fx48 (Code.at [true, true, true, true, true, true, true, false] c48) ⟨g48_1, o48_1, b48_1⟩ :=
  sub_ok (g := g48_1) (outs := o48_1) (f := b48_1) (Table.ok T66_ok _) hmix (planAt_ok (P := P) (n := Go.Proofs.Try.f48.ntmps) (fx := fx48) (c := (Code.at [true, true, true, true, true, true, true, false] c48)) (d := 64) (l := []) trivial) b48_1_eq
noncomputable def f48 (x : gi48.D) : Option go48.D :=
  (if ((List.length x.2.2.2.2.2.2.1) = (List.length x.2.2.2.2.2.2.1)) then (Option.bind (Go.Ev.Deflate.f45 ((List.take (3 : Nat) (List.drop (0 : Nat) (List.set (List.set (List.set (List.replicate (3 : Nat) (0 : Int)) (0 : Nat) (5 : Int)) (1 : Nat) (5 : Int)) (2 : Nat) (4 : Int)))), (x.1, (x.2.1, (x.2.2.1, (x.2.2.2.1, (x.2.2.2.2.1, (x.2.2.2.2.2.1, (x.2.2.2.2.2.2.1, Unit.unit))))))))) (fun y1 => (if ((y1.2.1 != (0 : Int)) = true) then (if ((List.length y1.2.2.2.2.2.2.2.2.1) = (List.length y1.2.2.2.2.2.2.2.2.1)) then (some (y1.2.1, (y1.2.2.1, (y1.2.2.2.1, (y1.2.2.2.2.1, (y1.2.2.2.2.2.1, (y1.2.2.2.2.2.2.1, (y1.2.2.2.2.2.2.2.1, (y1.2.2.2.2.2.2.2.2.1, Unit.unit)))))))))
   else none)
   else (if ((0 : Int) < (((List.length y1.1) : Nat) : Int)) then (if ((1 : Int) < (((List.length y1.1) : Nat) : Int)) then (if ((decide ((Go.IntKind.wrap Go.IntKind.i64 ((Go.IntKind.wrap Go.IntKind.i64 ((List.getD y1.1 (0 : Nat) (0 : Int)) + (256 : Int))) + (1 : Int))) > (286 : Int))) = true) then (if ((List.length y1.2.2.2.2.2.2.2.2.1) = (List.length y1.2.2.2.2.2.2.2.2.1)) then (some ((4 : Int), (y1.2.2.1, (y1.2.2.2.1, (y1.2.2.2.2.1, (y1.2.2.2.2.2.1, (y1.2.2.2.2.2.2.1, (y1.2.2.2.2.2.2.2.1, (y1.2.2.2.2.2.2.2.2.1, Unit.unit)))))))))
   else none)
   else (if ((decide ((Go.IntKind.wrap Go.IntKind.i64 ((List.getD y1.1 (1 : Nat) (0 : Int)) + (1 : Int))) > (30 : Int))) = true) then (if ((List.length y1.2.2.2.2.2.2.2.2.1) = (List.length y1.2.2.2.2.2.2.2.2.1)) then (some ((4 : Int), (y1.2.2.1, (y1.2.2.2.1, (y1.2.2.2.2.1, (y1.2.2.2.2.2.1, (y1.2.2.2.2.2.2.1, (y1.2.2.2.2.2.2.2.1, (y1.2.2.2.2.2.2.2.2.1, Unit.unit)))))))))
   else none)
   else (if ((2 : Int) < (((List.length y1.1) : Nat) : Int)) then (if ((0 : Int) ≤ (Go.IntKind.wrap Go.IntKind.i64 ((List.getD y1.1 (2 : Nat) (0 : Int)) + (4 : Int)))) then (if ((Go.IntKind.wrap Go.IntKind.i64 ((List.getD y1.1 (2 : Nat) (0 : Int)) + (4 : Int))) ≤ (19 : Int)) then (if ((List.length y1.2.2.2.2.2.2.2.2.1) = (List.length y1.2.2.2.2.2.2.2.2.1)) then (Option.bind (Go.Ev.Deflate.l48_2 ((Go.IntKind.wrap Go.IntKind.i64 ((Go.IntKind.wrap Go.IntKind.i64 ((List.getD y1.1 (0 : Nat) (0 : Int)) + (256 : Int))) + (1 : Int))), ((Go.IntKind.wrap Go.IntKind.i64 ((List.getD y1.1 (1 : Nat) (0 : Int)) + (1 : Int))), ((List.take ((Int.toNat (Go.IntKind.wrap Go.IntKind.i64 ((List.getD y1.1 (2 : Nat) (0 : Int)) + (4 : Int)))) - (0 : Nat)) (List.drop (0 : Nat) (List.set (List.set (List.set (List.set (List.set (List.set (List.set (List.set (List.set (List.set (List.set (List.set (List.set (List.set (List.set (List.set (List.set (List.set (List.set (List.replicate (19 : Nat) (0 : Int)) (0 : Nat) (16 : Int)) (1 : Nat) (17 : Int)) (2 : Nat) (18 : Int)) (3 : Nat) (0 : Int)) (4 : Nat) (8 : Int)) (5 : Nat) (7 : Int)) (6 : Nat) (9 : Int)) (7 : Nat) (6 : Int)) (8 : Nat) (10 : Int)) (9 : Nat) (5 : Int)) (10 : Nat) (11 : Int)) (11 : Nat) (4 : Int)) (12 : Nat) (12 : Int)) (13 : Nat) (3 : Int)) (14 : Nat) (13 : Int)) (15 : Nat) (2 : Int)) (16 : Nat) (14 : Int)) (17 : Nat) (1 : Int)) (18 : Nat) (15 : Int)))), (((((Int.toNat (Go.IntKind.wrap Go.IntKind.i64 ((List.getD y1.1 (2 : Nat) (0 : Int)) + (4 : Int)))) - (0 : Nat)) : Nat) : Int), ((0 : Int), (y1.2.2.1, (y1.2.2.2.1, (y1.2.2.2.2.1, (y1.2.2.2.2.2.1, (y1.2.2.2.2.2.2.1, (y1.2.2.2.2.2.2.2.1, ((List.replicate (19 : Nat) (0 : Int)), (y1.2.2.2.2.2.2.2.2.1, Unit.unit)))))))))))))) (Sum.elim (fun y2 => (if ((List.length y2.2.2.2.2.2.2.2.2.1) = (List.length y2.2.2.2.2.2.2.2.2.1)) then (if ((List.length y2.2.2.2.2.2.2.2.2.2.1) = (List.length y2.2.2.2.2.2.2.2.2.2.1)) then (Option.bind (Go.Ev.Deflate.b48_1 (y2.1, (y2.2.1, (y2.2.2.1, (y2.2.2.2.1, (y2.2.2.2.2.1, (y2.2.2.2.2.2.1, (y2.2.2.2.2.2.2.1, (y2.2.2.2.2.2.2.2.1, (y2.2.2.2.2.2.2.2.2.1, (y2.2.2.2.2.2.2.2.2.2.1, Unit.unit))))))))))) (Sum.elim (fun y3 => (if ((y3.1 != (0 : Int)) = true) then (if ((List.length y3.2.2.2.2.2.2.2.2.2.1) = (List.length y3.2.2.2.2.2.2.2.2.2.1)) then (some (y3.1, (y3.2.2.2.1, (y3.2.2.2.2.1, (y3.2.2.2.2.2.1, (y3.2.2.2.2.2.2.1, (y3.2.2.2.2.2.2.2.1, (y3.2.2.2.2.2.2.2.2.1, (y3.2.2.2.2.2.2.2.2.2.1, Unit.unit)))))))))
   else none)
   else (if ((List.length y3.2.2.2.2.2.2.2.2.2.1) = (List.length y3.2.2.2.2.2.2.2.2.2.1)) then (Option.bind (Go.Ev.Deflate.f66 ((Go.IntKind.wrap Go.IntKind.i64 (y3.2.1 + y3.2.2.1)), (y3.2.2.2.1, (y3.2.2.2.2.1, (y3.2.2.2.2.2.1, (y3.2.2.2.2.2.2.1, (y3.2.2.2.2.2.2.2.1, (y3.2.2.2.2.2.2.2.2.1, (y3.2.2.2.2.2.2.2.2.2.1, Unit.unit))))))))) (fun y4 => (if ((y4.2.1 != (0 : Int)) = true) then (if ((List.length y4.2.2.2.2.2.2.2.2.1) = (List.length y4.2.2.2.2.2.2.2.2.1)) then (some (y4.2.1, (y4.2.2.1, (y4.2.2.2.1, (y4.2.2.2.2.1, (y4.2.2.2.2.2.1, (y4.2.2.2.2.2.2.1, (y4.2.2.2.2.2.2.2.1, (y4.2.2.2.2.2.2.2.2.1, Unit.unit)))))))))
   else none)
   else (if ((256 : Int) < (((List.length y4.1) : Nat) : Int)) then (if (((List.getD y4.1 (256 : Nat) (0 : Int)) == (0 : Int)) = true) then (if ((List.length y4.2.2.2.2.2.2.2.2.1) = (List.length y4.2.2.2.2.2.2.2.2.1)) then (some ((4 : Int), (y4.2.2.1, (y4.2.2.2.1, (y4.2.2.2.2.1, (y4.2.2.2.2.2.1, (y4.2.2.2.2.2.2.1, (y4.2.2.2.2.2.2.2.1, (y4.2.2.2.2.2.2.2.2.1, Unit.unit)))))))))
   else none)
   else (if ((0 : Int) ≤ y3.2.1) then (if (y3.2.1 ≤ (((List.length y4.1) : Nat) : Int)) then (Option.bind (Go.Ev.Deflate.f25 ((List.take (Int.toNat y3.2.1) y4.1), Unit.unit)) (Sum.elim (fun y5 => (if ((y5.1 != (0 : Int)) = true) then (if ((List.length y4.2.2.2.2.2.2.2.2.1) = (List.length y4.2.2.2.2.2.2.2.2.1)) then (some (y5.1, (y4.2.2.1, (y4.2.2.2.1, (y4.2.2.2.2.1, (y4.2.2.2.2.2.1, (y4.2.2.2.2.2.2.1, (y4.2.2.2.2.2.2.2.1, (y4.2.2.2.2.2.2.2.2.1, Unit.unit)))))))))
   else none)
   else (if ((0 : Int) ≤ y3.2.1) then (if (y3.2.1 ≤ (((List.length y4.1) : Nat) : Int)) then (Option.bind (Go.Ev.Deflate.f25 ((List.drop (Int.toNat y3.2.1) y4.1), Unit.unit)) (Sum.elim (fun y6 => (if ((y6.1 != (0 : Int)) = true) then (if ((List.length y4.2.2.2.2.2.2.2.2.1) = (List.length y4.2.2.2.2.2.2.2.2.1)) then (some (y6.1, (y4.2.2.1, (y4.2.2.2.1, (y4.2.2.2.2.1, (y4.2.2.2.2.2.1, (y4.2.2.2.2.2.2.1, (y4.2.2.2.2.2.2.2.1, (y4.2.2.2.2.2.2.2.2.1, Unit.unit)))))))))
   else none)
   else (if ((List.length y4.2.2.2.2.2.2.2.2.1) = (List.length y4.2.2.2.2.2.2.2.2.1)) then (Option.bind (Go.Ev.Deflate.f65 (y4.2.2.1, (y4.2.2.2.1, (y4.2.2.2.2.1, (y4.2.2.2.2.2.1, (y4.2.2.2.2.2.2.1, (y4.2.2.2.2.2.2.2.1, (y4.2.2.2.2.2.2.2.2.1, Unit.unit)))))))) (fun y7 => (if ((List.length y7.2.2.2.2.2.2.2.1) = (List.length y7.2.2.2.2.2.2.2.1)) then (some (y7.1, (y7.2.1, (y7.2.2.1, (y7.2.2.2.1, (y7.2.2.2.2.1, (y7.2.2.2.2.2.1, (y7.2.2.2.2.2.2.1, (y7.2.2.2.2.2.2.2.1, Unit.unit)))))))))
   else none)))
   else none))) (fun y6 => (if ((y6.1 != (0 : Int)) = true) then (if ((List.length y4.2.2.2.2.2.2.2.2.1) = (List.length y4.2.2.2.2.2.2.2.2.1)) then (some (y6.1, (y4.2.2.1, (y4.2.2.2.1, (y4.2.2.2.2.1, (y4.2.2.2.2.2.1, (y4.2.2.2.2.2.2.1, (y4.2.2.2.2.2.2.2.1, (y4.2.2.2.2.2.2.2.2.1, Unit.unit)))))))))
   else none)
   else (if ((List.length y4.2.2.2.2.2.2.2.2.1) = (List.length y4.2.2.2.2.2.2.2.2.1)) then (if ((List.length y6.2.2.2.2.1) = (List.length y6.2.2.2.2.1)) then (Option.bind (Go.Ev.Deflate.f65_b (y4.2.2.1, (y4.2.2.2.1, (y4.2.2.2.2.1, (y4.2.2.2.2.2.1, (y4.2.2.2.2.2.2.1, (y4.2.2.2.2.2.2.2.1, (y4.2.2.2.2.2.2.2.2.1, (y6.2.1, (y6.2.2.1, (y6.2.2.2.1, (y6.2.2.2.2.1, Unit.unit)))))))))))) (fun y7 => (if ((List.length y7.2.2.2.2.2.2.2.2.2.2.2.1) = (List.length y7.2.2.2.2.2.2.2.2.2.2.2.1)) then (some (y7.1, (y7.2.1, (y7.2.2.1, (y7.2.2.2.1, (y7.2.2.2.2.1, (y7.2.2.2.2.2.1, (y7.2.2.2.2.2.2.1, (y7.2.2.2.2.2.2.2.2.2.2.2.1, Unit.unit)))))))))
   else none)))
   else none)
   else none)))))
   else none)
   else none))) (fun y5 => (if ((y5.1 != (0 : Int)) = true) then (if ((List.length y4.2.2.2.2.2.2.2.2.1) = (List.length y4.2.2.2.2.2.2.2.2.1)) then (some (y5.1, (y4.2.2.1, (y4.2.2.2.1, (y4.2.2.2.2.1, (y4.2.2.2.2.2.1, (y4.2.2.2.2.2.2.1, (y4.2.2.2.2.2.2.2.1, (y4.2.2.2.2.2.2.2.2.1, Unit.unit)))))))))
   else none)
   else (if ((0 : Int) ≤ y3.2.1) then (if (y3.2.1 ≤ (((List.length y4.1) : Nat) : Int)) then (Option.bind (Go.Ev.Deflate.f25 ((List.drop (Int.toNat y3.2.1) y4.1), Unit.unit)) (Sum.elim (fun y6 => (if ((y6.1 != (0 : Int)) = true) then (if ((List.length y4.2.2.2.2.2.2.2.2.1) = (List.length y4.2.2.2.2.2.2.2.2.1)) then (some (y6.1, (y4.2.2.1, (y4.2.2.2.1, (y4.2.2.2.2.1, (y4.2.2.2.2.2.1, (y4.2.2.2.2.2.2.1, (y4.2.2.2.2.2.2.2.1, (y4.2.2.2.2.2.2.2.2.1, Unit.unit)))))))))
   else none)
   else (if ((List.length y4.2.2.2.2.2.2.2.2.1) = (List.length y4.2.2.2.2.2.2.2.2.1)) then (if ((List.length y5.2.2.2.2.1) = (List.length y5.2.2.2.2.1)) then (Option.bind (Go.Ev.Deflate.f65_c (y4.2.2.1, (y4.2.2.2.1, (y4.2.2.2.2.1, (y4.2.2.2.2.2.1, (y4.2.2.2.2.2.2.1, (y4.2.2.2.2.2.2.2.1, (y4.2.2.2.2.2.2.2.2.1, (y5.2.1, (y5.2.2.1, (y5.2.2.2.1, (y5.2.2.2.2.1, Unit.unit)))))))))))) (fun y7 => (if ((List.length y7.2.2.2.2.2.2.2.2.2.2.2.1) = (List.length y7.2.2.2.2.2.2.2.2.2.2.2.1)) then (some (y7.1, (y7.2.1, (y7.2.2.1, (y7.2.2.2.1, (y7.2.2.2.2.1, (y7.2.2.2.2.2.1, (y7.2.2.2.2.2.2.1, (y7.2.2.2.2.2.2.2.2.2.2.2.1, Unit.unit)))))))))
   else none)))
   else none)
   else none))) (fun y6 => (if ((y6.1 != (0 : Int)) = true) then (if ((List.length y4.2.2.2.2.2.2.2.2.1) = (List.length y4.2.2.2.2.2.2.2.2.1)) then (some (y6.1, (y4.2.2.1, (y4.2.2.2.1, (y4.2.2.2.2.1, (y4.2.2.2.2.2.1, (y4.2.2.2.2.2.2.1, (y4.2.2.2.2.2.2.2.1, (y4.2.2.2.2.2.2.2.2.1, Unit.unit)))))))))
   else none)
   else (if ((List.length y4.2.2.2.2.2.2.2.2.1) = (List.length y4.2.2.2.2.2.2.2.2.1)) then (if ((List.length y5.2.2.2.2.1) = (List.length y5.2.2.2.2.1)) then (if ((List.length y6.2.2.2.2.1) = (List.length y6.2.2.2.2.1)) then (Option.bind (Go.Ev.Deflate.f65_d (y4.2.2.1, (y4.2.2.2.1, (y4.2.2.2.2.1, (y4.2.2.2.2.2.1, (y4.2.2.2.2.2.2.1, (y4.2.2.2.2.2.2.2.1, (y4.2.2.2.2.2.2.2.2.1, (y5.2.1, (y5.2.2.1, (y5.2.2.2.1, (y5.2.2.2.2.1, (y6.2.1, (y6.2.2.1, (y6.2.2.2.1, (y6.2.2.2.2.1, Unit.unit)))))))))))))))) (fun y7 => (if ((List.length y7.2.2.2.2.2.2.2.2.2.2.2.2.2.2.2.1) = (List.length y7.2.2.2.2.2.2.2.2.2.2.2.2.2.2.2.1)) then (some (y7.1, (y7.2.1, (y7.2.2.1, (y7.2.2.2.1, (y7.2.2.2.2.1, (y7.2.2.2.2.2.1, (y7.2.2.2.2.2.2.1, (y7.2.2.2.2.2.2.2.2.2.2.2.2.2.2.2.1, Unit.unit)))))))))
   else none)))
   else none)
   else none)
   else none)))))
   else none)
   else none)))))
   else none)
   else none))
   else none))))
   else none))) (Sum.elim (fun y3 => (if ((y3.1 != (0 : Int)) = true) then (if ((List.length y3.2.2.2.2.2.2.2.2.2.2.2.2.1) = (List.length y3.2.2.2.2.2.2.2.2.2.2.2.2.1)) then (some (y3.1, (y3.2.2.2.1, (y3.2.2.2.2.1, (y3.2.2.2.2.2.1, (y3.2.2.2.2.2.2.1, (y3.2.2.2.2.2.2.2.1, (y3.2.2.2.2.2.2.2.2.1, (y3.2.2.2.2.2.2.2.2.2.2.2.2.1, Unit.unit)))))))))
   else none)
   else (if ((List.length y3.2.2.2.2.2.2.2.2.2.2.2.2.1) = (List.length y3.2.2.2.2.2.2.2.2.2.2.2.2.1)) then (if ((List.length y3.2.2.2.2.2.2.2.2.2.2.2.2.2.1) = (List.length y3.2.2.2.2.2.2.2.2.2.2.2.2.2.1)) then (Option.bind (Go.Ev.Deflate.f66_b ((Go.IntKind.wrap Go.IntKind.i64 (y3.2.1 + y3.2.2.1)), (y3.2.2.2.1, (y3.2.2.2.2.1, (y3.2.2.2.2.2.1, (y3.2.2.2.2.2.2.1, (y3.2.2.2.2.2.2.2.1, (y3.2.2.2.2.2.2.2.2.1, (y3.2.2.2.2.2.2.2.2.2.2.2.2.1, (y3.2.2.2.2.2.2.2.2.2.1, (y3.2.2.2.2.2.2.2.2.2.2.1, (y3.2.2.2.2.2.2.2.2.2.2.2.1, (y3.2.2.2.2.2.2.2.2.2.2.2.2.2.1, Unit.unit))))))))))))) (fun y4 => (if ((y4.2.1 != (0 : Int)) = true) then (if ((List.length y4.2.2.2.2.2.2.2.2.1) = (List.length y4.2.2.2.2.2.2.2.2.1)) then (some (y4.2.1, (y4.2.2.1, (y4.2.2.2.1, (y4.2.2.2.2.1, (y4.2.2.2.2.2.1, (y4.2.2.2.2.2.2.1, (y4.2.2.2.2.2.2.2.1, (y4.2.2.2.2.2.2.2.2.1, Unit.unit)))))))))
   else none)
   else (if ((256 : Int) < (((List.length y4.1) : Nat) : Int)) then (if (((List.getD y4.1 (256 : Nat) (0 : Int)) == (0 : Int)) = true) then (if ((List.length y4.2.2.2.2.2.2.2.2.1) = (List.length y4.2.2.2.2.2.2.2.2.1)) then (some ((4 : Int), (y4.2.2.1, (y4.2.2.2.1, (y4.2.2.2.2.1, (y4.2.2.2.2.2.1, (y4.2.2.2.2.2.2.1, (y4.2.2.2.2.2.2.2.1, (y4.2.2.2.2.2.2.2.2.1, Unit.unit)))))))))
   else none)
   else (if ((0 : Int) ≤ y3.2.1) then (if (y3.2.1 ≤ (((List.length y4.1) : Nat) : Int)) then (Option.bind (Go.Ev.Deflate.f25 ((List.take (Int.toNat y3.2.1) y4.1), Unit.unit)) (Sum.elim (fun y5 => (if ((y5.1 != (0 : Int)) = true) then (if ((List.length y4.2.2.2.2.2.2.2.2.1) = (List.length y4.2.2.2.2.2.2.2.2.1)) then (some (y5.1, (y4.2.2.1, (y4.2.2.2.1, (y4.2.2.2.2.1, (y4.2.2.2.2.2.1, (y4.2.2.2.2.2.2.1, (y4.2.2.2.2.2.2.2.1, (y4.2.2.2.2.2.2.2.2.1, Unit.unit)))))))))
   else none)
   else (if ((0 : Int) ≤ y3.2.1) then (if (y3.2.1 ≤ (((List.length y4.1) : Nat) : Int)) then (Option.bind (Go.Ev.Deflate.f25 ((List.drop (Int.toNat y3.2.1) y4.1), Unit.unit)) (Sum.elim (fun y6 => (if ((y6.1 != (0 : Int)) = true) then (if ((List.length y4.2.2.2.2.2.2.2.2.1) = (List.length y4.2.2.2.2.2.2.2.2.1)) then (some (y6.1, (y4.2.2.1, (y4.2.2.2.1, (y4.2.2.2.2.1, (y4.2.2.2.2.2.1, (y4.2.2.2.2.2.2.1, (y4.2.2.2.2.2.2.2.1, (y4.2.2.2.2.2.2.2.2.1, Unit.unit)))))))))
   else none)
   else (if ((List.length y4.2.2.2.2.2.2.2.2.1) = (List.length y4.2.2.2.2.2.2.2.2.1)) then (Option.bind (Go.Ev.Deflate.f65 (y4.2.2.1, (y4.2.2.2.1, (y4.2.2.2.2.1, (y4.2.2.2.2.2.1, (y4.2.2.2.2.2.2.1, (y4.2.2.2.2.2.2.2.1, (y4.2.2.2.2.2.2.2.2.1, Unit.unit)))))))) (fun y7 => (if ((List.length y7.2.2.2.2.2.2.2.1) = (List.length y7.2.2.2.2.2.2.2.1)) then (some (y7.1, (y7.2.1, (y7.2.2.1, (y7.2.2.2.1, (y7.2.2.2.2.1, (y7.2.2.2.2.2.1, (y7.2.2.2.2.2.2.1, (y7.2.2.2.2.2.2.2.1, Unit.unit)))))))))
   else none)))
   else none))) (fun y6 => (if ((y6.1 != (0 : Int)) = true) then (if ((List.length y4.2.2.2.2.2.2.2.2.1) = (List.length y4.2.2.2.2.2.2.2.2.1)) then (some (y6.1, (y4.2.2.1, (y4.2.2.2.1, (y4.2.2.2.2.1, (y4.2.2.2.2.2.1, (y4.2.2.2.2.2.2.1, (y4.2.2.2.2.2.2.2.1, (y4.2.2.2.2.2.2.2.2.1, Unit.unit)))))))))
   else none)
   else (if ((List.length y4.2.2.2.2.2.2.2.2.1) = (List.length y4.2.2.2.2.2.2.2.2.1)) then (if ((List.length y6.2.2.2.2.1) = (List.length y6.2.2.2.2.1)) then (Option.bind (Go.Ev.Deflate.f65_b (y4.2.2.1, (y4.2.2.2.1, (y4.2.2.2.2.1, (y4.2.2.2.2.2.1, (y4.2.2.2.2.2.2.1, (y4.2.2.2.2.2.2.2.1, (y4.2.2.2.2.2.2.2.2.1, (y6.2.1, (y6.2.2.1, (y6.2.2.2.1, (y6.2.2.2.2.1, Unit.unit)))))))))))) (fun y7 => (if ((List.length y7.2.2.2.2.2.2.2.2.2.2.2.1) = (List.length y7.2.2.2.2.2.2.2.2.2.2.2.1)) then (some (y7.1, (y7.2.1, (y7.2.2.1, (y7.2.2.2.1, (y7.2.2.2.2.1, (y7.2.2.2.2.2.1, (y7.2.2.2.2.2.2.1, (y7.2.2.2.2.2.2.2.2.2.2.2.1, Unit.unit)))))))))
   else none)))
   else none)
   else none)))))
   else none)
   else none))) (fun y5 => (if ((y5.1 != (0 : Int)) = true) then (if ((List.length y4.2.2.2.2.2.2.2.2.1) = (List.length y4.2.2.2.2.2.2.2.2.1)) then (some (y5.1, (y4.2.2.1, (y4.2.2.2.1, (y4.2.2.2.2.1, (y4.2.2.2.2.2.1, (y4.2.2.2.2.2.2.1, (y4.2.2.2.2.2.2.2.1, (y4.2.2.2.2.2.2.2.2.1, Unit.unit)))))))))
   else none)
   else (if ((0 : Int) ≤ y3.2.1) then (if (y3.2.1 ≤ (((List.length y4.1) : Nat) : Int)) then (Option.bind (Go.Ev.Deflate.f25 ((List.drop (Int.toNat y3.2.1) y4.1), Unit.unit)) (Sum.elim (fun y6 => (if ((y6.1 != (0 : Int)) = true) then (if ((List.length y4.2.2.2.2.2.2.2.2.1) = (List.length y4.2.2.2.2.2.2.2.2.1)) then (some (y6.1, (y4.2.2.1, (y4.2.2.2.1, (y4.2.2.2.2.1, (y4.2.2.2.2.2.1, (y4.2.2.2.2.2.2.1, (y4.2.2.2.2.2.2.2.1, (y4.2.2.2.2.2.2.2.2.1, Unit.unit)))))))))
   else none)
   else (if ((List.length y4.2.2.2.2.2.2.2.2.1) = (List.length y4.2.2.2.2.2.2.2.2.1)) then (if ((List.length y5.2.2.2.2.1) = (List.length y5.2.2.2.2.1)) then (Option.bind (Go.Ev.Deflate.f65_c (y4.2.2.1, (y4.2.2.2.1, (y4.2.2.2.2.1, (y4.2.2.2.2.2.1, (y4.2.2.2.2.2.2.1, (y4.2.2.2.2.2.2.2.1, (y4.2.2.2.2.2.2.2.2.1, (y5.2.1, (y5.2.2.1, (y5.2.2.2.1, (y5.2.2.2.2.1, Unit.unit)))))))))))) (fun y7 => (if ((List.length y7.2.2.2.2.2.2.2.2.2.2.2.1) = (List.length y7.2.2.2.2.2.2.2.2.2.2.2.1)) then (some (y7.1, (y7.2.1, (y7.2.2.1, (y7.2.2.2.1, (y7.2.2.2.2.1, (y7.2.2.2.2.2.1, (y7.2.2.2.2.2.2.1, (y7.2.2.2.2.2.2.2.2.2.2.2.1, Unit.unit)))))))))
   else none)))
   else none)
   else none))) (fun y6 => (if ((y6.1 != (0 : Int)) = true) then (if ((List.length y4.2.2.2.2.2.2.2.2.1) = (List.length y4.2.2.2.2.2.2.2.2.1)) then (some (y6.1, (y4.2.2.1, (y4.2.2.2.1, (y4.2.2.2.2.1, (y4.2.2.2.2.2.1, (y4.2.2.2.2.2.2.1, (y4.2.2.2.2.2.2.2.1, (y4.2.2.2.2.2.2.2.2.1, Unit.unit)))))))))
   else none)
   else (if ((List.length y4.2.2.2.2.2.2.2.2.1) = (List.length y4.2.2.2.2.2.2.2.2.1)) then (if ((List.length y5.2.2.2.2.1) = (List.length y5.2.2.2.2.1)) then (if ((List.length y6.2.2.2.2.1) = (List.length y6.2.2.2.2.1)) then (Option.bind (Go.Ev.Deflate.f65_d (y4.2.2.1, (y4.2.2.2.1, (y4.2.2.2.2.1, (y4.2.2.2.2.2.1, (y4.2.2.2.2.2.2.1, (y4.2.2.2.2.2.2.2.1, (y4.2.2.2.2.2.2.2.2.1, (y5.2.1, (y5.2.2.1, (y5.2.2.2.1, (y5.2.2.2.2.1, (y6.2.1, (y6.2.2.1, (y6.2.2.2.1, (y6.2.2.2.2.1, Unit.unit)))))))))))))))) (fun y7 => (if ((List.length y7.2.2.2.2.2.2.2.2.2.2.2.2.2.2.2.1) = (List.length y7.2.2.2.2.2.2.2.2.2.2.2.2.2.2.2.1)) then (some (y7.1, (y7.2.1, (y7.2.2.1, (y7.2.2.2.1, (y7.2.2.2.2.1, (y7.2.2.2.2.2.1, (y7.2.2.2.2.2.2.1, (y7.2.2.2.2.2.2.2.2.2.2.2.2.2.2.2.1, Unit.unit)))))))))
   else none)))
   else none)
   else none)
   else none)))))
   else none)
   else none)))))
   else none)
   else none))
   else none))))
   else none)
   else none))) Empty.elim)))
   else none)
   else none)) (Sum.elim (fun y2 => (if ((List.length y2.2.2.2.2.2.2.2.1) = (List.length y2.2.2.2.2.2.2.2.1)) then (some (y2.1, (y2.2.1, (y2.2.2.1, (y2.2.2.2.1, (y2.2.2.2.2.1, (y2.2.2.2.2.2.1, (y2.2.2.2.2.2.2.1, (y2.2.2.2.2.2.2.2.1, Unit.unit)))))))))
   else none)) Empty.elim)))
   else none)
   else none)
   else none)
   else none)))
   else none)
   else none))))
   else none)
theorem f48_eq (x : gi48.D) : f48 x = evF P (T66.orc _) Go.Proofs.Try.f48.ntmps fx48 c48 (planAt 64 [([true, true, true, true, true, true, true, false], ⟨g48_1, o48_1, b48_1⟩), ([true, true, true, true, true, true, false, true, false], ⟨g48_2, o48_2, l48_2⟩)]) gi48 x (fnK fx48 [go48]) := by kernel_rfl
theorem pf48 : AllSub P Go.Proofs.Try.f48.ntmps fx48 c48 [([true, true, true, true, true, true, true, false], ⟨g48_1, o48_1, b48_1⟩), ([true, true, true, true, true, true, false, true, false], ⟨g48_2, o48_2, l48_2⟩)] := And.intro s48_1_ok (And.intro s48_2_ok (trivial))
theorem qf48 : PlanOk P Go.Proofs.Try.f48.ntmps fx48 (planAt 64 [([true, true, true, true, true, true, true, false], ⟨g48_1, o48_1, b48_1⟩), ([true, true, true, true, true, true, false, true, false], ⟨g48_2, o48_2, l48_2⟩)]) c48 := planAt_ok pf48
theorem f48_ok : EntOk P 48 ⟨gi48, [go48], f48⟩ :=
  ent_ok (fn := Go.Proofs.Try.f48) (gi := gi48) (gos := [go48]) (f := f48) (c := c48) (fx := fx48) ⟨Go.Proofs.Try.func48, by kernel_rfl, rfl, by decide +kernel, rfl, rfl⟩ (by kernel_rfl) (Table.ok T66_ok _) hmix (qf48) f48_eq
noncomputable def T48 : Table := T66.add 48 [⟨gi48, [go48], f48⟩] []
theorem T48_ok : TableOk P T48 := Table.plus T66_ok (es := [⟨gi48, [go48], f48⟩]) ⟨f48_ok, trivial⟩ []

/-! ## 18: erasure/inflate.Tokens -/
noncomputable def c18 : Code := Func.code Go.Proofs.Try.f18
abbrev gi18 : Sg := ⟨[0, 1], [.lf (.sl (.int .u8)), .lf (.int .i64)], []⟩
abbrev go18 : Sg := ⟨[4, 5, 6], [.lf (.sl (.pair (.int .i64) (.pair (.int .i64) (.int .i64)))), .lf (.int .i64), .lf (.int .i64)], []⟩
def fx18 : List Bool := []
abbrev g18_2 : Sg := ⟨[0, 7, 8], [.lf (.sl (.int .u8)), .lf (.ptr 0 0), .lf (.sl (.int .i64))], [some (.box true [.lf (.ptr 1 0), .lf (.gr (.pair (.int .i64) (.pair (.int .i64) (.int .i64))) 2), .lf (.int .i64), .lf (.int .i64)]), some (.box true [.lf (.sl (.int .u8)), .lf (.int .i64), .lf (.int .i64), .lf (.int .i64)]), some (.arr true (.pair (.int .i64) (.pair (.int .i64) (.int .i64))))]⟩
abbrev o18_2 : Outs := [(.normal, ⟨[0, 7, 8, 9], [.lf (.sl (.int .u8)), .lf (.ptr 0 0), .lf (.sl (.int .i64)), .lf (.int .i64)], [some (.box true [.lf (.ptr 1 0), .lf (.gr (.pair (.int .i64) (.pair (.int .i64) (.int .i64))) 2), .lf (.int .i64), .lf (.int .i64)]), some (.box true [.lf (.sl (.int .u8)), .lf (.int .i64), .lf (.int .i64), .lf (.int .i64)]), some (.arr true (.pair (.int .i64) (.pair (.int .i64) (.int .i64))))]⟩)]
noncomputable def b18_2 (x : g18_2.D) : Option (outD o18_2) :=
  (if ((1 : Int) < (((List.length x.2.1) : Nat) : Int)) then (if (((List.getD x.2.1 (1 : Nat) (0 : Int)) == (0 : Int)) = true) then (if ((List.length x.2.2.2.2.2.2.2.2.1) = (List.length x.2.2.2.2.2.2.2.2.1)) then (Option.bind (Go.Ev.Deflate.f46 (x.2.2.1, (x.2.2.2.1, (x.2.2.2.2.1, (x.2.2.2.2.2.1, (x.2.2.2.2.2.2.1, (x.2.2.2.2.2.2.2.1, (x.2.2.2.2.2.2.2.2.1, Unit.unit)))))))) (fun y1 => (if ((List.length y1.2.2.2.2.2.2.2.1) = (List.length y1.2.2.2.2.2.2.2.1)) then (some (Sum.inl (x.1, (x.2.1, (y1.1, (y1.2.1, (y1.2.2.1, (y1.2.2.2.1, (y1.2.2.2.2.1, (y1.2.2.2.2.2.1, (y1.2.2.2.2.2.2.1, (y1.2.2.2.2.2.2.2.1, Unit.unit))))))))))))
   else none)))
   else none)
   else (if (((List.getD x.2.1 (1 : Nat) (0 : Int)) == (1 : Int)) = true) then (if ((List.length x.2.2.2.2.2.2.2.2.1) = (List.length x.2.2.2.2.2.2.2.2.1)) then (Option.bind (Go.Ev.Deflate.f47 (x.2.2.1, (x.2.2.2.1, (x.2.2.2.2.1, (x.2.2.2.2.2.1, (x.2.2.2.2.2.2.1, (x.2.2.2.2.2.2.2.1, (x.2.2.2.2.2.2.2.2.1, Unit.unit)))))))) (fun y1 => (if ((List.length y1.2.2.2.2.2.2.2.1) = (List.length y1.2.2.2.2.2.2.2.1)) then (some (Sum.inl (x.1, (x.2.1, (y1.1, (y1.2.1, (y1.2.2.1, (y1.2.2.2.1, (y1.2.2.2.2.1, (y1.2.2.2.2.2.1, (y1.2.2.2.2.2.2.1, (y1.2.2.2.2.2.2.2.1, Unit.unit))))))))))))
   else none)))
   else none)
   else (if (((List.getD x.2.1 (1 : Nat) (0 : Int)) == (2 : Int)) = true) then (if ((List.length x.2.2.2.2.2.2.2.2.1) = (List.length x.2.2.2.2.2.2.2.2.1)) then (Option.bind (Go.Ev.Deflate.f48 (x.2.2.1, (x.2.2.2.1, (x.2.2.2.2.1, (x.2.2.2.2.2.1, (x.2.2.2.2.2.2.1, (x.2.2.2.2.2.2.2.1, (x.2.2.2.2.2.2.2.2.1, Unit.unit)))))))) (fun y1 => (if ((List.length y1.2.2.2.2.2.2.2.1) = (List.length y1.2.2.2.2.2.2.2.1)) then (some (Sum.inl (x.1, (x.2.1, (y1.1, (y1.2.1, (y1.2.2.1, (y1.2.2.2.1, (y1.2.2.2.2.1, (y1.2.2.2.2.2.1, (y1.2.2.2.2.2.2.1, (y1.2.2.2.2.2.2.2.1, Unit.unit))))))))))))
   else none)))
   else none)
   else (if ((List.length x.2.2.2.2.2.2.2.2.1) = (List.length x.2.2.2.2.2.2.2.2.1)) then (some (Sum.inl (x.1, (x.2.1, ((4 : Int), (x.2.2.1, (x.2.2.2.1, (x.2.2.2.2.1, (x.2.2.2.2.2.1, (x.2.2.2.2.2.2.1, (x.2.2.2.2.2.2.2.1, (x.2.2.2.2.2.2.2.2.1, Unit.unit))))))))))))
   else none))))
   else none)
theorem b18_2_eq (x : g18_2.D) : b18_2 x = evF P (T48.orc _) Go.Proofs.Try.f18.ntmps fx18 (Code.at [true, false, true, true, true, false, false, false, false, true, true, false] c18) (planAt 64 []) g18_2 x (injK fx18 o18_2 some) := by kernel_rfl
theorem s18_2_ok : SubOk P Go.Proofs.Try.f18.ntmps fx18 (Code.at [true, false, true, true, true, false, false, false, false, true, true, false] c18) ⟨g18_2, o18_2, b18_2⟩ :=
  sub_ok (g := g18_2) (outs := o18_2) (f := b18_2) (Table.ok T48_ok _) hmix (planAt_ok (P := P) (n := Go.Proofs.Try.f18.ntmps) (fx := fx18) (c := (Code.at [true, false, true, true, true, false, false, false, false, true, true, false] c18)) (d := 64) (l := []) trivial) b18_2_eq
abbrev g18_1 : Sg := ⟨[0, 7], [.lf (.sl (.int .u8)), .lf (.ptr 0 0)], [some (.box true [.lf (.ptr 1 0), .lf (.gr (.pair (.int .i64) (.pair (.int .i64) (.int .i64))) 2), .lf (.int .i64), .lf (.int .i64)]), some (.box true [.lf (.sl (.int .u8)), .lf (.int .i64), .lf (.int .i64), .lf (.int .i64)]), some (.arr true (.pair (.int .i64) (.pair (.int .i64) (.int .i64))))]⟩
abbrev o18_1 : Outs := [(.ret, ⟨[4, 5, 6], [.lf (.sl (.pair (.int .i64) (.pair (.int .i64) (.int .i64)))), .lf (.int .i64), .lf (.int .i64)], []⟩), (.exit 0, ⟨[0, 7], [.lf (.sl (.int .u8)), .lf (.ptr 0 0)], [some (.box true [.lf (.ptr 1 0), .lf (.gr (.pair (.int .i64) (.pair (.int .i64) (.int .i64))) 2), .lf (.int .i64), .lf (.int .i64)]), some (.box true [.lf (.sl (.int .u8)), .lf (.int .i64), .lf (.int .i64), .lf (.int .i64)]), some (.arr true (.pair (.int .i64) (.pair (.int .i64) (.int .i64))))]⟩)]
noncomputable def b18_1 (x : g18_1.D) : Option (outD ((.normal, g18_1) :: o18_1)) :=
  (if ((List.length x.2.2.2.2.2.2.2.1) = (List.length x.2.2.2.2.2.2.2.1)) then (Option.bind (Go.Ev.Deflate.f45 ((List.take (2 : Nat) (List.drop (0 : Nat) (List.set (List.set (List.replicate (2 : Nat) (0 : Int)) (0 : Nat) (1 : Int)) (1 : Nat) (2 : Int)))), (x.2.1, (x.2.2.1, (x.2.2.2.1, (x.2.2.2.2.1, (x.2.2.2.2.2.1, (x.2.2.2.2.2.2.1, (x.2.2.2.2.2.2.2.1, Unit.unit))))))))) (fun y1 => (if ((y1.2.1 != (0 : Int)) = true) then (some (Sum.inr (Sum.inl ([], ((0 : Int), (y1.2.1, Unit.unit))))))
   else (if ((List.length y1.2.2.2.2.2.2.2.2.1) = (List.length y1.2.2.2.2.2.2.2.2.1)) then (Option.bind (Go.Ev.Deflate.b18_2 (x.1, (y1.1, (y1.2.2.1, (y1.2.2.2.1, (y1.2.2.2.2.1, (y1.2.2.2.2.2.1, (y1.2.2.2.2.2.2.1, (y1.2.2.2.2.2.2.2.1, (y1.2.2.2.2.2.2.2.2.1, Unit.unit)))))))))) (Sum.elim (fun y2 => (if ((y2.2.2.1 != (0 : Int)) = true) then (some (Sum.inr (Sum.inl ([], ((0 : Int), (y2.2.2.1, Unit.unit))))))
   else (if ((0 : Int) < (((List.length y2.2.1) : Nat) : Int)) then (if (((List.getD y2.2.1 (0 : Nat) (0 : Int)) == (1 : Int)) = true) then (if ((List.length y2.2.2.2.2.2.2.2.2.2.1) = (List.length y2.2.2.2.2.2.2.2.2.2.1)) then (some (Sum.inr (Sum.inr (Sum.inl (y2.1, (y2.2.2.2.1, (y2.2.2.2.2.1, (y2.2.2.2.2.2.1, (y2.2.2.2.2.2.2.1, (y2.2.2.2.2.2.2.2.1, (y2.2.2.2.2.2.2.2.2.1, (y2.2.2.2.2.2.2.2.2.2.1, Unit.unit))))))))))))
   else none)
   else (if ((List.length y2.2.2.2.2.2.2.2.2.2.1) = (List.length y2.2.2.2.2.2.2.2.2.2.1)) then (some (Sum.inl (y2.1, (y2.2.2.2.1, (y2.2.2.2.2.1, (y2.2.2.2.2.2.1, (y2.2.2.2.2.2.2.1, (y2.2.2.2.2.2.2.2.1, (y2.2.2.2.2.2.2.2.2.1, (y2.2.2.2.2.2.2.2.2.2.1, Unit.unit))))))))))
   else none))
   else none))) Empty.elim))
   else none))))
   else none)
theorem b18_1_eq (x : g18_1.D) : b18_1 x = evF P (T48.orc _) Go.Proofs.Try.f18.ntmps fx18 (Code.at [true, false, true, true, true, false, false, false] c18) (planAt 64 [([false, true, true, false], ⟨g18_2, o18_2, b18_2⟩)]) g18_1 x (injK fx18 ((.normal, g18_1) :: o18_1) some) := by kernel_rfl
noncomputable def l18_1 : g18_1.D → Option (outD o18_1) := loopN g18_1 o18_1 b18_1 18446744073709551616
theorem p18_1 : AllSub P Go.Proofs.Try.f18.ntmps fx18 (Code.at [true, false, true, true, true, false, false, false] c18) [([false, true, true, false], ⟨g18_2, o18_2, b18_2⟩)] := And.intro s18_2_ok (trivial)
theorem q18_1 : PlanOk P Go.Proofs.Try.f18.ntmps fx18 (planAt 64 [([false, true, true, false], ⟨g18_2, o18_2, b18_2⟩)]) (Code.at [true, false, true, true, true, false, false, false] c18) := planAt_ok p18_1
theorem at18_1 : Code.at [true, false, true, true, true, false, false] c18 = .loop (Code.at [true, false, true, true, true, false, false, false] c18) := by kernel_rfl
theorem s18_1_ok : SubOk P Go.Proofs.Try.f18.ntmps fx18 (Code.at [true, false, true, true, true, false, false] c18) ⟨g18_1, o18_1, l18_1⟩ := by
  rw [at18_1]
  exact loop_ok (sub_ok (g := g18_1) (outs := ((.normal, g18_1) :: o18_1)) (f := b18_1) (Table.ok T48_ok _) hmix (q18_1) b18_1_eq) rfl _
noncomputable def f18 (x : gi18.D) : Option go18.D :=
  (if ((decide (x.2.1 < (0 : Int))) = true) then (some ([], ((0 : Int), ((1 : Int), Unit.unit))))
   else (if ((decide (x.2.1 > (1048576 : Int))) = true) then (some ([], ((0 : Int), ((1 : Int), Unit.unit))))
   else (Option.bind (Go.Ev.Deflate.f44 (x.1, Unit.unit)) (fun y1 => (Option.bind (Go.Ev.Deflate.l18_1 (x.1, ((0 : Int), (x.2.1, (y1.1, (y1.2.1, (y1.2.2.1, (y1.2.2.2.1, ([], Unit.unit))))))))) (Sum.elim (fun y2 => (some (y2.1, (y2.2.1, (y2.2.2.1, Unit.unit))))) (Sum.elim (fun y2 => (Option.bind (Go.Ev.Deflate.f49 (y2.2.2.2.1, (y2.2.2.2.2.1, (y2.2.2.2.2.2.1, (y2.2.2.2.2.2.2.1, Unit.unit))))) (fun y3 => (some ((List.take (List.length y2.2.2.2.2.2.2.2.1) (List.drop (0 : Nat) y2.2.2.2.2.2.2.2.1)), ((Go.IntKind.wrap Go.IntKind.i64 ((((List.length y2.1) : Nat) : Int) - (Go.IntKind.wrap Go.IntKind.i64 (Int.tdiv y3.1 (8 : Int))))), ((0 : Int), Unit.unit))))))) Empty.elim)))))))
theorem f18_eq (x : gi18.D) : f18 x = evF P (T48.orc _) Go.Proofs.Try.f18.ntmps fx18 c18 (planAt 64 [([true, false, true, true, true, false, false], ⟨g18_1, o18_1, l18_1⟩)]) gi18 x (fnK fx18 [go18]) := by kernel_rfl
theorem pf18 : AllSub P Go.Proofs.Try.f18.ntmps fx18 c18 [([true, false, true, true, true, false, false], ⟨g18_1, o18_1, l18_1⟩)] := And.intro s18_1_ok (trivial)
theorem qf18 : PlanOk P Go.Proofs.Try.f18.ntmps fx18 (planAt 64 [([true, false, true, true, true, false, false], ⟨g18_1, o18_1, l18_1⟩)]) c18 := planAt_ok pf18
theorem f18_ok : EntOk P 18 ⟨gi18, [go18], f18⟩ :=
  ent_ok (fn := Go.Proofs.Try.f18) (gi := gi18) (gos := [go18]) (f := f18) (c := c18) (fx := fx18) ⟨Go.Proofs.Try.func18, by kernel_rfl, rfl, by decide +kernel, rfl, rfl⟩ (by kernel_rfl) (Table.ok T48_ok _) hmix (qf18) f18_eq
noncomputable def T18 : Table := T48.add 18 [⟨gi18, [go18], f18⟩] []
theorem T18_ok : TableOk P T18 := Table.plus T48_ok (es := [⟨gi18, [go18], f18⟩]) ⟨f18_ok, trivial⟩ []

/-! ## 6: erasure/erasurelaw07.DeflatePuts -/
noncomputable def c6 : Code := Func.code Go.Proofs.Try.f6
abbrev gi6 : Sg := ⟨[0], [.lf (.sl (.pair (.int .i64) (.pair (.int .i64) (.int .i64))))], []⟩
abbrev go6 : Sg := ⟨[2], [.lf .bool], []⟩
def fx6 : List Bool := []
abbrev g6_1 : Sg := ⟨[3, 4, 6], [.lf (.sl (.int .u8)), .lf (.int .i64), .lf (.int .i64)], []⟩
abbrev o6_1 : Outs := [(.normal, ⟨[2], [.lf .bool], []⟩)]
noncomputable def b6_1 (x : g6_1.D) : Option (outD o6_1) :=
  (Option.bind (Go.Ev.Deflate.f15 Unit.unit) (fun y1 => (if (y1.1 = true) then (if ((x.2.1 == (1 : Int)) = true) then (if ((x.2.2.1 == x.2.1) = true) then (some (Sum.inl (((((List.length x.1) : Nat) : Int) == (0 : Int)), Unit.unit)))
   else (some (Sum.inl (false, Unit.unit))))
   else (some (Sum.inl (false, Unit.unit))))
   else (some (Sum.inl (false, Unit.unit))))))
theorem b6_1_eq (x : g6_1.D) : b6_1 x = evF P (T18.orc _) Go.Proofs.Try.f6.ntmps fx6 (Code.at [true, true, true, true, false, true, false, false] c6) (planAt 64 []) g6_1 x (injK fx6 o6_1 some) := by kernel_rfl
theorem s6_1_ok : SubOk P Go.Proofs.Try.f6.ntmps fx6 (Code.at [true, true, true, true, false, true, false, false] c6) ⟨g6_1, o6_1, b6_1⟩ :=
  sub_ok (g := g6_1) (outs := o6_1) (f := b6_1) (Table.ok T18_ok _) hmix (planAt_ok (P := P) (n := Go.Proofs.Try.f6.ntmps) (fx := fx6) (c := (Code.at [true, true, true, true, false, true, false, false] c6)) (d := 64) (l := []) trivial) b6_1_eq
noncomputable def f6 (x : gi6.D) : Option go6.D :=
  (if ((decide ((((List.length x.1) : Nat) : Int) > (100 : Int))) = true) then (some (true, Unit.unit))
   else (Option.bind (Go.Ev.Deflate.f11 (x.1, Unit.unit)) (fun y1 => (Option.bind (Go.Ev.Deflate.f17 (x.1, ((100000 : Int), Unit.unit))) (fun y2 => (if ((y1.1 != (0 : Int)) = true) then (Option.bind (Go.Ev.Deflate.b6_1 ((List.take (List.length y1.2.1) (List.drop (0 : Nat) y1.2.1)), (y1.1, (y2.2.1, Unit.unit)))) (Sum.elim (fun y3 => (some (y3.1, Unit.unit))) Empty.elim))
   else (Option.bind (Go.Ev.Deflate.f18 ((List.take (List.length y1.2.1) (List.drop (0 : Nat) y1.2.1)), ((100000 : Int), Unit.unit))) (fun y3 => (if ((y2.2.1 != (0 : Int)) = true) then (Option.bind (Go.Ev.Deflate.f15 Unit.unit) (fun y4 => (if (y4.1 = true) then (some ((y3.2.2.1 == y2.2.1), Unit.unit))
   else (some (false, Unit.unit)))))
   else (Option.bind (Go.Ev.Deflate.f15 Unit.unit) (fun y4 => (if (y4.1 = true) then (if ((y3.2.2.1 == (0 : Int)) = true) then (Option.bind (Go.Ev.Deflate.f16 (x.1, (y3.1, Unit.unit))) (fun y5 => (if (y5.1 = true) then (if ((y3.2.1 == (((List.length y1.2.1) : Nat) : Int)) = true) then (some ((decide ((((List.length y2.1) : Nat) : Int) ≤ (25800 : Int))), Unit.unit))
   else (some (false, Unit.unit)))
   else (some (false, Unit.unit)))))
   else (some (false, Unit.unit)))
   else (some (false, Unit.unit))))))))))))))
theorem f6_eq (x : gi6.D) : f6 x = evF P (T18.orc _) Go.Proofs.Try.f6.ntmps fx6 c6 (planAt 64 [([true, true, true, true, false, true, false, false], ⟨g6_1, o6_1, b6_1⟩)]) gi6 x (fnK fx6 [go6]) := by kernel_rfl
theorem pf6 : AllSub P Go.Proofs.Try.f6.ntmps fx6 c6 [([true, true, true, true, false, true, false, false], ⟨g6_1, o6_1, b6_1⟩)] := And.intro s6_1_ok (trivial)
theorem qf6 : PlanOk P Go.Proofs.Try.f6.ntmps fx6 (planAt 64 [([true, true, true, true, false, true, false, false], ⟨g6_1, o6_1, b6_1⟩)]) c6 := planAt_ok pf6
theorem f6_ok : EntOk P 6 ⟨gi6, [go6], f6⟩ :=
  ent_ok (fn := Go.Proofs.Try.f6) (gi := gi6) (gos := [go6]) (f := f6) (c := c6) (fx := fx6) ⟨Go.Proofs.Try.func6, by kernel_rfl, rfl, by decide +kernel, rfl, rfl⟩ (by kernel_rfl) (Table.ok T18_ok _) hmix (qf6) f6_eq
noncomputable def T6 : Table := T18.add 6 [⟨gi6, [go6], f6⟩] []
theorem T6_ok : TableOk P T6 := Table.plus T18_ok (es := [⟨gi6, [go6], f6⟩]) ⟨f6_ok, trivial⟩ []

/-! ## 19: erasure/inflate.Inflate -/
noncomputable def c19 : Code := Func.code Go.Proofs.Try.f19
abbrev gi19 : Sg := ⟨[0, 1], [.lf (.sl (.int .u8)), .lf (.int .i64)], []⟩
abbrev go19 : Sg := ⟨[4, 5, 6], [.lf (.sl (.int .u8)), .lf (.int .i64), .lf (.int .i64)], []⟩
def fx19 : List Bool := []
noncomputable def f19 (x : gi19.D) : Option go19.D :=
  (Option.bind (Go.Ev.Deflate.f18 (x.1, (x.2.1, Unit.unit))) (fun y1 => (if ((y1.2.2.1 != (0 : Int)) = true) then (some ([], ((0 : Int), (y1.2.2.1, Unit.unit))))
   else (Option.bind (Go.Ev.Deflate.f17 (y1.1, (x.2.1, Unit.unit))) (fun y2 => (some (y2.1, (y1.2.1, (y2.2.1, Unit.unit)))))))))
theorem f19_eq (x : gi19.D) : f19 x = evF P (T6.orc _) Go.Proofs.Try.f19.ntmps fx19 c19 (planAt 64 []) gi19 x (fnK fx19 [go19]) := by kernel_rfl
theorem f19_ok : EntOk P 19 ⟨gi19, [go19], f19⟩ :=
  ent_ok (fn := Go.Proofs.Try.f19) (gi := gi19) (gos := [go19]) (f := f19) (c := c19) (fx := fx19) ⟨Go.Proofs.Try.func19, by kernel_rfl, rfl, by decide +kernel, rfl, rfl⟩ (by kernel_rfl) (Table.ok T6_ok _) hmix (planAt_ok (P := P) (n := Go.Proofs.Try.f19.ntmps) (fx := fx19) (c := c19) (d := 64) (l := []) trivial) f19_eq
noncomputable def T19 : Table := T6.add 19 [⟨gi19, [go19], f19⟩] []
theorem T19_ok : TableOk P T19 := Table.plus T6_ok (es := [⟨gi19, [go19], f19⟩]) ⟨f19_ok, trivial⟩ []

/-! ## 7: erasure/erasurelaw07.DeflateBack -/
noncomputable def c7 : Code := Func.code Go.Proofs.Try.f7
abbrev gi7 : Sg := ⟨[0], [.lf (.sl (.int .u8))], []⟩
abbrev go7 : Sg := ⟨[2], [.lf .bool], []⟩
def fx7 : List Bool := []
noncomputable def f7 (x : gi7.D) : Option go7.D :=
  (if ((decide ((((List.length x.1) : Nat) : Int) > (3000 : Int))) = true) then (some (true, Unit.unit))
   else (Option.bind (Go.Ev.Deflate.f9 (x.1, Unit.unit)) (fun y1 => (Option.bind (Go.Ev.Deflate.f17 ((List.take (List.length y1.2.1) (List.drop (0 : Nat) y1.2.1)), ((3000 : Int), Unit.unit))) (fun y2 => (Option.bind (Go.Ev.Deflate.f13 (x.1, Unit.unit)) (fun y3 => (Option.bind (Go.Ev.Deflate.f19 ((List.take (List.length y3.2.1) (List.drop (0 : Nat) y3.2.1)), ((3000 : Int), Unit.unit))) (fun y4 => (Option.bind (Go.Ev.Deflate.f15 Unit.unit) (fun y5 => (if (y5.1 = true) then (if ((y1.1 == (0 : Int)) = true) then (if ((y2.2.1 == y1.1) = true) then (if ((y3.1 == y1.1) = true) then (if ((y4.2.2.1 == y1.1) = true) then (if (((ByteArray.toList (ByteArray.mk (List.toArray (List.map (fun y6 => (UInt8.ofNat (Int.toNat y6))) y2.1)))) == (ByteArray.toList (ByteArray.mk (List.toArray (List.map (fun y6 => (UInt8.ofNat (Int.toNat y6))) x.1))))) = true) then (if (((ByteArray.toList (ByteArray.mk (List.toArray (List.map (fun y6 => (UInt8.ofNat (Int.toNat y6))) y4.1)))) == (ByteArray.toList (ByteArray.mk (List.toArray (List.map (fun y6 => (UInt8.ofNat (Int.toNat y6))) x.1))))) = true) then (some ((y4.2.1 == (((List.length y3.2.1) : Nat) : Int)), Unit.unit))
   else (some (false, Unit.unit)))
   else (some (false, Unit.unit)))
   else (some (false, Unit.unit)))
   else (some (false, Unit.unit)))
   else (some (false, Unit.unit)))
   else (some (false, Unit.unit)))
   else (some (false, Unit.unit))))))))))))))
theorem f7_eq (x : gi7.D) : f7 x = evF P (T19.orc _) Go.Proofs.Try.f7.ntmps fx7 c7 (planAt 64 []) gi7 x (fnK fx7 [go7]) := by kernel_rfl
theorem f7_ok : EntOk P 7 ⟨gi7, [go7], f7⟩ :=
  ent_ok (fn := Go.Proofs.Try.f7) (gi := gi7) (gos := [go7]) (f := f7) (c := c7) (fx := fx7) ⟨Go.Proofs.Try.func7, by kernel_rfl, rfl, by decide +kernel, rfl, rfl⟩ (by kernel_rfl) (Table.ok T19_ok _) hmix (planAt_ok (P := P) (n := Go.Proofs.Try.f7.ntmps) (fx := fx7) (c := c7) (d := 64) (l := []) trivial) f7_eq
noncomputable def T7 : Table := T19.add 7 [⟨gi7, [go7], f7⟩] []
theorem T7_ok : TableOk P T7 := Table.plus T19_ok (es := [⟨gi7, [go7], f7⟩]) ⟨f7_ok, trivial⟩ []

end Go.Ev.Deflate
