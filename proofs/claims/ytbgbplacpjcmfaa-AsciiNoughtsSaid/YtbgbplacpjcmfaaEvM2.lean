/- Part of a proof about the given program: EvM2. -/
import Derived.Test.YtbgbplacpjcmfaaEvF
import Derived.Laws.Externs
namespace Go.Ev
variable {Rt : Type}

/-! # Functions that the model stands in for -/
inductive Xt where
  | add64
  | sub64

def sub64Entry : Array Value → Sem Value := fun args => do
  let (x, y, b) ← Extern.MathBitsCarry.three "Sub64" args
  pure (Extern.MathBitsCarry.pair ((x + Extern.MathBitsCarry.m64 - y - b) % Extern.MathBitsCarry.m64) (if x < y + b then 1 else 0))

def Xt.entry : Xt → Array Value → Sem Value
  | .add64 => add64Entry
  | .sub64 => sub64Entry

def XtOk (P : Program) (g : FuncId) (e : Xt) : Prop :=
  ∃ fn, P.funcs[g]? = some fn ∧ (fn.name == "runtime.NumGoroutine") = false ∧ fn.body.isNone = true ∧ Extern.findNext fn = none ∧ Extern.find fn = some e.entry

def nat01 (b : Bool) : Nat := cond b 1 0

def evXt (e : Xt) (args : List PV) (K : PV → Option Rt) : Option Rt :=
  match args with
  | [.lf (.sc (.int .u64 x)), .lf (.sc (.int .u64 y)), .lf (.sc (.int .u64 c))] => match e with
    | .add64 => if 0 ≤ x ∧ 0 ≤ y ∧ 0 ≤ c ∧ c ≤ 1 then K (.tup [sc (.int .u64 ((x + y + c) % 18446744073709551616)), sc (.int .u64 ((x + y + c) / 18446744073709551616))]) else none
    | .sub64 => if 0 ≤ x ∧ 0 ≤ y ∧ 0 ≤ c ∧ c ≤ 1 ∧ y + c ≤ x + 18446744073709551616 then K (.tup [sc (.int .u64 ((x + 18446744073709551616 - y - c) % 18446744073709551616)), sc (.int .u64 (((nat01 (decide (x < y + c))) : Nat) : Int))]) else none
  | _ => none

theorem run_sub64 {P : Program} (x y b : Int) (hx : 0 ≤ x) (hy : 0 ≤ y) (hb0 : 0 ≤ b) (hb : b ≤ 1) (hy2 : y + b ≤ x + 18446744073709551616) (w : World) :
    (sub64Entry #[.int .u64 x, .int .u64 y, .int .u64 b]).run P w =
      .ok (.tuple #[.int .u64 ((x + 18446744073709551616 - y - b) % 18446744073709551616), .int .u64 (((nat01 (decide (x < y + b))) : Nat) : Int)]) w := by
  have key : ∀ k : Nat, k ≤ 1 → (sub64Entry #[.int .u64 x, .int .u64 y, .int .u64 (k : Int)]).run P w =
      .ok (Extern.MathBitsCarry.pair ((x.toNat + Extern.MathBitsCarry.m64 - y.toNat - k) % Extern.MathBitsCarry.m64) (if x.toNat < y.toNat + k then 1 else 0)) w := by
    intro k hk
    have : k = 0 ∨ k = 1 := by omega
    rcases this with rfl | rfl <;> rfl
  obtain ⟨k, rfl⟩ := Int.eq_ofNat_of_zero_le hb0
  rw [key k (by omega)]
  obtain ⟨X, rfl⟩ := Int.eq_ofNat_of_zero_le hx
  obtain ⟨Y, rfl⟩ := Int.eq_ofNat_of_zero_le hy
  simp only [Extern.MathBitsCarry.pair, Extern.MathBitsCarry.m64, Int.toNat_natCast]
  have e1 : Int.ofNat ((X + 2 ^ 64 - Y - k) % 2 ^ 64) = ((X : Int) + 18446744073709551616 - Y - k) % 18446744073709551616 := by
    show (((X + 18446744073709551616 - Y - k) % 18446744073709551616 : Nat) : Int) = _
    omega
  have e2 : Int.ofNat (if X < Y + k then 1 else 0) = ((nat01 (decide ((X : Int) < Y + k)) : Nat) : Int) := by
    by_cases h : X < Y + k
    · rw [if_pos h, decide_eq_true (by omega)]; rfl
    · rw [if_neg h, decide_eq_false (by omega)]; rfl
  rw [e1, e2]

theorem evXt_sound {P : Program} {g : FuncId} {e : Xt} (he : XtOk P g e) {args : List PV} {K : PV → Option Rt} {r : Rt} (h : evXt e args K = some r) :
    ∃ v, K v = some r ∧ ∀ (φ : Phi) (A : Nat → Prop) (w : World) (vals : List Value), RelVs φ A w args vals → ∃ mv, (callFunc g ⟨vals⟩).run P w = .ok (.value mv) w ∧ RelV φ A w v mv := by
  obtain ⟨fn, hf, hname, hb, hn, hfd⟩ := he
  unfold evXt at h
  split at h
  · rename_i x y c
    have hargs : ∀ {φ A w vals}, RelVs φ A w [.lf (.sc (.int .u64 x)), .lf (.sc (.int .u64 y)), .lf (.sc (.int .u64 c))] vals → vals = [.int .u64 x, .int .u64 y, .int .u64 c] := fun hv => by
      simp only [RelVs, RelV, RelL] at hv
      obtain ⟨v1, r1, e1, h1, v2, r2, e2, h2, v3, r3, e3, h3, h4⟩ := hv
      rw [e1, e2, e3, h1, h2, h3, h4]
    cases e with
    | add64 =>
      simp only [] at h
      split at h
      · rename_i hc
        refine ⟨_, h, fun φ A w vals hv => ?_⟩
        rw [hargs hv]
        refine ⟨.tuple #[.int .u64 ((x + y + c) % 18446744073709551616), .int .u64 ((x + y + c) / 18446744073709551616)], ?_, ?_⟩
        · rw [run_callFunc_extern hf hname hb hn hfd]
          show ((add64Entry #[.int .u64 x, .int .u64 y, .int .u64 c]).run P w).andThen _ = _
          rw [run_add64 x y c hc.1 hc.2.1 hc.2.2.1 hc.2.2.2]
          rfl
        · simp only [RelV]
          exact ⟨_, rfl, by simp [RelVs, RelV, RelL, sc]⟩
      · cases h
    | sub64 =>
      simp only [] at h
      split at h
      · rename_i hc
        refine ⟨_, h, fun φ A w vals hv => ?_⟩
        rw [hargs hv]
        refine ⟨.tuple #[.int .u64 ((x + 18446744073709551616 - y - c) % 18446744073709551616), .int .u64 (((nat01 (decide (x < y + c))) : Nat) : Int)], ?_, ?_⟩
        · rw [run_callFunc_extern hf hname hb hn hfd]
          show ((sub64Entry #[.int .u64 x, .int .u64 y, .int .u64 c]).run P w).andThen _ = _
          rw [run_sub64 x y c hc.1 hc.2.1 hc.2.2.1 hc.2.2.2.1 hc.2.2.2.2]
          rfl
        · simp only [RelV]
          exact ⟨_, rfl, by simp [RelVs, RelV, RelL, sc]⟩
      · cases h
  · cases h
end Go.Ev
