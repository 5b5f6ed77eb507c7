/- Part of a proof about the given program: Big. -/
import Derived.Test.YtbgbplacpjcmfaaRule
namespace Go.Ev

/-! # Bytes and bits as one number, the first one greatest -/
def be : List Int → Nat
  | [] => 0
  | x :: l => x.toNat * 256 ^ l.length + be l
theorem be_append : ∀ (a b : List Int), be (a ++ b) = be a * 256 ^ b.length + be b
  | [], b => by simp [be]
  | x :: a, b => by
    simp only [List.cons_append, be, be_append a b, List.length_append, Nat.pow_add, Nat.add_mul, Nat.mul_assoc, Nat.add_assoc]
theorem be_lt : ∀ {a : List Int}, IsB a → be a < 256 ^ a.length
  | [], _ => by simp [be]
  | x :: a, h => by
    have h1 := h x (List.mem_cons_self ..)
    have h2 := be_lt (a := a) (fun y hy => h y (List.mem_cons_of_mem _ hy))
    simp only [be, List.length_cons, Nat.pow_succ]
    have h3 : (x.toNat + 1) * 256 ^ a.length ≤ 256 * 256 ^ a.length := Nat.mul_le_mul (by omega) (Nat.le_refl _)
    rw [Nat.add_mul] at h3
    omega
theorem be_inj : ∀ {a b : List Int}, IsB a → IsB b → a.length = b.length → be a = be b → a = b
  | [], [], _, _, _, _ => rfl
  | [], _ :: _, _, _, h, _ => by simp at h
  | _ :: _, [], _, _, h, _ => by simp at h
  | x :: a, y :: b, ha, hb, hl, hv => by
    have h1 := ha x (List.mem_cons_self ..)
    have h2 := hb y (List.mem_cons_self ..)
    have ha' : IsB a := fun z hz => ha z (List.mem_cons_of_mem _ hz)
    have hb' : IsB b := fun z hz => hb z (List.mem_cons_of_mem _ hz)
    have hl' : a.length = b.length := by simpa using hl
    have l1 := be_lt ha'
    have l2 := be_lt hb'
    simp only [be] at hv
    rw [hl'] at hv l1
    have hp : 0 < 256 ^ b.length := Nat.pow_pos (by omega)
    have hx : x.toNat = y.toNat := by
      have e1 : (x.toNat * 256 ^ b.length + be a) / 256 ^ b.length = x.toNat := by rw [Nat.add_comm, Nat.add_mul_div_right _ _ hp, Nat.div_eq_of_lt l1]; omega
      have e2 : (y.toNat * 256 ^ b.length + be b) / 256 ^ b.length = y.toNat := by rw [Nat.add_comm, Nat.add_mul_div_right _ _ hp, Nat.div_eq_of_lt l2]; omega
      rw [← e1, ← e2, hv]
    rw [hx] at hv
    have ht : be a = be b := by omega
    rw [show x = y by omega, be_inj ha' hb' hl' ht]

def nm : List Bool → Nat
  | [] => 0
  | b :: l => b.toNat * 2 ^ l.length + nm l
theorem nm_append : ∀ (a b : List Bool), nm (a ++ b) = nm a * 2 ^ b.length + nm b
  | [], b => by simp [nm]
  | x :: a, b => by
    simp only [List.cons_append, nm, nm_append a b, List.length_append, Nat.pow_add, Nat.add_mul, Nat.mul_assoc, Nat.add_assoc]
theorem nm_lt : ∀ l : List Bool, nm l < 2 ^ l.length
  | [] => by simp [nm]
  | b :: l => by
    have := nm_lt l
    have hb : b.toNat ≤ 1 := by cases b <;> decide
    simp only [nm, List.length_cons, Nat.pow_succ]
    have h3 : b.toNat * 2 ^ l.length ≤ 1 * 2 ^ l.length := Nat.mul_le_mul hb (Nat.le_refl _)
    omega
/-- A number's bits, the highest first. -/
def bitsM (v : Nat) : Nat → List Bool
  | 0 => []
  | n + 1 => decide (v / 2 ^ n % 2 = 1) :: bitsM v n
theorem bitsM_length (v : Nat) : ∀ n, (bitsM v n).length = n
  | 0 => rfl
  | n + 1 => by simp [bitsM, bitsM_length v n]
theorem nm_bitsM (v : Nat) : ∀ n, nm (bitsM v n) = v % 2 ^ n
  | 0 => by simp [bitsM, nm]; omega
  | n + 1 => by
    simp only [bitsM, nm, nm_bitsM v n, decide_toNat, bitsM_length]
    rw [Nat.pow_succ, Nat.mod_mul]
    rw [Nat.mul_comm]; omega

theorem min64 {n : Nat} (h : n ≤ 64) : Min.min (Int.toNat (n : Int)) 64 = n := by rw [Int.toNat_natCast]; omega
/-- A mask. -/
theorem mask64 {w m : Nat} (hw : w < 18446744073709551616) (hm : m ≤ 62) :
    ((BitVec.toNat ((BitVec.ofInt 64 (w : Int)) &&& (BitVec.ofInt 64 (IntKind.wrap IntKind.i64 (IntKind.wrap IntKind.i64 (1 * (2 ^ m)) - 1)))) : Nat) : Int) = ((w % 2 ^ m : Nat) : Int) := by
  have hp : (2 : Nat) ^ m ≤ 4611686018427387904 := by
    have : (2 : Nat) ^ m ≤ 2 ^ 62 := Nat.pow_le_pow_right (by omega) hm
    simpa using this
  have hpos := Nat.two_pow_pos m
  have e1 : IntKind.wrap IntKind.i64 (1 * (2 ^ m)) = ((2 ^ m : Nat) : Int) := by
    rw [Int.one_mul, show ((2 : Int) ^ m) = ((2 ^ m : Nat) : Int) by simp]
    exact wrap_i64 (by generalize (2 : Nat) ^ m = p at hp; omega)
  have e2 : IntKind.wrap IntKind.i64 (((2 ^ m : Nat) : Int) - 1) = ((2 ^ m - 1 : Nat) : Int) := by
    generalize (2 : Nat) ^ m = p at hp hpos
    rw [wrap_i64 (by omega)]; omega
  rw [e1, e2, and64 hw (by generalize (2 : Nat) ^ m = p at hp hpos; omega), Nat.and_two_pow_sub_one_eq_mod]
theorem shl_or {w v n : Nat} (hv : v < 2 ^ n) : (w * 2 ^ n ||| v) = w * 2 ^ n + v := by
  rw [Nat.mul_comm, ← Nat.two_pow_add_eq_or_of_lt hv]

/-! # Bytes as a text -/
theorem bytesStr_inj {a b : List Int} (ha : IsB a) (hb : IsB b) (h : bytesStr a = bytesStr b) : a = b := by
  have h1 : (a.map fun n => UInt8.ofNat n.toNat) = (b.map fun n => UInt8.ofNat n.toNat) := by
    unfold bytesStr at h
    simpa using h
  clear h
  induction a generalizing b with
  | nil => cases b with | nil => rfl | cons y b => simp at h1
  | cons x a ih =>
    cases b with
    | nil => simp at h1
    | cons y b =>
      simp only [List.map_cons, List.cons.injEq] at h1
      have hx := ha x (List.mem_cons_self ..)
      have hy := hb y (List.mem_cons_self ..)
      have e : x.toNat = y.toNat := by
        have := congrArg UInt8.toNat h1.1
        simp only [UInt8.toNat_ofNat'] at this
        omega
      rw [show x = y by omega, ih (fun z hz => ha z (List.mem_cons_of_mem _ hz)) (fun z hz => hb z (List.mem_cons_of_mem _ hz)) h1.2]
theorem bytesStr_size (a : List Int) : (bytesStr a).size = a.length := by
  unfold bytesStr
  show (List.toArray _).size = _
  simp
theorem IsB.nil : IsB [] := fun _ h => by cases h
theorem IsB.one {x : Int} (h : 0 ≤ x ∧ x < 256) : IsB [x] := fun y hy => by rw [List.mem_singleton] at hy; rw [hy]; exact h
theorem isB_wf {b : List Int} (h : Wf (.slice (.int .u8)) b) : IsB b := fun x hx => by
  have h1 : IntKind.u8.min ≤ x ∧ x ≤ IntKind.u8.max := h.2 x hx
  rw [show IntKind.u8.min = 0 by decide, show IntKind.u8.max = 255 by decide] at h1
  omega
end Go.Ev
