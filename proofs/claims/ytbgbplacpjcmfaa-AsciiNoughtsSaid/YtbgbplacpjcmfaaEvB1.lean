/- Part of a proof about the given program: EvB1. -/
import Derived.Test.YtbgbplacpjcmfaaEvB
namespace Go.Ev
/-! # Values made plain before they are handed on (each of these hands on what came in) -/
section
variable {α : Type}

def fNat (n : Nat) (K : Nat → α) : α := match n with | 0 => K 0 | m + 1 => K (m + 1)
theorem fNat_eq (n : Nat) (K : Nat → α) : fNat n K = K n := by cases n <;> rfl
def fNats : List Nat → (List Nat → α) → α
  | [], K => K []
  | n :: l, K => fNat n fun n => fNats l fun l => K (n :: l)
theorem fNats_eq : ∀ (l : List Nat) (K : List Nat → α), fNats l K = K l
  | [], _ => rfl
  | n :: l, K => by simp only [fNats, fNat_eq]; rw [fNats_eq l]
def fON (n : Option Nat) (K : Option Nat → α) : α := match n with | none => K none | some m => K (some m)
theorem fON_eq (n : Option Nat) (K : Option Nat → α) : fON n K = K n := by cases n <;> rfl
def fONF (n : Option Nat) (K : Option Nat → α) : α := match n with | none => K none | some m => fNat m fun m => K (some m)
theorem fONF_eq (n : Option Nat) (K : Option Nat → α) : fONF n K = K n := by cases n <;> simp [fONF, fNat_eq]

/-- A shape made plain, and what hangs on it. -/
def fShape : (s : Shape) → (M : Shape → Type) → M s → ((s : Shape) → M s → α) → α
  | .int k, M, x, K => (match k with
    | .i8 => fun x => K (.int .i8) x | .i16 => fun x => K (.int .i16) x | .i32 => fun x => K (.int .i32) x | .i64 => fun x => K (.int .i64) x
    | .u8 => fun x => K (.int .u8) x | .u16 => fun x => K (.int .u16) x | .u32 => fun x => K (.int .u32) x | .u64 => fun x => K (.int .u64) x : M (.int k) → α) x
  | .bool, _, x, K => K .bool x
  | .str, _, x, K => K .str x
  | .pair a b, M, x, K => fShape a (fun a => M (.pair a b)) x fun a x => fShape b (fun b => M (.pair a b)) x fun b x => K (.pair a b) x
  | .slice a, M, x, K => fShape a (fun a => M (.slice a)) x fun a x => K (.slice a) x
theorem fShape_eq : ∀ (s : Shape) (M : Shape → Type) (x : M s) (K : (s : Shape) → M s → α), fShape s M x K = K s x
  | .int k, M, x, K => by cases k <;> rfl
  | .bool, _, _, _ => rfl
  | .str, _, _, _ => rfl
  | .pair a b, M, x, K => by
    simp only [fShape]
    rw [fShape_eq a, fShape_eq b]
  | .slice a, M, x, K => by
    simp only [fShape]
    rw [fShape_eq a]

def fVal (v : Value) (K : Value → α) : α := match v with
  | .int k n => K (.int k n)
  | .bool b => K (.bool b)
  | .string s => K (.string s)
  | v => K v
theorem fVal_eq (v : Value) (K : Value → α) : fVal v K = K v := by cases v <;> rfl

mutual
def fLf : Lf → (Lf → α) → α
  | .any, K => K .any
  | .anyb, K => K .anyb
  | .sc v, K => fVal v fun v => K (.sc v)
  | .ptr o off sz idx inner lim, K => fNat o fun o => fNat off fun off => fNat sz fun sz => fNat inner fun inner => fONF lim fun lim => K (.ptr o off sz idx inner lim)
  | .sl s xs cap, K => fShape s (fun s => List (den s)) xs fun s xs => fON cap fun cap => K (.sl s xs cap)
  | .dp s xs i inner, K => fShape s (fun s => List (den s)) xs fun s xs => fNat inner fun inner => K (.dp s xs i inner)
  | .slr s o off start len cap lim, K => fShape s (fun _ => Unit) () fun s _ => fNat o fun o => fNat off fun off => fON cap fun cap => fONF lim fun lim => K (.slr s o off start len cap lim)
  | .fnc f caps, K => fNat f fun f => fLfs caps fun caps => K (.fnc f caps)
  | .ifc t l, K => fNat t fun t => fLf l fun l => K (.ifc t l)
  | .mp o, K => fNat o fun o => K (.mp o)
def fLfs : List Lf → (List Lf → α) → α
  | [], K => K []
  | l :: ls, K => fLf l fun l => fLfs ls fun ls => K (l :: ls)
end
mutual
theorem fLf_eq : ∀ (l : Lf) (K : Lf → α), fLf l K = K l
  | .any, _ => rfl
  | .anyb, _ => rfl
  | .sc v, K => by simp only [fLf, fVal_eq]
  | .ptr .., K => by simp only [fLf, fNat_eq, fONF_eq]
  | .sl s xs cap, K => by simp only [fLf]; rw [fShape_eq s (fun s => List (den s)) xs]; simp only [fON_eq]
  | .dp s xs i inner, K => by simp only [fLf]; rw [fShape_eq s (fun s => List (den s)) xs]; simp only [fNat_eq]
  | .slr s o off start len cap lim, K => by simp only [fLf]; rw [fShape_eq s (fun _ => Unit) ()]; simp only [fNat_eq, fON_eq, fONF_eq]
  | .fnc f caps, K => by simp only [fLf, fNat_eq]; rw [fLfs_eq caps]
  | .ifc t l, K => by simp only [fLf, fNat_eq]; rw [fLf_eq l]
  | .mp o, K => by simp only [fLf, fNat_eq]
theorem fLfs_eq : ∀ (l : List Lf) (K : List Lf → α), fLfs l K = K l
  | [], _ => rfl
  | l :: ls, K => by simp only [fLfs]; rw [fLf_eq l, fLfs_eq ls]
end
def fSeg : Seg → (Seg → α) → α
  | .lf l, K => fLf l fun l => K (.lf l)
  | .many s xs n, K => fShape s (fun s => List (den s)) xs fun s xs => fNat n fun n => K (.many s xs n)
theorem fSeg_eq : ∀ (l : Seg) (K : Seg → α), fSeg l K = K l
  | .lf l, K => by simp only [fSeg, fLf_eq]
  | .many s xs n, K => by simp only [fSeg]; rw [fShape_eq s (fun s => List (den s)) xs]; simp only [fNat_eq]
def fSegs : List Seg → (List Seg → α) → α
  | [], K => K []
  | l :: ls, K => fSeg l fun l => fSegs ls fun ls => K (l :: ls)
theorem fSegs_eq : ∀ (l : List Seg) (K : List Seg → α), fSegs l K = K l
  | [], _ => rfl
  | l :: ls, K => by simp only [fSegs, fSeg_eq]; rw [fSegs_eq ls]
mutual
def fPV : PV → (PV → α) → α
  | .lf l, K => fLf l fun l => K (.lf l)
  | .agg g, K => fSegs g fun g => K (.agg g)
  | .tup ps, K => fPVs ps fun ps => K (.tup ps)
def fPVs : List PV → (List PV → α) → α
  | [], K => K []
  | l :: ls, K => fPV l fun l => fPVs ls fun ls => K (l :: ls)
end
mutual
theorem fPV_eq : ∀ (l : PV) (K : PV → α), fPV l K = K l
  | .lf l, K => by simp only [fPV, fLf_eq]
  | .agg g, K => by simp only [fPV, fSegs_eq]
  | .tup ps, K => by simp only [fPV]; rw [fPVs_eq ps]
theorem fPVs_eq : ∀ (l : List PV) (K : List PV → α), fPVs l K = K l
  | [], _ => rfl
  | l :: ls, K => by simp only [fPVs]; rw [fPV_eq l, fPVs_eq ls]
end
def fBool (b : Bool) (K : Bool → α) : α := match b with | true => K true | false => K false
theorem fBool_eq (b : Bool) (K : Bool → α) : fBool b K = K b := by cases b <;> rfl
def fOb : Ob → (Ob → α) → α
  | .box own g, K => fBool own fun own => fSegs g fun g => K (.box own g)
  | .arr own s xs, K => fBool own fun own => fShape s (fun s => List (den s)) xs fun s xs => K (.arr own s xs)
  | .map ks vs m, K => fShape ks (fun ks => List (den ks × den vs)) m fun ks m => fShape vs (fun vs => List (den ks × den vs)) m fun vs m => K (.map ks vs m)
  | .iter s n, K => K (.iter s n)
theorem fOb_eq : ∀ (l : Ob) (K : Ob → α), fOb l K = K l
  | .box own g, K => by simp only [fOb, fBool_eq, fSegs_eq]
  | .arr own s xs, K => by simp only [fOb, fBool_eq]; rw [fShape_eq s (fun s => List (den s)) xs]
  | .map ks vs m, K => by
    simp only [fOb]
    rw [fShape_eq ks (fun ks => List (den ks × den vs)) m, fShape_eq vs (fun vs => List (den ks × den vs)) m]
  | .iter .., _ => rfl
def fObs : List (Option Ob) → (List (Option Ob) → α) → α
  | [], K => K []
  | none :: l, K => fObs l fun l => K (none :: l)
  | some x :: l, K => fOb x fun x => fObs l fun l => K (some x :: l)
theorem fObs_eq : ∀ (l : List (Option Ob)) (K : List (Option Ob) → α), fObs l K = K l
  | [], _ => rfl
  | none :: l, K => by simp only [fObs]; rw [fObs_eq l]
  | some x :: l, K => by simp only [fObs, fOb_eq]; rw [fObs_eq l]

def fObl : List Ob → (List Ob → α) → α
  | [], K => K []
  | x :: l, K => fOb x fun x => fObl l fun l => K (x :: l)
theorem fObl_eq : ∀ (l : List Ob) (K : List Ob → α), fObl l K = K l
  | [], _ => rfl
  | x :: l, K => by simp only [fObl, fOb_eq]; rw [fObl_eq l]
def fSig : List (Option Nat) → (List (Option Nat) → α) → α
  | [], K => K []
  | x :: l, K => fONF x fun x => fSig l fun l => K (x :: l)
theorem fSig_eq : ∀ (l : List (Option Nat)) (K : List (Option Nat) → α), fSig l K = K l
  | [], _ => rfl
  | x :: l, K => by simp only [fSig, fONF_eq]; rw [fSig_eq l]

def fTab (f : Nat → Option Ob) : Nat → Nat → (List (Option Ob) → α) → α
  | 0, _, K => K []
  | n + 1, i, K => (match f i with
    | none => fTab f n (i + 1) fun l => K (none :: l)
    | some x => fOb x fun x => fTab f n (i + 1) fun l => K (some x :: l))
def tabL (f : Nat → Option Ob) : Nat → Nat → List (Option Ob)
  | 0, _ => []
  | n + 1, i => f i :: tabL f n (i + 1)
theorem fTab_eq (f : Nat → Option Ob) : ∀ (n i : Nat) (K : List (Option Ob) → α), fTab f n i K = K (tabL f n i)
  | 0, _, _ => rfl
  | n + 1, i, K => by
    simp only [fTab, tabL]
    cases h : f i with
    | none => simp only []; rw [fTab_eq f n]
    | some x => simp only [fOb_eq]; rw [fTab_eq f n]
def overL : List (Option Ob) → (Nat → Option Ob) → Nat → Option Ob
  | [], f, i => f i
  | x :: l, f, i => match i with | 0 => x | j + 1 => overL l (fun k => f (k + 1)) j
theorem overL_tab : ∀ (n i : Nat) (f : Nat → Option Ob) (j : Nat), overL (tabL f n i) (fun k => f (i + k)) j = f (i + j)
  | 0, _, _, _ => rfl
  | n + 1, i, f, 0 => rfl
  | n + 1, i, f, j + 1 => by
    simp only [tabL, overL]
    have := overL_tab n (i + 1) f j
    simp only [Nat.add_assoc, Nat.add_comm 1] at this
    rw [show (fun k => f (i + (k + 1))) = (fun k => f (i + (k + 1))) from rfl]
    exact this
/-- The objects up to a number made plain. -/
def fF (f : Nat → Option Ob) (nx : Nat) (K : (Nat → Option Ob) → α) : α := fTab f nx 0 fun l => K fun i => overL l f i
theorem fF_eq (f : Nat → Option Ob) (nx : Nat) (K : (Nat → Option Ob) → α) : fF f nx K = K f := by
  unfold fF
  rw [fTab_eq]
  congr 1
  funext i
  have := overL_tab nx 0 f i
  simp only [Nat.zero_add] at this
  exact this
end
end Go.Ev
