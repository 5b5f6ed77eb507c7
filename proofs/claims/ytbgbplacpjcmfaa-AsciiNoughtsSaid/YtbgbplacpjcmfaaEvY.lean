/- Part of a proof about the given program: EvY. -/
import Derived.Test.YtbgbplacpjcmfaaEvX
namespace Go.Ev

/-! # Functions that are known -/
structure Ent where
  gi : Sg
  gos : List Sg
  f : gi.D → Option (alt gos)

def EntOk (P : Program) (g : FuncId) (e : Ent) : Prop :=
  ∀ x y, e.f x = some y → ∀ args hl q, packIn e.gi args hl = some (q, x) → Eqs q → FnOk P g args hl (altOut e.gos y)

theorem ent_ok {any : Bool} {P : Program} {g : FuncId} {fn : Func} {c : Code} {fx : List Bool} {gi : Sg} {gos : List Sg} {f : gi.D → Option (alt gos)} (F : FnFits P g fn c fx gi gos) (hres : tmpsB fn.results.toList (tnOf gos) = true) {O : Orc (alt gos)} (hO : OrcOk P O) (hmix : P.follows .mixedOrders = true) {p : Plan} (hp : PlanOk P fn.ntmps fx any p c)
    (h : ∀ x, f x = evF P O fn.ntmps fx c p gi x (fnK fx gos)) : EntOk P g ⟨gi, gos, f⟩ :=
  fun x _ hx _ _ _ hin hq => fn_ok F hres hO hmix hp (((h x).trans (evF_eq ..)).symm.trans hx) hin hq
/-- Some results are cells. -/
theorem ent_okR {any : Bool} {P : Program} {g : FuncId} {fn : Func} {c : Code} {fx : List Bool} {gi : Sg} {gos : List Sg} {f : gi.D → Option (alt gos)} (F : FnFits P g fn c fx gi gos) {O : Orc (alt gos)} (hO : OrcOk P O) (hmix : P.follows .mixedOrders = true) {p : Plan} (hp : PlanOk P fn.ntmps fx any p c)
    (h : ∀ x, f x = evF P O fn.ntmps fx c p gi x (fnKR P fn fx gos)) : EntOk P g ⟨gi, gos, f⟩ :=
  fun x _ hx _ _ _ hin hq => fn_okV F resOk_cells hO hmix hp (((h x).trans (evF_eq ..)).symm.trans hx) hin hq

/-! ## Functions that call themselves -/
noncomputable def recN {gi : Sg} {gos : List Sg} (body : (gi.D → Option (alt gos)) → gi.D → Option (alt gos)) (k : Nat) : gi.D → Option (alt gos) :=
  Nat.rec (fun _ => none) (fun _ ih => body ih) k
theorem recN_succ {gi : Sg} {gos : List Sg} {body : (gi.D → Option (alt gos)) → gi.D → Option (alt gos)} {k : Nat} {x : gi.D} : recN body (k + 1) x = body (recN body k) x := rfl
theorem rec_ok {P : Program} {g : FuncId} {gi : Sg} {gos : List Sg} {body : (gi.D → Option (alt gos)) → gi.D → Option (alt gos)} (h : ∀ F, EntOk P g ⟨gi, gos, F⟩ → EntOk P g ⟨gi, gos, body F⟩) : ∀ k, EntOk P g ⟨gi, gos, recN body k⟩
  | 0 => fun _ _ hx => by cases hx
  | k + 1 => h _ (rec_ok h k)

def runEnts {Rt : Type} : List Ent → List PV → List Ob → (Out → Option Rt) → Option Rt
  | [], _, _, _ => none
  | e :: l, args, hl, K => match packIn e.gi args hl with
    | some (q, x) => eqs q ((e.f x).bind (altK K e.gos))
    | none => runEnts l args hl K

structure Table where
  ents : FuncId → List Ent
  byRef : FuncId → List Bool
  ext : FuncId → Option Xt

def Table.orc (T : Table) (Rt : Type) : Orc Rt := ⟨fun g args hl K => runEnts (T.ents g) args hl K, T.byRef, T.ext, fun _ _ => false, fun _ _ h => by cases h⟩
def Table.orcE (T : Table) (Rt : Type) (eq : Rt → Rt → Bool) (he : ∀ a b, eq a b = true → a = b) : Orc Rt := ⟨fun g args hl K => runEnts (T.ents g) args hl K, T.byRef, T.ext, eq, he⟩
def TableOk (P : Program) (T : Table) : Prop := (∀ g, ∀ e ∈ T.ents g, EntOk P g e) ∧ ∀ g e, T.ext g = some e → XtOk P g e

theorem runEnts_sound {P : Program} {g : FuncId} {Rt : Type} : ∀ {l : List Ent}, (∀ e ∈ l, EntOk P g e) → ∀ {args : List PV} {hl : List Ob} {K : Out → Option Rt} {r : Rt}, runEnts l args hl K = some r → ∃ out, K out = some r ∧ FnOk P g args hl out
  | [], _, _, _, _, _, h => by cases h
  | e :: l, hl', args, hl, K, r, h => by
    unfold runEnts at h
    split at h
    · rename_i q x hx
      obtain ⟨h1, h2⟩ := eqs_spec h
      cases hf : e.f x with
      | none => rw [hf] at h2; cases h2
      | some y =>
        rw [hf] at h2
        simp only [Option.bind_some] at h2
        rw [altK_eq] at h2
        exact ⟨_, h2, hl' e (List.mem_cons_self ..) x y hf args hl q hx h1⟩
    · exact runEnts_sound (fun e he => hl' e (List.mem_cons_of_mem _ he)) h

theorem Table.ok {P : Program} {T : Table} (h : TableOk P T) (Rt : Type) : OrcOk P (T.orc Rt) := ⟨fun g _ _ _ _ hr => runEnts_sound (h.1 g) hr, h.2⟩

theorem Table.okE {P : Program} {T : Table} (h : TableOk P T) (Rt : Type) (eq : Rt → Rt → Bool) (he : ∀ a b, eq a b = true → a = b) : OrcOk P (T.orcE Rt eq he) := ⟨fun g _ _ _ _ hr => runEnts_sound (h.1 g) hr, h.2⟩

def Table.empty : Table := ⟨fun _ => [], fun _ => [], fun _ => none⟩
theorem Table.empty_ok (P : Program) : TableOk P Table.empty := ⟨(fun _ _ h => by cases h), (fun _ _ h => by cases h)⟩

def Table.add (T : Table) (g : FuncId) (es : List Ent) (br : List Bool) : Table := ⟨fun i => cond (Nat.beq i g) es (T.ents i), fun i => cond (Nat.beq i g) br (T.byRef i), T.ext⟩
theorem Table.add_ok {P : Program} {T : Table} (h : TableOk P T) {g : FuncId} {es : List Ent} (he : ∀ e ∈ es, EntOk P g e) (br : List Bool) : TableOk P (T.add g es br) := ⟨fun i e hi => by
  have hi : e ∈ cond (Nat.beq i g) es (T.ents i) := hi
  cases hb : Nat.beq i g with
  | false => rw [hb] at hi; exact h.1 i e hi
  | true =>
    rw [hb] at hi
    rw [Nat.eq_of_beq_eq_true hb]; exact he e hi, h.2⟩

def Table.addX (T : Table) (g : FuncId) (e : Xt) : Table := ⟨T.ents, T.byRef, fun i => cond (Nat.beq i g) (some e) (T.ext i)⟩
theorem Table.addX_ok {P : Program} {T : Table} (h : TableOk P T) {g : FuncId} {e : Xt} (he : XtOk P g e) : TableOk P (T.addX g e) := ⟨h.1, fun i x hx => by
  have hx : cond (Nat.beq i g) (some e) (T.ext i) = some x := hx
  cases hb : Nat.beq i g with
  | false => rw [hb] at hx; exact h.2 i x hx
  | true =>
    rw [hb] at hx
    simp only [cond, Option.some.injEq] at hx
    subst hx
    rw [Nat.eq_of_beq_eq_true hb]; exact he⟩
end Go.Ev
