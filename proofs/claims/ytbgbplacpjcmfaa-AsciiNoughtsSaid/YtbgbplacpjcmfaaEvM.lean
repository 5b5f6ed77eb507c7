/- Part of a proof about the given program: EvM. -/
import Derived.Test.YtbgbplacpjcmfaaEvL
import Derived.Test.YtbgbplacpjcmfaaEvM2
import Derived.Test.YtbgbplacpjcmfaaEvL3
namespace Go.Ev
variable {Rt : Type}

/-! ## Renaming -/
mutual
def renL (g : Nat → Option Nat) : Lf → Lf
  | .any => .any
  | .anyb => .anyb
  | .sc v => .sc v
  | .ptr o a b c d e => match g o with | some o' => .ptr o' a b c d e | none => .any
  | .sl s xs c => .sl s xs c
  | .dp s xs i j => .dp s xs i j
  | .slr s o a b c d e => match g o with | some o' => .slr s o' a b c d e | none => .any
  | .fnc f cs => .fnc f (renLs g cs)
  | .ifc t l => .ifc t (renL g l)
  | .mp o => match g o with | some o' => .mp o' | none => .any
def renLs (g : Nat → Option Nat) : List Lf → List Lf
  | [] => []
  | l :: ls => renL g l :: renLs g ls
end

def renG (g : Nat → Option Nat) : List Seg → List Seg
  | [] => []
  | .lf l :: r => .lf (renL g l) :: renG g r
  | .many s xs n :: r => .many s xs n :: renG g r

mutual
def renV (g : Nat → Option Nat) : PV → PV
  | .lf l => .lf (renL g l)
  | .agg r => .agg (renG g r)
  | .tup ps => .tup (renVs g ps)
def renVs (g : Nat → Option Nat) : List PV → List PV
  | [] => []
  | p :: ps => renV g p :: renVs g ps
end

def renOb (g : Nat → Option Nat) : Ob → Ob
  | .box own r => .box own (renG g r)
  | .arr own s xs => .arr own s xs
  | .map a b m => .map a b m
  | .iter s n => .iter s n

def Goes (φ φ2 : Phi) (g : Nat → Option Nat) : Prop := ∀ o o' b, g o = some o' → φ o = some b → φ2 o' = some b

mutual
theorem renL_rel {φ φ2 : Phi} {A : Nat → Prop} {w : World} {g : Nat → Option Nat} (hg : Goes φ φ2 g) : ∀ {l : Lf} {v : Value}, RelL φ A w l v → RelL φ2 A w (renL g l) v
  | .any, v, _ => by simp [renL, RelL]
  | .anyb, _, h => by simpa only [renL, RelL] using h
  | .sc _, _, h => by simpa only [renL, RelL] using h
  | .ptr o .., _, h => by
    simp only [RelL] at h
    obtain ⟨b, hb, h⟩ := h
    simp only [renL]
    split
    · rename_i o' ho; simp only [RelL]; exact ⟨b, hg o o' b ho hb, h⟩
    · simp [RelL]
  | .sl .., _, h => by simpa only [renL, RelL] using h
  | .dp .., _, h => by simpa only [renL, RelL] using h
  | .slr s o .., _, h => by
    simp only [RelL] at h
    obtain ⟨b, hb, h⟩ := h
    simp only [renL]
    split
    · rename_i o' ho; simp only [RelL]; exact ⟨b, hg o o' b ho hb, h⟩
    · simp [RelL]
  | .fnc f cs, _, h => by
    simp only [RelL] at h
    obtain ⟨vs, e, h⟩ := h
    simp only [renL, RelL]
    exact ⟨vs, e, renLs_rel hg h⟩
  | .ifc t l, _, h => by
    simp only [RelL] at h
    obtain ⟨u, e, h⟩ := h
    simp only [renL, RelL]
    exact ⟨u, e, renL_rel hg h⟩
  | .mp o, _, h => by
    simp only [RelL] at h
    obtain ⟨b, hb, h⟩ := h
    simp only [renL]
    split
    · rename_i o' ho; simp only [RelL]; exact ⟨b, hg o o' b ho hb, h⟩
    · simp [RelL]
theorem renLs_rel {φ φ2 : Phi} {A : Nat → Prop} {w : World} {g : Nat → Option Nat} (hg : Goes φ φ2 g) : ∀ {l : List Lf} {v : List Value}, RelLs φ A w l v → RelLs φ2 A w (renLs g l) v
  | [], _, h => by simpa only [renLs, RelLs] using h
  | l :: ls, _, h => by
    simp only [RelLs] at h
    obtain ⟨v, vs, e, h1, h2⟩ := h
    simp only [renLs, RelLs]
    exact ⟨v, vs, e, renL_rel hg h1, renLs_rel hg h2⟩
end

theorem renG_rel {φ φ2 : Phi} {A : Nat → Prop} {w : World} {g : Nat → Option Nat} (hg : Goes φ φ2 g) : ∀ {r : List Seg} {v : List Value}, RelG φ A w r v → RelG φ2 A w (renG g r) v
  | [], _, h => h
  | .lf _ :: _, _, ⟨v1, v2, e, ⟨v, e1, hv⟩, h⟩ => ⟨v1, v2, e, ⟨v, e1, renL_rel hg hv⟩, renG_rel hg h⟩
  | .many _ _ _ :: _, _, ⟨v1, v2, e, h1, h⟩ => ⟨v1, v2, e, h1, renG_rel hg h⟩

mutual
theorem renV_rel {φ φ2 : Phi} {A : Nat → Prop} {w : World} {g : Nat → Option Nat} (hg : Goes φ φ2 g) : ∀ {p : PV} {v : Value}, RelV φ A w p v → RelV φ2 A w (renV g p) v
  | .lf _, _, h => by simp only [RelV] at h; simp only [renV, RelV]; exact renL_rel hg h
  | .agg _, _, h => by
    simp only [RelV] at h
    obtain ⟨vs, e, h⟩ := h
    simp only [renV, RelV]; exact ⟨vs, e, renG_rel hg h⟩
  | .tup _, _, h => by
    simp only [RelV] at h
    obtain ⟨vs, e, h⟩ := h
    simp only [renV, RelV]; exact ⟨vs, e, renVs_rel hg h⟩
theorem renVs_rel {φ φ2 : Phi} {A : Nat → Prop} {w : World} {g : Nat → Option Nat} (hg : Goes φ φ2 g) : ∀ {p : List PV} {v : List Value}, RelVs φ A w p v → RelVs φ2 A w (renVs g p) v
  | [], _, h => by simpa only [renVs, RelVs] using h
  | _ :: _, _, h => by
    simp only [RelVs] at h
    obtain ⟨v, vs, e, h1, h2⟩ := h
    simp only [renVs, RelVs]
    exact ⟨v, vs, e, renV_rel hg h1, renVs_rel hg h2⟩
end

theorem renOb_rel {φ φ2 : Phi} {A : Nat → Prop} {w : World} {g : Nat → Option Nat} (hg : Goes φ φ2 g) {b : Bind} : ∀ {x : Ob}, RelOb φ A w b x → RelOb φ2 A w b (renOb g x)
  | .box _ _, ⟨vs, h, h'⟩ => ⟨vs, renG_rel hg h, h'⟩
  | .arr .., h => h
  | .map .., h => h
  | .iter .., h => h

theorem renOb_owns (g : Nat → Option Nat) (b : Bind) (x : Ob) : Owns b (renOb g x) = Owns b x := by cases x <;> rfl

/-! ## What is reached -/
mutual
def refsL : Lf → List Nat
  | .ptr o .. => [o]
  | .slr _ o .. => [o]
  | .mp o => [o]
  | .fnc _ cs => refsLs cs
  | .ifc _ l => refsL l
  | _ => []
def refsLs : List Lf → List Nat
  | [] => []
  | l :: ls => refsL l ++ refsLs ls
end
def refsG : List Seg → List Nat
  | [] => []
  | .lf l :: r => refsL l ++ refsG r
  | .many .. :: r => refsG r
mutual
def refsV : PV → List Nat
  | .lf l => refsL l
  | .agg g => refsG g
  | .tup ps => refsVs ps
def refsVs : List PV → List Nat
  | [] => []
  | p :: ps => refsV p ++ refsVs ps
end
def refsOb : Ob → List Nat
  | .box _ g => refsG g
  | _ => []

def elemB (o : Nat) : List Nat → Bool
  | [] => false
  | x :: l => Nat.beq x o || elemB o l
def nodupB : List Nat → Bool
  | [] => true
  | x :: l => !elemB x l && nodupB l
def idxOf (o : Nat) : List Nat → Option Nat
  | [] => none
  | x :: l => cond (Nat.beq x o) (some 0) (match idxOf o l with | some i => some (i + 1) | none => none)

theorem elemB_mem {o : Nat} : ∀ {l : List Nat}, elemB o l = true ↔ o ∈ l
  | [] => by simp [elemB]
  | x :: l => by
    simp only [elemB, Bool.or_eq_true, elemB_mem (l := l), List.mem_cons, Nat.beq_eq]
    constructor
    · rintro (h | h)
      · exact .inl h.symm
      · exact .inr h
    · rintro (h | h)
      · exact .inl h.symm
      · exact .inr h

theorem nodupB_spec : ∀ {l : List Nat}, nodupB l = true → l.Nodup
  | [], _ => List.nodup_nil
  | x :: l, h => by
    simp only [nodupB, Bool.and_eq_true, Bool.not_eq_true'] at h
    refine List.nodup_cons.2 ⟨fun hm => ?_, nodupB_spec h.2⟩
    rw [elemB_mem.2 hm] at h; cases h.1

theorem idxOf_get {o : Nat} : ∀ {l : List Nat} {i : Nat}, idxOf o l = some i → l[i]? = some o
  | [], _, h => by cases h
  | x :: l, i, h => by
    unfold idxOf at h
    cases hb : Nat.beq x o with
    | true =>
      rw [hb] at h; simp only [cond, Option.some.injEq] at h
      rw [← h, Nat.eq_of_beq_eq_true hb]; rfl
    | false =>
      rw [hb] at h; simp only [cond] at h
      split at h
      · rename_i j hj
        simp only [Option.some.injEq] at h
        rw [← h, List.getElem?_cons_succ]; exact idxOf_get hj
      · cases h

theorem idxOf_none {o : Nat} : ∀ {l : List Nat}, idxOf o l = none → o ∉ l
  | [], _ => by simp
  | x :: l, h => by
    unfold idxOf at h
    cases hb : Nat.beq x o with
    | true => rw [hb] at h; cases h
    | false =>
      rw [hb] at h; simp only [cond] at h
      split at h
      · cases h
      · rename_i hn
        intro hm
        rcases List.mem_cons.1 hm with h1 | h1
        · rw [h1] at hb
          rw [Nat.beq_refl] at hb; cases hb
        · exact idxOf_none hn h1

/-- Objects that are reached from here, the first ones first. -/
def reach (f : Nat → Option Ob) : Nat → List Nat → List Nat → List Nat
  | 0, _, seen => seen
  | _ + 1, [], seen => seen
  | n + 1, o :: todo, seen => cond (elemB o seen) (reach f n todo seen)
      (match f o with
        | some x => reach f n (refsOb x ++ todo) (seen ++ [o])
        | none => reach f n todo seen)

def obsOf (f : Nat → Option Ob) : List Nat → Option (List Ob)
  | [] => some []
  | o :: l => match f o, obsOf f l with
    | some x, some r => some (x :: r)
    | _, _ => none

theorem obsOf_get {f : Nat → Option Ob} : ∀ {l : List Nat} {r : List Ob}, obsOf f l = some r → r.length = l.length ∧ ∀ (i : Nat) (o : Nat), l[i]? = some o → ∃ x, r[i]? = some x ∧ f o = some x
  | [], r, h => by simp only [obsOf, Option.some.injEq] at h; rw [← h]; simp
  | o :: l, r, h => by
    unfold obsOf at h
    split at h
    · rename_i x r' hx hr
      simp only [Option.some.injEq] at h
      obtain ⟨h1, h2⟩ := obsOf_get hr
      rw [← h]
      refine ⟨by simp [h1], fun i o' hi => ?_⟩
      cases i with
      | zero => simp only [List.getElem?_cons_zero, Option.some.injEq] at hi ⊢; exact ⟨x, rfl, hi ▸ hx⟩
      | succ i => rw [List.getElem?_cons_succ] at hi ⊢; exact h2 i o' hi
    · cases h

/-! ## Contracts -/
def hlOf (hl : List Ob) : Nat → Option Ob := fun i => hl[i]?
def hlOut (hl : List (Option Ob)) : Nat → Option Ob := fun i => match hl[i]? with | some x => x | none => none

def Owned (φ : Phi) (f : Nat → Option Ob) (k : Nat) : Prop := ∃ o x b, f o = some x ∧ φ o = some b ∧ Owns b x ∧ b.blk = k

/-- The environment of a call that begins here. -/
def envOf (φ : Phi) (A : Nat → Prop) (w : World) (f : Nat → Option Ob) : Env := ⟨w, Owned φ f, A, fun _ => True, fun _ _ _ _ => trivial, [], fun _ _ _ _ => trivial⟩

structure Given (φ : Phi) (A : Nat → Prop) (w : World) (f : Nat → Option Ob) (nx : Nat) : Prop where
  obs : ROb (envOf φ A w f) φ A f nx w

theorem Frm.refl (φ : Phi) (A : Nat → Prop) (w : World) (f : Nat → Option Ob) (hgl : GlobAt A (Owned φ f) w) : Frm (envOf φ A w f) A w :=
  ⟨Nat.le_refl _, fun _ _ _ => rfl, fun _ _ h => h, fun _ _ h _ => h, rfl, rfl, rfl, hgl⟩

abbrev Out := PV × List (Option Ob)

def FnOk (P : Program) (g : FuncId) (args : List PV) (hl : List Ob) (out : Out) : Prop :=
  ∀ (φ : Phi) (A : Nat → Prop) (w : World) (vals : List Value), RelVs φ A w args vals → ROb (envOf φ A w (hlOf hl)) φ A (hlOf hl) hl.length w → GlobAt A (Owned φ (hlOf hl)) w →
    Calls P g ⟨vals⟩ w fun e w' => ∃ φ' A' v, e = .returned v ∧ RelV φ' A' w' out.1 v ∧ ROb (envOf φ A w (hlOf hl)) φ' A' (hlOut out.2) out.2.length w' ∧ Frm (envOf φ A w (hlOf hl)) A' w' ∧ ∀ i, i < hl.length → φ' i = φ i

structure Orc (Rt : Type) where
  fn : FuncId → List PV → List Ob → (Out → Option Rt) → Option Rt
  byRef : FuncId → List Bool
  ext : FuncId → Option Xt
  eq : Rt → Rt → Bool
  eqOk : ∀ a b, eq a b = true → a = b

def OrcOk (P : Program) (O : Orc Rt) : Prop := (∀ g args hl K r, O.fn g args hl K = some r → ∃ out, K out = some r ∧ FnOk P g args hl out) ∧ ∀ g e, O.ext g = some e → XtOk P g e

/-! ### does a value lead to data? -/
def dataS : Shape → Bool
  | .slice _ => true
  | .pair a b => dataS a || dataS b
  | _ => false
mutual
def dataL : Lf → Bool
  | .sl .. => true
  | .dp .. => true
  | .fnc _ cs => dataLs cs
  | .ifc _ l => dataL l
  | _ => false
def dataLs : List Lf → Bool
  | [] => false
  | l :: ls => dataL l || dataLs ls
end
def dataG : List Seg → Bool
  | [] => false
  | .lf l :: r => dataL l || dataG r
  | .many s _ _ :: r => dataS s || dataG r
mutual
def dataV : PV → Bool
  | .lf l => dataL l
  | .agg g => dataG g
  | .tup ps => dataVs ps
def dataVs : List PV → Bool
  | [] => false
  | p :: ps => dataV p || dataVs ps
end
def dataOb : Ob → Bool
  | .box own g => !own || dataG g
  | .arr own s _ => !own || dataS s
  | .map a b _ => dataS a || dataS b
  | .iter .. => false
def dataObs : List (Option Ob) → Bool
  | [] => false
  | some x :: r => dataOb x || dataObs r
  | none :: r => dataObs r

theorem dataS_rel {A A' : Nat → Prop} {w : World} : ∀ {s : Shape} {d : den s} {vs : List Value}, dataS s = false → RelD A w s d vs → RelD A' w s d vs
  | .int _, _, _, _, h => h
  | .bool, _, _, _, h => h
  | .str, _, _, _, h => h
  | .pair a b, _, _, hd, ⟨v1, v2, e, h1, h2⟩ => by
    simp only [dataS, Bool.or_eq_false_iff] at hd
    exact ⟨v1, v2, e, dataS_rel hd.1 h1, dataS_rel hd.2 h2⟩
  | .slice _, _, _, hd, _ => by cases hd

mutual
theorem dataL_rel {φ : Phi} {A A' : Nat → Prop} {w : World} : ∀ {l : Lf} {v : Value}, dataL l = false → RelL φ A w l v → RelL φ A' w l v
  | .any, _, _, h => by simp only [RelL]
  | .anyb, _, _, h => by simpa only [RelL] using h
  | .sc _, _, _, h => by simpa only [RelL] using h
  | .ptr .., _, _, h => by simpa only [RelL] using h
  | .sl .., _, hd, _ => by simp [dataL] at hd
  | .dp .., _, hd, _ => by simp [dataL] at hd
  | .slr .., _, _, h => by simpa only [RelL] using h
  | .fnc f cs, _, hd, h => by
    simp only [dataL] at hd
    simp only [RelL] at h ⊢
    obtain ⟨vs, e, h⟩ := h
    exact ⟨vs, e, dataLs_rel hd h⟩
  | .ifc t l, _, hd, h => by
    simp only [dataL] at hd
    simp only [RelL] at h ⊢
    obtain ⟨u, e, h⟩ := h
    exact ⟨u, e, dataL_rel hd h⟩
  | .mp _, _, _, h => by simpa only [RelL] using h
theorem dataLs_rel {φ : Phi} {A A' : Nat → Prop} {w : World} : ∀ {l : List Lf} {v : List Value}, dataLs l = false → RelLs φ A w l v → RelLs φ A' w l v
  | [], _, _, h => by simpa only [RelLs] using h
  | l :: ls, _, hd, h => by
    simp only [dataLs, Bool.or_eq_false_iff] at hd
    simp only [RelLs] at h ⊢
    obtain ⟨v, vs, e, h1, h2⟩ := h
    exact ⟨v, vs, e, dataL_rel hd.1 h1, dataLs_rel hd.2 h2⟩
end

theorem dataG_rel {φ : Phi} {A A' : Nat → Prop} {w : World} : ∀ {g : List Seg} {v : List Value}, dataG g = false → RelG φ A w g v → RelG φ A' w g v
  | [], _, _, h => h
  | .lf _ :: _, _, hd, ⟨v1, v2, e, ⟨v, e1, hv⟩, h⟩ => by
    simp only [dataG, Bool.or_eq_false_iff] at hd
    exact ⟨v1, v2, e, ⟨v, e1, dataL_rel hd.1 hv⟩, dataG_rel hd.2 h⟩
  | .many s _ _ :: _, _, hd, ⟨v1, v2, e, ⟨hn, hl⟩, h⟩ => by
    simp only [dataG, Bool.or_eq_false_iff] at hd
    exact ⟨v1, v2, e, ⟨hn, hl.mono (fun _ _ hx => dataS_rel hd.1 hx)⟩, dataG_rel hd.2 h⟩

mutual
theorem dataV_rel {φ : Phi} {A A' : Nat → Prop} {w : World} : ∀ {p : PV} {v : Value}, dataV p = false → RelV φ A w p v → RelV φ A' w p v
  | .lf _, _, hd, h => by simp only [RelV] at h ⊢; exact dataL_rel (by simpa only [dataV] using hd) h
  | .agg _, _, hd, h => by
    simp only [RelV] at h ⊢
    obtain ⟨vs, e, h⟩ := h
    exact ⟨vs, e, dataG_rel (by simpa only [dataV] using hd) h⟩
  | .tup _, _, hd, h => by
    simp only [RelV] at h ⊢
    obtain ⟨vs, e, h⟩ := h
    exact ⟨vs, e, dataVs_rel (by simpa only [dataV] using hd) h⟩
theorem dataVs_rel {φ : Phi} {A A' : Nat → Prop} {w : World} : ∀ {p : List PV} {v : List Value}, dataVs p = false → RelVs φ A w p v → RelVs φ A' w p v
  | [], _, _, h => by simpa only [RelVs] using h
  | _ :: _, _, hd, h => by
    simp only [dataVs, Bool.or_eq_false_iff] at hd
    simp only [RelVs] at h ⊢
    obtain ⟨v, vs, e, h1, h2⟩ := h
    exact ⟨v, vs, e, dataV_rel hd.1 h1, dataVs_rel hd.2 h2⟩
end

theorem dataEntries_rel {A A' : Nat → Prop} {w : World} {ks vs : Shape} (h1 : dataS ks = false) (h2 : dataS vs = false) : ∀ {m : List (den ks × den vs)} {es : List MapEntry}, RelEntries A w ks vs m es → RelEntries A' w ks vs m es
  | [], _, h => h
  | _ :: _, _, ⟨e, es', h, ⟨a, b⟩, c⟩ => ⟨e, es', h, ⟨dataS_rel h1 a, dataS_rel h2 b⟩, dataEntries_rel h1 h2 c⟩

theorem dataOb_rel {φ : Phi} {A A' : Nat → Prop} {w : World} (hA : ∀ k, A k → A' k) {b : Bind} : ∀ {x : Ob}, dataOb x = false → RelOb φ A w b x → RelOb φ A' w b x
  | .box own g, hd, ⟨vs, h, hb, hh⟩ => by
    simp only [dataOb, Bool.or_eq_false_iff, Bool.not_eq_false'] at hd
    have := hd.1; subst this
    exact ⟨vs, dataG_rel hd.2 h, hb, hA _ hh.1, hh.2⟩
  | .arr own s xs, hd, ⟨h1, h2, vs, hl, hh⟩ => by
    simp only [dataOb, Bool.or_eq_false_iff, Bool.not_eq_false'] at hd
    have := hd.1; subst this
    refine ⟨h1, h2, vs, hl.mono (fun _ _ hx => dataS_rel hd.2 hx), ?_⟩
    rcases hh with hh | ⟨hb, hh⟩
    · exact .inl hh
    · exact .inr ⟨hb, hA _ hh.1, hh.2⟩
  | .map .., hd, ⟨h1, es, c, h2, h3⟩ => by
    simp only [dataOb, Bool.or_eq_false_iff] at hd
    exact ⟨hA _ h1, es, c, h2, dataEntries_rel hd.1 hd.2 h3⟩
  | .iter .., _, ⟨h0, h1, h2⟩ => ⟨h0, hA _ h1, h2⟩

/-! ### what is handed over: a slice of a row of the frame's own becomes what it shows -/
def snapL (f : Nat → Option Ob) : Lf → Option (Lf × List Nat)
  | .slr s o a b c d e => match viewL f (.slr s o a b c d e) with
    | some ⟨s', xs⟩ => some (.sl s' xs d, [o])
    | none => none
  | l => some (l, [])
def snapG (f : Nat → Option Ob) : List Seg → Option (List Seg × List Nat)
  | [] => some ([], [])
  | .lf l :: r => match snapL f l, snapG f r with
    | some (l', a), some (r', b) => some (.lf l' :: r', a ++ b)
    | _, _ => none
  | .many s xs n :: r => match snapG f r with
    | some (r', b) => some (.many s xs n :: r', b)
    | none => none
def snapV (f : Nat → Option Ob) : PV → Option (PV × List Nat)
  | .lf l => match snapL f l with | some (l', a) => some (.lf l', a) | none => none
  | .agg g => match snapG f g with | some (g', a) => some (.agg g', a) | none => none
  | .tup ps => some (.tup ps, [])
def snapVs (f : Nat → Option Ob) : List Bool → List PV → Option (List PV × List Nat)
  | _, [] => some ([], [])
  | m, p :: ps => match (cond (m.headD false) (some (p, [])) (snapV f p)), snapVs f m.tail ps with
    | some (p', a), some (ps', b) => some (p' :: ps', a ++ b)
    | _, _ => none

/-- The blocks of rows that are handed over to be looked at. -/
def Shown (φ : Phi) (f : Nat → Option Ob) (S : List Nat) (k : Nat) : Prop := ∃ o x b, o ∈ S ∧ f o = some x ∧ φ o = some b ∧ Owns b x ∧ b.blk = k
end Go.Ev
