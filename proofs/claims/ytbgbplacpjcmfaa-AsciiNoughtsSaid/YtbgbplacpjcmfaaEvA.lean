/- Part of a proof about the given program: EvA. -/
import Derived.Calls
import Derived.Orders
namespace Go.Ev

/-! Shapes of data, and what they hold. -/
inductive Shape where
  | int (k : IntKind)
  | bool
  | str
  | pair (a b : Shape)
  | slice (a : Shape)

@[reducible] def den : Shape → Type
  | .int _ => Int
  | .bool => Bool
  | .str => ByteArray
  | .pair a b => den a × den b
  | .slice a => List (den a)

def Shape.size : Shape → Nat
  | .pair a b => a.size + b.size
  | _ => 1

theorem Shape.size_pos : ∀ s : Shape, 0 < s.size
  | .int _ => by simp [Shape.size]
  | .bool => by simp [Shape.size]
  | .str => by simp [Shape.size]
  | .pair a b => by have := Shape.size_pos a; simp only [Shape.size]; omega
  | .slice _ => by simp [Shape.size]

def kindNo : IntKind → Nat
  | .i8 => 0 | .i16 => 1 | .i32 => 2 | .i64 => 3 | .u8 => 4 | .u16 => 5 | .u32 => 6 | .u64 => 7

theorem kindNo_inj {a b : IntKind} (h : kindNo a = kindNo b) : a = b := by
  cases a <;> cases b <;> first | rfl | (simp [kindNo] at h)

def Shape.beq : Shape → Shape → Bool
  | .int k, .int k' => Nat.beq (kindNo k) (kindNo k')
  | .bool, .bool => true
  | .str, .str => true
  | .pair a b, .pair a' b' => a.beq a' && b.beq b'
  | .slice a, .slice a' => a.beq a'
  | _, _ => false

theorem Shape.eq_of_beq : ∀ {a b : Shape}, a.beq b = true → a = b
  | .int k, .int k', h => by rw [kindNo_inj (Nat.eq_of_beq_eq_true h)]
  | .bool, .bool, _ => rfl
  | .str, .str, _ => rfl
  | .pair a b, .pair a' b', h => by
    simp only [Shape.beq, Bool.and_eq_true] at h
    rw [Shape.eq_of_beq h.1, Shape.eq_of_beq h.2]
  | .slice a, .slice a', h => by rw [Shape.eq_of_beq (show a.beq a' = true from h)]

/-- A zero of each shape. -/
def zero : (s : Shape) → den s
  | .int _ => (0 : Int)
  | .bool => false
  | .str => (⟨#[]⟩ : ByteArray)
  | .pair a b => (zero a, zero b)
  | .slice _ => []

/-! Leaves: what one cell holds. -/
inductive Lf where
  | any
  | anyb
  | sc (v : Value)
  | ptr (o off sz idx inner : Nat) (lim : Option Nat)
  | sl (s : Shape) (xs : List (den s)) (cap : Option Nat)
  | dp (s : Shape) (xs : List (den s)) (i inner : Nat)
  | slr (s : Shape) (o off start len : Nat) (cap : Option Nat) (lim : Option Nat)
  | fnc (f : FuncId) (caps : List Lf)
  | ifc (t : TypeId) (l : Lf)
  | mp (o : Nat)

inductive Seg where
  | lf (l : Lf)
  | many (s : Shape) (xs : List (den s)) (n : Nat)

inductive PV where
  | lf (l : Lf)
  | agg (g : List Seg)
  | tup (l : List PV)

/-- Where an object lies: its block, its first cell, how many elements it has, how many may be. -/
structure Bind where
  blk : Nat
  base : Nat
  len : Nat
  cap : Nat

abbrev Phi := Nat → Option Bind

/-! Relations. -/
def Lift {α : Type} (R : α → List Value → Prop) : List α → List Value → Prop
  | [], vs => vs = []
  | x :: xs, vs => ∃ v1 v2, vs = v1 ++ v2 ∧ R x v1 ∧ Lift R xs v2

def CellsAt (w : World) (b off : Nat) (vs : List Value) : Prop :=
  ∀ j v, vs[j]? = some v → w.cell? ⟨b, off + j, none⟩ = some v

def Row {α : Type} (R : α → List Value → Prop) (A : Nat → Prop) (w : World) (xs : List α) (ad : Option Addr) : Prop :=
  xs = [] ∨ ∃ b off vs, ad = some ⟨b, off, none⟩ ∧ ¬ A b ∧ b < w.heap.size ∧ Lift R xs vs ∧ CellsAt w b off vs

def RelD (A : Nat → Prop) (w : World) : (s : Shape) → den s → List Value → Prop
  | .int k, n, vs => vs = [.int k n]
  | .bool, b, vs => vs = [.bool b]
  | .str, s, vs => vs = [.string s]
  | .pair a b, x, vs => ∃ v1 v2, vs = v1 ++ v2 ∧ RelD A w a x.1 v1 ∧ RelD A w b x.2 v2
  | .slice a, xs, vs => ∃ ad c, vs = [.slice ad xs.length c] ∧ xs.length ≤ c ∧ Row (RelD A w a) A w xs ad

mutual
def RelL (φ : Phi) (A : Nat → Prop) (w : World) : Lf → Value → Prop
  | .any, _ => True
  | .anyb, v => ∃ b, v = .bool b
  | .sc v, v' => v' = v
  | .ptr o off sz idx inner lim, v => ∃ b, φ o = some b ∧ v = .pointer (some ⟨b.blk, b.base + off + (idx * sz + inner), none⟩) ∧
      (sz = 0 ∨ match lim with | some n => idx < n | none => idx < b.len)
  | .sl s xs cap, v => ∃ ad c, v = .slice ad xs.length c ∧ (∀ c', cap = some c' → c = c') ∧ xs.length ≤ c ∧ Row (RelD A w s) A w xs ad
  | .dp s xs i inner, v => ∃ b off vs, v = .pointer (some ⟨b, off + (i * s.size + inner), none⟩) ∧ i < xs.length ∧ ¬ A b ∧ b < w.heap.size ∧ Lift (RelD A w s) xs vs ∧ CellsAt w b off vs
  | .slr s o off start len cap lim, v => ∃ b, φ o = some b ∧ ∃ ad c, v = .slice ad len c ∧ len ≤ c ∧ (match cap with | some c' => c = c' | none => c + start = b.cap) ∧
      (match lim with | some n => start + len ≤ n | none => start + len ≤ b.len) ∧ ((c = 0 ∧ len = 0) ∨ ad = some ⟨b.blk, b.base + off + start * s.size, none⟩)
  | .fnc f caps, v => ∃ vs, v = .func (.func f) #[] ⟨vs⟩ ∧ RelLs φ A w caps vs
  | .ifc t l, v => ∃ u, v = .iface t u ∧ RelL φ A w l u
  | .mp o, v => ∃ b, φ o = some b ∧ v = .map (some b.blk)
def RelLs (φ : Phi) (A : Nat → Prop) (w : World) : List Lf → List Value → Prop
  | [], vs => vs = []
  | l :: ls, vs => ∃ v vs', vs = v :: vs' ∧ RelL φ A w l v ∧ RelLs φ A w ls vs'
end

def RelS (φ : Phi) (A : Nat → Prop) (w : World) : Seg → List Value → Prop
  | .lf l, vs => ∃ v, vs = [v] ∧ RelL φ A w l v
  | .many s xs n, vs => xs.length = n ∧ Lift (RelD A w s) xs vs

def RelG (φ : Phi) (A : Nat → Prop) (w : World) (g : List Seg) (vs : List Value) : Prop := Lift (RelS φ A w) g vs

mutual
def RelV (φ : Phi) (A : Nat → Prop) (w : World) : PV → Value → Prop
  | .lf l, v => RelL φ A w l v
  | .agg g, v => ∃ vs, v = .agg ⟨vs⟩ ∧ RelG φ A w g vs
  | .tup ps, v => ∃ vs, v = .tuple ⟨vs⟩ ∧ RelVs φ A w ps vs
def RelVs (φ : Phi) (A : Nat → Prop) (w : World) : List PV → List Value → Prop
  | [], vs => vs = []
  | p :: ps, vs => ∃ v vs', vs = v :: vs' ∧ RelV φ A w p v ∧ RelVs φ A w ps vs'
end

/-! What keeps relations. -/
structure Ext (φ φ' : Phi) (A A' : Nat → Prop) (w w' : World) : Prop where
  phi : ∀ o b, φ o = some b → φ' o = some b
  size : w.heap.size ≤ w'.heap.size
  out : ∀ k, k < w.heap.size → ¬ A k → ¬ A' k
  mem : ∀ k, k < w.heap.size → ¬ A k → w'.heap[k]? = w.heap[k]?

theorem Ext.refl (φ : Phi) (A : Nat → Prop) (w : World) : Ext φ φ A A w w := ⟨fun _ _ h => h, Nat.le_refl _, fun _ _ h => h, fun _ _ _ => rfl⟩

theorem Ext.trans {φ φ' φ'' : Phi} {A A' A'' : Nat → Prop} {w w' w'' : World} (h : Ext φ φ' A A' w w') (h' : Ext φ' φ'' A' A'' w' w'') : Ext φ φ'' A A'' w w'' :=
  ⟨fun o b e => h'.phi o b (h.phi o b e), Nat.le_trans h.size h'.size, fun k hk hA => h'.out k (Nat.lt_of_lt_of_le hk h.size) (h.out k hk hA),
    fun k hk hA => (h'.mem k (Nat.lt_of_lt_of_le hk h.size) (h.out k hk hA)).trans (h.mem k hk hA)⟩

theorem cell_of_heap {w w' : World} {b : Nat} (h : w'.heap[b]? = w.heap[b]?) (o : Nat) (s : Option Nat) : w'.cell? ⟨b, o, s⟩ = w.cell? ⟨b, o, s⟩ := by
  unfold World.cell?; simp only [h]

theorem CellsAt.of_heap {w w' : World} {b off : Nat} {vs : List Value} (h : CellsAt w b off vs) (e : w'.heap[b]? = w.heap[b]?) : CellsAt w' b off vs :=
  fun j v hj => (cell_of_heap e _ _).trans (h j v hj)

theorem Lift.mono {α : Type} {R R' : α → List Value → Prop} (hR : ∀ x v, R x v → R' x v) : ∀ {xs : List α} {vs : List Value}, Lift R xs vs → Lift R' xs vs
  | [], _, h => h
  | _ :: _, _, ⟨v1, v2, e, h1, h2⟩ => ⟨v1, v2, e, hR _ _ h1, Lift.mono hR h2⟩

/-- As Ext, told by cells alone. -/
structure ExtC (φ φ' : Phi) (A A' : Nat → Prop) (w w' : World) : Prop where
  phi : ∀ o b, φ o = some b → φ' o = some b
  size : w.heap.size ≤ w'.heap.size
  out : ∀ k, k < w.heap.size → ¬ A k → ¬ A' k
  cell : ∀ k, k < w.heap.size → ¬ A k → ∀ o s, w'.cell? ⟨k, o, s⟩ = w.cell? ⟨k, o, s⟩
theorem Ext.toC {φ φ' : Phi} {A A' : Nat → Prop} {w w' : World} (x : Ext φ φ' A A' w w') : ExtC φ φ' A A' w w' := ⟨x.phi, x.size, x.out, fun k hk hA o s => cell_of_heap (x.mem k hk hA) o s⟩
theorem CellsAt.of_cell {w w' : World} {b off : Nat} {vs : List Value} (h : CellsAt w b off vs) (e : ∀ o s, w'.cell? ⟨b, o, s⟩ = w.cell? ⟨b, o, s⟩) : CellsAt w' b off vs :=
  fun j v hj => (e _ _).trans (h j v hj)

theorem Row.extC {α : Type} {R R' : α → List Value → Prop} {φ φ' : Phi} {A A' : Nat → Prop} {w w' : World} (x : ExtC φ φ' A A' w w') (hR : ∀ x v, R x v → R' x v)
    {xs : List α} {ad : Option Addr} (h : Row R A w xs ad) : Row R' A' w' xs ad := by
  rcases h with h | ⟨b, off, vs, e, hA, hb, hl, hc⟩
  · exact .inl h
  · exact .inr ⟨b, off, vs, e, x.out b hb hA, Nat.lt_of_lt_of_le hb x.size, Lift.mono hR hl, hc.of_cell (x.cell b hb hA)⟩

theorem RelD.extC {φ φ' : Phi} {A A' : Nat → Prop} {w w' : World} (x : ExtC φ φ' A A' w w') : ∀ (s : Shape) (d : den s) (vs : List Value), RelD A w s d vs → RelD A' w' s d vs
  | .int _, _, _, h => h
  | .bool, _, _, h => h
  | .str, _, _, h => h
  | .pair a b, d, _, ⟨v1, v2, e, h1, h2⟩ => ⟨v1, v2, e, RelD.extC x a d.1 v1 h1, RelD.extC x b d.2 v2 h2⟩
  | .slice a, _, _, ⟨ad, c, e, hl, h⟩ => ⟨ad, c, e, hl, h.extC x (fun y v hy => RelD.extC x a y v hy)⟩

mutual
theorem RelL.extC {φ φ' : Phi} {A A' : Nat → Prop} {w w' : World} (x : ExtC φ φ' A A' w w') : ∀ (l : Lf) (v : Value), RelL φ A w l v → RelL φ' A' w' l v
  | .any, _, h => h
  | .anyb, _, h => h
  | .sc _, _, h => h
  | .ptr .., _, h => by
    simp only [RelL] at h ⊢
    obtain ⟨b, hb, h⟩ := h
    exact ⟨b, x.phi _ _ hb, h⟩
  | .sl s xs cap, _, h => by
    simp only [RelL] at h ⊢
    obtain ⟨ad, c, e, hc, hl, hr⟩ := h
    exact ⟨ad, c, e, hc, hl, hr.extC x (fun y v hy => RelD.extC x s y v hy)⟩
  | .dp s _ _ _, _, h => by
    simp only [RelL] at h ⊢
    obtain ⟨b, off, vs, e, hi, hA, hb, hl, hc⟩ := h
    exact ⟨b, off, vs, e, hi, x.out b hb hA, Nat.lt_of_lt_of_le hb x.size, hl.mono (fun y v hy => RelD.extC x s y v hy), hc.of_cell (x.cell b hb hA)⟩
  | .slr .., _, h => by
    simp only [RelL] at h ⊢
    obtain ⟨b, hb, h⟩ := h
    exact ⟨b, x.phi _ _ hb, h⟩
  | .fnc f caps, _, h => by
    simp only [RelL] at h ⊢
    obtain ⟨vs, e, h⟩ := h
    exact ⟨vs, e, RelLs.extC x caps vs h⟩
  | .ifc t l, _, h => by
    simp only [RelL] at h ⊢
    obtain ⟨u, e, h⟩ := h
    exact ⟨u, e, RelL.extC x l u h⟩
  | .mp o, _, h => by
    simp only [RelL] at h ⊢
    obtain ⟨b, hb, h⟩ := h
    exact ⟨b, x.phi _ _ hb, h⟩
theorem RelLs.extC {φ φ' : Phi} {A A' : Nat → Prop} {w w' : World} (x : ExtC φ φ' A A' w w') : ∀ (l : List Lf) (v : List Value), RelLs φ A w l v → RelLs φ' A' w' l v
  | [], _, h => h
  | l :: ls, _, h => by
    simp only [RelLs] at h ⊢
    obtain ⟨v, vs, e, h1, h2⟩ := h
    exact ⟨v, vs, e, RelL.extC x l v h1, RelLs.extC x ls vs h2⟩
end

theorem RelS.extC {φ φ' : Phi} {A A' : Nat → Prop} {w w' : World} (x : ExtC φ φ' A A' w w') : ∀ (g : Seg) (v : List Value), RelS φ A w g v → RelS φ' A' w' g v
  | .lf _, _, ⟨v, e, h⟩ => ⟨v, e, h.extC x⟩
  | .many _ _ _, _, ⟨hn, h⟩ => ⟨hn, h.mono (fun y v hy => RelD.extC x _ y v hy)⟩

theorem RelG.extC {φ φ' : Phi} {A A' : Nat → Prop} {w w' : World} (x : ExtC φ φ' A A' w w') {g : List Seg} {v : List Value} (h : RelG φ A w g v) : RelG φ' A' w' g v :=
  Lift.mono (fun y v hy => RelS.extC x y v hy) h

mutual
theorem RelV.extC {φ φ' : Phi} {A A' : Nat → Prop} {w w' : World} (x : ExtC φ φ' A A' w w') : ∀ (p : PV) (v : Value), RelV φ A w p v → RelV φ' A' w' p v
  | .lf l, _, h => by
    simp only [RelV] at h ⊢
    exact h.extC x
  | .agg g, _, h => by
    simp only [RelV] at h ⊢
    obtain ⟨vs, e, h⟩ := h
    exact ⟨vs, e, h.extC x⟩
  | .tup ps, _, h => by
    simp only [RelV] at h ⊢
    obtain ⟨vs, e, h⟩ := h
    exact ⟨vs, e, RelVs.extC x ps vs h⟩
theorem RelVs.extC {φ φ' : Phi} {A A' : Nat → Prop} {w w' : World} (x : ExtC φ φ' A A' w w') : ∀ (l : List PV) (v : List Value), RelVs φ A w l v → RelVs φ' A' w' l v
  | [], _, h => h
  | l :: ls, _, h => by
    simp only [RelVs] at h ⊢
    obtain ⟨v, vs, e, h1, h2⟩ := h
    exact ⟨v, vs, e, RelV.extC x l v h1, RelVs.extC x ls vs h2⟩
end


theorem Row.ext {α : Type} {R R' : α → List Value → Prop} {φ φ' : Phi} {A A' : Nat → Prop} {w w' : World} (x : Ext φ φ' A A' w w') (hR : ∀ x v, R x v → R' x v)
    {xs : List α} {ad : Option Addr} (h : Row R A w xs ad) : Row R' A' w' xs ad := h.extC x.toC hR
theorem RelD.ext {φ φ' : Phi} {A A' : Nat → Prop} {w w' : World} (x : Ext φ φ' A A' w w') : ∀ (s : Shape) (d : den s) (vs : List Value), RelD A w s d vs → RelD A' w' s d vs := RelD.extC x.toC
theorem RelL.ext {φ φ' : Phi} {A A' : Nat → Prop} {w w' : World} (x : Ext φ φ' A A' w w') : ∀ (l : Lf) (v : Value), RelL φ A w l v → RelL φ' A' w' l v := RelL.extC x.toC
theorem RelLs.ext {φ φ' : Phi} {A A' : Nat → Prop} {w w' : World} (x : Ext φ φ' A A' w w') : ∀ (l : List Lf) (v : List Value), RelLs φ A w l v → RelLs φ' A' w' l v := RelLs.extC x.toC
theorem RelS.ext {φ φ' : Phi} {A A' : Nat → Prop} {w w' : World} (x : Ext φ φ' A A' w w') : ∀ (g : Seg) (v : List Value), RelS φ A w g v → RelS φ' A' w' g v := RelS.extC x.toC
theorem RelG.ext {φ φ' : Phi} {A A' : Nat → Prop} {w w' : World} (x : Ext φ φ' A A' w w') {g : List Seg} {v : List Value} (h : RelG φ A w g v) : RelG φ' A' w' g v := h.extC x.toC
theorem RelV.ext {φ φ' : Phi} {A A' : Nat → Prop} {w w' : World} (x : Ext φ φ' A A' w w') : ∀ (p : PV) (v : Value), RelV φ A w p v → RelV φ' A' w' p v := RelV.extC x.toC
theorem RelVs.ext {φ φ' : Phi} {A A' : Nat → Prop} {w w' : World} (x : Ext φ φ' A A' w w') : ∀ (l : List PV) (v : List Value), RelVs φ A w l v → RelVs φ' A' w' l v := RelVs.extC x.toC

theorem RelD.length (A : Nat → Prop) (w : World) : ∀ (s : Shape) (d : den s) (vs : List Value), RelD A w s d vs → vs.length = s.size
  | .int _, _, _, h => by rw [show _ = _ from h]; rfl
  | .bool, _, _, h => by rw [show _ = _ from h]; rfl
  | .str, _, _, h => by rw [show _ = _ from h]; rfl
  | .pair a b, d, _, ⟨v1, v2, e, h1, h2⟩ => by
    rw [e, List.length_append, RelD.length A w a d.1 v1 h1, RelD.length A w b d.2 v2 h2]; rfl
  | .slice a, d, _, ⟨ad, c, e, h⟩ => by rw [e]; rfl

theorem Lift.length {α : Type} {R : α → List Value → Prop} {n : Nat} (hR : ∀ x v, R x v → v.length = n) : ∀ {xs : List α} {vs : List Value}, Lift R xs vs → vs.length = xs.length * n
  | [], _, h => by rw [show _ = _ from h]; simp
  | _ :: _, _, ⟨v1, v2, e, h1, h2⟩ => by
    rw [e, List.length_append, hR _ _ h1, Lift.length hR h2, List.length_cons, Nat.succ_mul, Nat.add_comm]

theorem Lift.append {α : Type} {R : α → List Value → Prop} : ∀ {xs ys : List α} {vs ws : List Value}, Lift R xs vs → Lift R ys ws → Lift R (xs ++ ys) (vs ++ ws)
  | [], _, _, _, h, h' => by rw [show _ = _ from h]; exact h'
  | _ :: _, _, _, ws, ⟨v1, v2, e, h1, h2⟩, h' => ⟨v1, v2 ++ ws, by rw [e, List.append_assoc], h1, Lift.append h2 h'⟩

theorem Lift.split {α : Type} {R : α → List Value → Prop} : ∀ {xs ys : List α} {vs : List Value}, Lift R (xs ++ ys) vs → ∃ v1 v2, vs = v1 ++ v2 ∧ Lift R xs v1 ∧ Lift R ys v2
  | [], _, vs, h => ⟨[], vs, rfl, rfl, h⟩
  | x :: xs, ys, _, ⟨v1, v2, e, h1, h2⟩ => by
    obtain ⟨u1, u2, e', h3, h4⟩ := Lift.split h2
    exact ⟨v1 ++ u1, u2, by rw [e, e', List.append_assoc], ⟨v1, u1, rfl, h1, h3⟩, h4⟩

end Go.Ev
