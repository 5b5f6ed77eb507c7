/- Part of a proof about the given program: EvT. -/
import Derived.Test.YtbgbplacpjcmfaaEvS2
namespace Go.Ev
variable {Rt : Type}

def Chain (P : Program) (O : Orc Rt) (n : Nat) (ops : Array Oper) : List Oper → St → List St → St → Prop
  | [], s, S, e => S = [s] ∧ e = s
  | o :: l, s, S, e => ∃ s' S', S = s :: S' ∧ OpTo P O n ops o s s' ∧ Chain P O n ops l s' S' e

theorem evLog_sound {P : Program} {O : Orc Rt} (hO : OrcOk P O) {n : Nat} {ops : Array Oper} {r : Rt} : ∀ {l : List Oper} {s : St} {K : List St → St → Option Rt}, evLog P O n ops l s K = some r → ∃ S e, K S e = some r ∧ Chain P O n ops l s S e
  | [], s, K, h => ⟨[s], s, h, rfl, rfl⟩
  | o :: l, s, K, h => by
    unfold evLog at h
    obtain ⟨s', h1, h2⟩ := evG_sound hO h
    obtain ⟨S, e, h3, h4⟩ := evLog_sound hO h2
    exact ⟨s :: S, e, h3, s', S, rfl, h1, h4⟩

theorem Chain.head {P : Program} {O : Orc Rt} {n : Nat} {ops : Array Oper} : ∀ {l : List Oper} {s : St} {S : List St} {e d : St}, Chain P O n ops l s S e → S.getD 0 d = s
  | [], _, _, _, _, ⟨h, _⟩ => by rw [h]; rfl
  | _ :: _, _, _, _, _, ⟨_, _, h, _⟩ => by rw [h]; rfl

theorem Chain.step {P : Program} {O : Orc Rt} {n : Nat} {ops : Array Oper} : ∀ {l : List Oper} {s : St} {S : List St} {e d : St}, Chain P O n ops l s S e → ∀ (i : Nat) (o : Oper), l[i]? = some o → OpTo P O n ops o (S.getD i d) (S.getD (i + 1) d)
  | [], _, _, _, _, _, i, o, h => by simp at h
  | o' :: l, s, _, e, d, ⟨s', S', h, h1, h2⟩, i, o, hi => by
    subst h
    cases i with
    | zero =>
      simp only [List.getElem?_cons_zero, Option.some.injEq] at hi
      subst hi
      have := h2.head (d := d)
      simp only [List.getD_cons_zero, List.getD_cons_succ]
      rw [this]; exact h1
    | succ i =>
      rw [List.getElem?_cons_succ] at hi
      simpa using h2.step i o hi

theorem Chain.last {P : Program} {O : Orc Rt} {n : Nat} {ops : Array Oper} : ∀ {l : List Oper} {s : St} {S : List St} {e d : St}, Chain P O n ops l s S e → S.getD l.length d = e
  | [], _, _, _, _, ⟨h, h'⟩ => by rw [h, h']; rfl
  | _ :: _, _, _, _, _, ⟨_, _, h, _, h2⟩ => by rw [h]; simpa using h2.last

/-! ### masks -/
theorem masks_get : ∀ (l : List Oper) (acc : List Nat), (masks l acc).length = acc.length + l.length ∧ (∀ i, i < acc.length → (masks l acc).getD i 0 = acc.getD i 0) ∧
    ∀ i o, l[i]? = some o → (masks l acc).getD (acc.length + i) 0 = msk ((masks l acc).take (acc.length + i)) o.after.toList
  | [], acc => ⟨by simp [masks], fun _ _ => rfl, fun i o h => by simp at h⟩
  | o' :: l, acc => by
    obtain ⟨h1, h2, h3⟩ := masks_get l (acc ++ [msk acc o'.after.toList])
    simp only [masks]
    simp only [List.length_append, List.length_cons, List.length_nil] at h1 h2 h3
    have hlow : ∀ i, i < acc.length → (masks l (acc ++ [msk acc o'.after.toList])).getD i 0 = acc.getD i 0 := fun i hi => by
      rw [h2 i (by omega)]
      simp only [List.getD_eq_getElem?_getD, List.getElem?_append_left hi]
    refine ⟨by simp only [List.length_cons]; omega, hlow, fun i o hi => ?_⟩
    cases i with
    | zero =>
      simp only [List.getElem?_cons_zero, Option.some.injEq] at hi
      subst hi
      rw [Nat.add_zero, h2 acc.length (by omega)]
      have htake : (masks l (acc ++ [msk acc o'.after.toList])).take acc.length = acc := by
        apply List.ext_getElem?
        intro j
        rw [List.getElem?_take]
        by_cases hj : j < acc.length
        · rw [if_pos hj]
          have := hlow j hj
          simp only [List.getD_eq_getElem?_getD] at this
          rw [List.getElem?_eq_getElem (by omega), List.getElem?_eq_getElem hj] at this ⊢
          simpa using this
        · rw [if_neg hj, List.getElem?_eq_none (by omega)]
      rw [htake]
      simp [List.getD_eq_getElem?_getD]
    | succ i =>
      rw [List.getElem?_cons_succ] at hi
      have := h3 i o hi
      rw [show acc.length + (i + 1) = acc.length + 1 + i by omega]
      exact this

theorem msk_test {acc : List Nat} {j : Nat} : ∀ {es : List Edge}, (msk acc es).testBit j = true → ∃ e ∈ es, Region.binds .any e = true ∧ (j = e.on ∨ (acc.getD e.on 0).testBit j = true)
  | [], h => by simp [msk] at h
  | e :: es, h => by
    unfold msk at h
    cases hb : Region.binds .any e with
    | false =>
      rw [hb] at h
      obtain ⟨e', h1, h2⟩ := msk_test h
      exact ⟨e', List.mem_cons_of_mem _ h1, h2⟩
    | true =>
      rw [hb] at h
      simp only [cond, Nat.testBit_or, Bool.or_eq_true] at h
      rcases h with h | h | h
      · obtain ⟨e', h1, h2⟩ := msk_test h
        exact ⟨e', List.mem_cons_of_mem _ h1, h2⟩
      · rw [Nat.testBit_two_pow] at h
        exact ⟨e, List.mem_cons_self .., hb, .inl (by simpa using h : e.on = j).symm⟩
      · exact ⟨e, List.mem_cons_self .., hb, .inr h⟩

/-- Whoever is listed, all that it waits for is listed. -/
def Closed (ops : Array Oper) (L : Nat → Bool) : Prop := ∀ i o, ops[i]? = some o → L i = true → ∀ e ∈ o.after, Region.binds .any e = true → L e.on = true

def Down (ops : Array Oper) : Prop := ∀ i o, ops[i]? = some o → ∀ e ∈ o.after, Region.binds .any e = true → e.on < i

theorem edgesOk_spec {ops : Array Oper} : ∀ {k : Nat}, edgesOk ops k = true → ∀ i o, i < k → ops[i]? = some o → ∀ e ∈ o.after, Region.binds .any e = true → e.on < i
  | 0, _, i, _, hi, _, _, _, _ => by omega
  | k + 1, h, i, o, hi, ho, e, he, hb => by
    simp only [edgesOk, Bool.and_eq_true] at h
    by_cases hik : i < k
    · exact edgesOk_spec h.1 i o hik ho e he hb
    · have : i = k := by omega
      subst this
      have h2 := h.2
      rw [ho] at h2
      simp only [List.all_eq_true] at h2
      have := h2 e (by simpa using he)
      rw [hb] at this
      simpa using this

theorem mask_closed {ops : Array Oper} (hD : Down ops) {L : Nat → Bool} (hC : Closed ops L) : ∀ (i : Nat) (o : Oper), ops[i]? = some o → (∀ e ∈ o.after, Region.binds .any e = true → L e.on = true) → ∀ j, ((masks ops.toList []).getD i 0).testBit j = true → L j = true ∧ j < i := by
  intro i
  induction i using Nat.strongRecOn with
  | _ i ih =>
    intro o hi ho j hj
    have h3 := (masks_get ops.toList []).2.2 i o (by simpa using hi)
    simp only [List.length_nil, Nat.zero_add] at h3
    rw [h3] at hj
    obtain ⟨e, he, hb, h⟩ := msk_test hj
    have hmem : e ∈ o.after := by simpa using he
    have hLe := ho e hmem hb
    have hlt := hD i o hi e hmem hb
    rcases h with h | h
    · subst h; exact ⟨hLe, hlt⟩
    · have hN : i < ops.size := (Array.getElem?_eq_some_iff.1 hi).1
      have hg : ((masks ops.toList []).take i).getD e.on 0 = (masks ops.toList []).getD e.on 0 := by
        simp only [List.getD_eq_getElem?_getD, List.getElem?_take, if_pos hlt]
      rw [hg] at h
      have hoe : ops[e.on]? = some ops[e.on] := Array.getElem?_eq_getElem (by omega)
      obtain ⟨h1, h2⟩ := ih e.on hlt _ hoe (fun e' he' hb' => hC e.on _ hoe hLe e' he' hb') j h
      exact ⟨h1, by omega⟩

theorem pairsOk_spec {P : Program} {ops : Array Oper} {ms : List Nat} {i0 : Nat} : ∀ {k : Nat}, pairsOk P ops ms i0 k = true → ∀ i j oi oj, i < k → j < i → ops[i]? = some oi → ops[j]? = some oj → (ms.getD i 0).testBit j = true ∨ (Oper.apart ops oj oi = true ∧ ((isW P oj && isW P oi) = false ∨ i = i0))
  | 0, _, i, _, _, _, hi, _, _, _ => by omega
  | k + 1, h, i, j, oi, oj, hi, hj, hoi, hoj => by
    simp only [pairsOk, Bool.and_eq_true] at h
    by_cases hik : i < k
    · exact pairsOk_spec h.1 i j oi oj hik hj hoi hoj
    · have : i = k := by omega
      subst this
      have h2 := h.2
      rw [hoi] at h2
      simp only [List.all_eq_true] at h2
      have := h2 j (List.mem_range.2 hj)
      rw [hoj] at this
      simp only [Bool.or_eq_true, Bool.and_eq_true, Bool.not_eq_true'] at this
      exact this.imp id (fun h => ⟨h.1, h.2.imp id Nat.eq_of_beq_eq_true⟩)

/-! ### the frame when some operations have been carried out -/
def putT (d : Option Tmp) (v : PV) (tm : Nat → PV) : Nat → PV := match d with | none => tm | some t => fun i => cond (Nat.beq i t) v (tm i)

theorem putT_ne {d : Option Tmp} {v : PV} {tm : Nat → PV} {t : Nat} (h : d ≠ some t) : putT d v tm t = tm t := by
  cases d with
  | none => rfl
  | some t' =>
    simp only [putT]
    rw [show Nat.beq t t' = false from by rw [Bool.eq_false_iff]; intro e; exact h (by rw [Nat.eq_of_beq_eq_true e])]; rfl
theorem putT_eq {v : PV} {tm : Nat → PV} {t : Nat} : putT (some t) v tm t = v := by
  simp only [putT]; rw [show Nat.beq t t = true from Nat.beq_refl t]; rfl

section
variable (ops : Array Oper) (S : Nat → St) (P : Program)

def valAt (i : Nat) : PV := match ops[i]? with
  | some o => match o.dst with
    | some t => (S (i + 1)).tm t
    | none => anyV
  | none => anyV
def dstAt (i : Nat) : Option Tmp := (ops[i]?).bind (·.dst)

def tmD (L : Nat → Bool) : Nat → Nat → PV
  | 0 => (S 0).tm
  | i + 1 => if L i = true then putT (dstAt ops i) (valAt ops S i) (tmD L i) else tmD L i

/-- The first write that hasn't been carried out. -/
def pFrom (L : Nat → Bool) : Nat → Nat → Nat
  | 0, k => k
  | f + 1, k => if wrAt ops P k = true ∧ L k = false then k else pFrom L f (k + 1)
end

theorem pFrom_spec {ops : Array Oper} {P : Program} {L : Nat → Bool} : ∀ (f k : Nat), k ≤ pFrom ops P L f k ∧ pFrom ops P L f k ≤ k + f ∧ (∀ j, k ≤ j → j < pFrom ops P L f k → wrAt ops P j = true → L j = true) ∧ (pFrom ops P L f k < k + f → wrAt ops P (pFrom ops P L f k) = true ∧ L (pFrom ops P L f k) = false)
  | 0, k => ⟨Nat.le_refl _, Nat.le_refl _, fun j h1 h2 => by simp only [pFrom] at h2; omega, fun h => by simp only [pFrom] at h; omega⟩
  | f + 1, k => by
    simp only [pFrom]
    split
    · rename_i h
      exact ⟨Nat.le_refl _, by omega, fun j h1 h2 => by omega, fun _ => h⟩
    · rename_i h
      obtain ⟨h1, h2, h3, h4⟩ := pFrom_spec (ops := ops) (P := P) (L := L) f (k + 1)
      refine ⟨by omega, by omega, fun j hj1 hj2 hw => ?_, fun hlt => h4 (by omega)⟩
      by_cases hjk : j = k
      · subst hjk
        cases hL : L j with
        | true => rfl
        | false => exact absurd ⟨hw, hL⟩ h
      · exact h3 j (by omega) hj2 hw

def addL (L : Nat → Bool) (i : Nat) : Nat → Bool := fun k => cond (Nat.beq k i) true (L k)
theorem addL_same (L : Nat → Bool) (i : Nat) : addL L i i = true := by unfold addL; rw [show Nat.beq i i = true from Nat.beq_refl i]; rfl
theorem addL_ne (L : Nat → Bool) {i j : Nat} (h : j ≠ i) : addL L i j = L j := by
  unfold addL; rw [show Nat.beq j i = false from by rw [Bool.eq_false_iff]; intro e; exact h (Nat.eq_of_beq_eq_true e)]; rfl

/-- All that the exchange rests on. -/
structure Facts (P : Program) (O : Orc Rt) (n : Nat) (ops : Array Oper) (i0 : Nat) (S : Nat → St) : Prop where
  down : Down ops
  pairs : ∀ (i j : Nat) (oi oj : Oper), j < i → ops[i]? = some oi → ops[j]? = some oj → ((masks ops.toList []).getD i 0).testBit j = true ∨ (Oper.apart ops oj oi = true ∧ ((isW P oj && isW P oi) = false ∨ i = i0))
  step : ∀ (i : Nat) (o : Oper), ops[i]? = some o → OpTo P O n ops o (S i) (S (i + 1))
  rw : ∀ (i j : Nat) (oi oj : Oper), ops[i]? = some oi → ops[j]? = some oj → isR P oi = true → isW P oj = true → ((masks ops.toList []).getD i 0).testBit j = false → ((masks ops.toList []).getD j 0).testBit i = false → readOp P oi (S i).val (S j).ob = readOp P oi (S i).val (S (j + 1)).ob ∨ RwOk P O oi oj (S i) (S j) (S (j + 1))

/-- All writes before the variable have been carried out. -/
def Due (P : Program) (ops : Array Oper) (i0 : Nat) (L : Nat → Bool) : Prop := ∀ j, j < i0 → wrAt ops P j = true → L j = true
/-- The variable was made in its turn, or hasn't been made. -/
def Turn (P : Program) (ops : Array Oper) (i0 : Nat) (L : Nat → Bool) : Prop := L i0 = true → Due P ops i0 L

def SD (P : Program) (ops : Array Oper) (S : Nat → St) (L : Nat → Bool) : St := ⟨tmD ops S L ops.size, (S (pFrom ops P L ops.size 0)).ob, (S (pFrom ops P L ops.size 0)).nx⟩

section
variable {P : Program} {O : Orc Rt} {n : Nat} {ops : Array Oper} {i0 : Nat} {S : Nat → St} (F : Facts P O n ops i0 S)
include F

theorem Facts.tm_step {i : Nat} {o : Oper} (hi : ops[i]? = some o) : (S (i + 1)).tm = putT (dstAt ops i) (valAt ops S i) (S i).tm := by
  obtain ⟨_, _, v, f, nx, h, _⟩ := F.step i o hi
  unfold dstAt valAt
  rw [hi, h]
  simp only [Option.bind_some, St.after, St.put]
  cases hd : o.dst with
  | none => rfl
  | some t =>
    simp only [putT]
    rw [show Nat.beq t t = true from Nat.beq_refl t]
    rfl

theorem Facts.ob_step {i : Nat} {o : Oper} (hi : ops[i]? = some o) (hw : isW P o = false) : (S (i + 1)).ob = (S i).ob ∧ (S (i + 1)).nx = (S i).nx := by
  obtain ⟨_, _, v, f, nx, h, h2⟩ := F.step i o hi
  rw [h]
  rcases h2 with ⟨_, h2, _⟩ | ⟨_, _, rfl, rfl⟩
  · unfold OpDid at h2
    unfold isW at hw
    split at h2
    · exact ⟨h2.1, h2.2.1⟩
    · exact ⟨h2.1, h2.2.1⟩
    · rename_i hk; rw [hk] at hw; cases hw
  · exact ⟨rfl, rfl⟩

theorem Facts.ob_same {a b : Nat} (hab : a ≤ b) (hb : b ≤ ops.size) (h : ∀ j, a ≤ j → j < b → wrAt ops P j = false) : (S b).ob = (S a).ob ∧ (S b).nx = (S a).nx := by
  induction b with
  | zero => rw [show a = 0 by omega]; exact ⟨rfl, rfl⟩
  | succ b ih =>
    by_cases hab' : a = b + 1
    · rw [hab']; exact ⟨rfl, rfl⟩
    · obtain ⟨h1, h2⟩ := ih (by omega) (by omega) (fun j h1 h2 => h j h1 (by omega))
      have hi : ops[b]? = some ops[b] := Array.getElem?_eq_getElem (by omega)
      have hw := h b (by omega) (by omega)
      unfold wrAt at hw
      rw [hi] at hw
      obtain ⟨h3, h4⟩ := F.ob_step hi hw
      exact ⟨h3.trans h1, h4.trans h2⟩

/-- An operation that comes up now sees what it saw in the text's order. -/
theorem Facts.sees {L : Nat → Bool} (hC : Closed ops L) {i : Nat} {o : Oper} (hi : ops[i]? = some o) (hL : L i = false) (hr : ∀ e ∈ o.after, Region.binds .any e = true → L e.on = true) {t : Nat} (ht : t ∈ o.looksAt ops ∨ o.dst = some t) :
    ∀ k, k ≤ ops.size → tmD ops S L k t = (S (min k i)).tm t := by
  have hlt : i < ops.size := (Array.getElem?_eq_some_iff.1 hi).1
  intro k
  induction k with
  | zero => intro _; simp [tmD]
  | succ k ih =>
    intro hk
    have ihk := ih (by omega)
    have hok : ops[k]? = some ops[k] := Array.getElem?_eq_getElem (by omega)
    -- who writes t is ordered against i
    have key : dstAt ops k = some t → k ≠ i → (k < i → L k = true) ∧ (i < k → L k = false) := fun hd hne => by
      have hdk : ops[k].dst = some t := by unfold dstAt at hd; rw [hok] at hd; exact hd
      refine ⟨fun h => ?_, fun h => ?_⟩
      · rcases F.pairs i k o _ h hi hok with hm | ⟨hap, _⟩
        · exact (mask_closed F.down hC i o hi hr k hm).1
        · obtain ⟨h1, h2, h3⟩ := Oper.apart_spec hap
          rcases ht with ht | ht
          · exact absurd ht (h1 t hdk)
          · exact absurd ht (h2 t hdk)
      · rcases F.pairs k i _ o h hok hi with hm | ⟨hap, _⟩
        · cases hLk : L k with
          | false => rfl
          | true =>
            have := (mask_closed F.down hC k _ hok (fun e he hb => hC k _ hok hLk e he hb) i hm).1
            rw [hL] at this; cases this
        · obtain ⟨h1, h2, h3⟩ := Oper.apart_spec hap
          rcases ht with ht | ht
          · exact absurd ht (h3 t hdk)
          · exact absurd hdk (h2 t ht)
    simp only [tmD]
    by_cases hd : dstAt ops k = some t
    · by_cases hki : k = i
      · subst hki
        rw [if_neg (by rw [hL]; simp), ihk, show min (k + 1) k = k by omega, show min k k = k by omega]
      · obtain ⟨h1, h2⟩ := key hd hki
        rcases Nat.lt_or_ge k i with h | h
        · rw [if_pos (h1 h), show min (k + 1) i = k + 1 by omega, F.tm_step hok, hd, putT_eq, putT_eq]
        · rw [if_neg (by rw [h2 (by omega)]; simp), ihk, show min (k + 1) i = min k i by omega]
    · have hsame : (if L k = true then putT (dstAt ops k) (valAt ops S k) (tmD ops S L k) else tmD ops S L k) t = tmD ops S L k t := by
        split
        · exact putT_ne hd
        · rfl
      rw [hsame, ihk]
      rcases Nat.lt_or_ge k i with h | h
      · rw [show min (k + 1) i = k + 1 by omega, show min k i = k by omega, F.tm_step hok, putT_ne hd]
      · rw [show min (k + 1) i = min k i by omega]

theorem Facts.put {L : Nat → Bool} (hC : Closed ops L) {i : Nat} {o : Oper} (hi : ops[i]? = some o) (hL : L i = false) :
    tmD ops S (addL L i) ops.size = putT (dstAt ops i) (valAt ops S i) (tmD ops S L ops.size) := by
  have hlt : i < ops.size := (Array.getElem?_eq_some_iff.1 hi).1
  have low : ∀ k, k ≤ i → tmD ops S (addL L i) k = tmD ops S L k := by
    intro k
    induction k with
    | zero => intro _; rfl
    | succ k ih =>
      intro hk
      simp only [tmD]
      rw [ih (by omega), addL_ne L (show k ≠ i by omega)]
  have high : ∀ k, i < k → k ≤ ops.size → tmD ops S (addL L i) k = putT (dstAt ops i) (valAt ops S i) (tmD ops S L k) := by
    intro k
    induction k with
    | zero => intro h; omega
    | succ k ih =>
      intro hk hks
      by_cases hki : k = i
      · subst hki
        simp only [tmD]
        rw [low k (Nat.le_refl _), addL_same, if_pos rfl, if_neg (by rw [hL]; simp)]
      · have hok : ops[k]? = some ops[k] := Array.getElem?_eq_getElem (by omega)
        simp only [tmD]
        rw [ih (by omega) (by omega), addL_ne L hki]
        by_cases hLk : L k = true
        · rw [if_pos hLk, if_pos hLk]
          -- they write different temporaries
          rcases F.pairs k i _ o (by omega) hok hi with hm | ⟨hap, _⟩
          · have := (mask_closed F.down hC k _ hok (fun e he hb => hC k _ hok hLk e he hb) i hm).1
            rw [hL] at this; cases this
          · obtain ⟨_, h2, _⟩ := Oper.apart_spec hap
            funext t
            by_cases h1 : dstAt ops k = some t
            · have hne : dstAt ops i ≠ some t := fun e => by
                unfold dstAt at h1 e
                rw [hok] at h1; rw [hi] at e
                exact h2 t e h1
              rw [h1, putT_eq, putT_ne hne, putT_eq]
            · rw [putT_ne h1]
              by_cases h3 : dstAt ops i = some t
              · rw [h3, putT_eq, putT_eq]
              · rw [putT_ne h3, putT_ne h3, putT_ne h1]
        · rw [if_neg hLk, if_neg hLk]
  exact high ops.size hlt (Nat.le_refl _)

/-- Writes come up in the text's order. -/
theorem Facts.writes {L : Nat → Bool} (hC : Closed ops L) (hN : Turn P ops i0 L) {i j : Nat} {oi oj : Oper} (hi : ops[i]? = some oi) (hj : ops[j]? = some oj) (hw : isW P oi = true) (hw' : isW P oj = true) (hji : j < i) :
    (L i = true → L j = true) ∧ ((i = i0 → Due P ops i0 L) → (∀ e ∈ oi.after, Region.binds .any e = true → L e.on = true) → L j = true) := by
  have hwj : wrAt ops P j = true := by unfold wrAt; rw [hj]; exact hw'
  rcases F.pairs i j oi oj hji hi hj with hm | ⟨_, h | h⟩
  · exact ⟨fun hL => (mask_closed F.down hC i oi hi (fun e he hb => hC i oi hi hL e he hb) j hm).1, fun _ hr => (mask_closed F.down hC i oi hi hr j hm).1⟩
  · rw [hw, hw'] at h; cases h
  · subst h
    exact ⟨fun hL => hN hL j hji hwj, fun hA _ => hA rfl j hji hwj⟩

omit F in
theorem wrAt_some {i : Nat} (h : wrAt ops P i = true) : ∃ o, ops[i]? = some o ∧ isW P o = true := by
  unfold wrAt at h
  split at h
  · rename_i o ho; exact ⟨o, ho, h⟩
  · cases h

theorem Facts.at_write {L : Nat → Bool} (hC : Closed ops L) (hN : Turn P ops i0 L) {i : Nat} {o : Oper} (hi : ops[i]? = some o) (hL : L i = false) (hr : ∀ e ∈ o.after, Region.binds .any e = true → L e.on = true) (hw : isW P o = true) (hA : i = i0 → Due P ops i0 L) :
    pFrom ops P L ops.size 0 = i := by
  have hlt : i < ops.size := (Array.getElem?_eq_some_iff.1 hi).1
  obtain ⟨h1, h2, h3, h4⟩ := pFrom_spec (ops := ops) (P := P) (L := L) ops.size 0
  have hwi : wrAt ops P i = true := by unfold wrAt; rw [hi]; exact hw
  rcases Nat.lt_trichotomy (pFrom ops P L ops.size 0) i with h | h | h
  · obtain ⟨h5, h6⟩ := h4 (by omega)
    obtain ⟨o2, ho2, hw2⟩ := wrAt_some h5
    have := (F.writes hC hN hi ho2 hw hw2 h).2 hA hr
    rw [h6] at this; cases this
  · exact h
  · have := h3 i (by omega) h hwi
    rw [hL] at this; cases this

theorem Facts.after_write {L : Nat → Bool} (hC : Closed ops L) (hN : Turn P ops i0 L) {i : Nat} {o : Oper} (hi : ops[i]? = some o) (hL : L i = false) (hr : ∀ e ∈ o.after, Region.binds .any e = true → L e.on = true) (hw : isW P o = true) (hA : i = i0 → Due P ops i0 L) :
    (S (pFrom ops P (addL L i) ops.size 0)).ob = (S (i + 1)).ob ∧ (S (pFrom ops P (addL L i) ops.size 0)).nx = (S (i + 1)).nx := by
  have hlt : i < ops.size := (Array.getElem?_eq_some_iff.1 hi).1
  have hp := F.at_write hC hN hi hL hr hw hA
  obtain ⟨a1, a2, a3, a4⟩ := pFrom_spec (ops := ops) (P := P) (L := L) ops.size 0
  obtain ⟨h1, h2, h3, h4⟩ := pFrom_spec (ops := ops) (P := P) (L := addL L i) ops.size 0
  generalize hq : pFrom ops P (addL L i) ops.size 0 = q at h1 h2 h3 h4 ⊢
  have hqi : i < q := by
    rcases Nat.lt_or_ge i q with h | h
    · exact h
    · obtain ⟨h5, h6⟩ := h4 (by omega)
      by_cases e : q = i
      · rw [e, addL_same] at h6; cases h6
      · rw [addL_ne L e] at h6
        have := a3 q (by omega) (by omega) h5
        rw [h6] at this; cases this
  refine F.ob_same (by omega) (by omega) (fun j hj1 hj2 => ?_)
  cases hwj : wrAt ops P j with
  | false => rfl
  | true =>
    have := h3 j (by omega) hj2 hwj
    rw [addL_ne L (show j ≠ i by omega)] at this
    obtain ⟨o2, ho2, hw2⟩ := wrAt_some hwj
    have := (F.writes hC hN ho2 hi hw2 hw (by omega)).1 this
    rw [hL] at this; cases this

omit F in
theorem no_write {L : Nat → Bool} {i : Nat} {o : Oper} (hi : ops[i]? = some o) (hw : isW P o = false) :
    pFrom ops P (addL L i) ops.size 0 = pFrom ops P L ops.size 0 := by
  have : ∀ f k, pFrom ops P (addL L i) f k = pFrom ops P L f k := by
    intro f
    induction f with
    | zero => intro k; rfl
    | succ f ih =>
      intro k
      simp only [pFrom]
      by_cases hki : k = i
      · subst hki
        have hwk : wrAt ops P k = false := by unfold wrAt; rw [hi]; exact hw
        rw [if_neg (by rw [hwk]; simp), if_neg (by rw [hwk]; simp)]
        exact ih _
      · rw [addL_ne L hki, ih]
  exact this _ _

/-- What a read that comes up now sees. -/
theorem Facts.reads {L : Nat → Bool} (hC : Closed ops L) (hN : Turn P ops i0 L) {i : Nat} {o : Oper} (hi : ops[i]? = some o) (hL : L i = false) (hr : ∀ e ∈ o.after, Region.binds .any e = true → L e.on = true) (hR : isR P o = true) :
    readOp P o (S i).val (S (pFrom ops P L ops.size 0)).ob = readOp P o (S i).val (S i).ob := by
  have hlt : i < ops.size := (Array.getElem?_eq_some_iff.1 hi).1
  obtain ⟨h1, h2, h3, h4⟩ := pFrom_spec (ops := ops) (P := P) (L := L) ops.size 0
  generalize pFrom ops P L ops.size 0 = p at h1 h2 h3 h4 ⊢
  -- across a write that isn't ordered
  have across : ∀ j, j < ops.size → (wrAt ops P j = true → ((masks ops.toList []).getD i 0).testBit j = false ∧ ((masks ops.toList []).getD j 0).testBit i = false) → readOp P o (S i).val (S j).ob = readOp P o (S i).val (S (j + 1)).ob := fun j hj hun => by
    have hoj : ops[j]? = some ops[j] := Array.getElem?_eq_getElem hj
    cases hw : wrAt ops P j with
    | false =>
      unfold wrAt at hw
      rw [hoj] at hw
      rw [(F.ob_step hoj hw).1]
    | true =>
      obtain ⟨h5, h6⟩ := hun hw
      have hw2 : isW P ops[j] = true := by unfold wrAt at hw; rw [hoj] at hw; exact hw
      rcases F.rw i j o _ hi hoj hR hw2 h5 h6 with h | h
      · exact h
      · rcases h with h | h
        · unfold rwFar at h
          simp only [List.all_eq_true, Bool.and_eq_true, Bool.not_eq_true'] at h
          obtain ⟨_, _, v, f, nx, hst, h7⟩ := F.step j _ hoj
          refine (readOp_congr fun x hx => ?_).symm
          obtain ⟨h8, h9⟩ := h x hx
          rw [hst]
          rcases h7 with ⟨_, _, hag⟩ | ⟨_, _, rfl, _⟩
          · exact hag x (Nat.le_of_ble_eq_true h8) (fun hm => by rw [elemB_mem.2 hm] at h9; cases h9)
          · rfl
        · exact h
  have chain : ∀ a b, a ≤ b → b ≤ ops.size → (∀ j, a ≤ j → j < b → wrAt ops P j = true → ((masks ops.toList []).getD i 0).testBit j = false ∧ ((masks ops.toList []).getD j 0).testBit i = false) → readOp P o (S i).val (S a).ob = readOp P o (S i).val (S b).ob := by
    intro a b
    induction b with
    | zero => intro hab _ _; rw [show a = 0 by omega]
    | succ b ih =>
      intro hab hb h
      by_cases e : a = b + 1
      · rw [e]
      · exact (ih (by omega) (by omega) (fun j h1 h2 => h j h1 (by omega))).trans (across b (by omega) (h b (by omega) (by omega)))
  have hbit : ∀ a b, a ≤ b → b < ops.size → ((masks ops.toList []).getD a 0).testBit b = false := fun a b hab hb => by
    cases hm : ((masks ops.toList []).getD a 0).testBit b with
    | false => rfl
    | true =>
      have hoa : ops[a]? = some ops[a] := Array.getElem?_eq_getElem (by omega)
      have := (mask_closed F.down (L := fun _ => true) (fun _ _ _ _ _ _ _ => rfl) a _ hoa (fun _ _ _ => rfl) b hm).2
      omega
  rcases Nat.lt_or_ge i p with h | h
  · -- writes from i on that were carried out
    refine (chain i p (by omega) (by omega) (fun j hj1 hj2 hw => ⟨hbit i j (by omega) (by omega), ?_⟩)).symm
    cases hm : ((masks ops.toList []).getD j 0).testBit i with
    | false => rfl
    | true =>
      have hLj := h3 j (by omega) hj2 hw
      have hoj : ops[j]? = some ops[j] := Array.getElem?_eq_getElem (by omega)
      have := (mask_closed F.down hC j _ hoj (fun e he hb => hC j _ hoj hLj e he hb) i hm).1
      rw [hL] at this; cases this
  · refine chain p i h (by omega) (fun j hj1 hj2 hw => ⟨?_, hbit j i (by omega) hlt⟩)
    cases hm : ((masks ops.toList []).getD i 0).testBit j with
    | false => rfl
    | true =>
      have hLj := (mask_closed F.down hC i o hi hr j hm).1
      obtain ⟨h5, h6⟩ := h4 (by omega)
      by_cases e : j = p
      · rw [e, h6] at hLj; cases hLj
      · obtain ⟨o2, ho2, hw2⟩ := wrAt_some hw
        obtain ⟨o3, ho3, hw3⟩ := wrAt_some h5
        have := (F.writes hC hN ho2 ho3 hw2 hw3 (by omega)).1 hLj
        rw [h6] at this; cases this
end

def Lof (listed : Array Bool) : Nat → Bool := fun i => listed.getD i false

theorem Lof_set {listed : Array Bool} {i : Nat} (h : i < listed.size) : Lof (listed.setIfInBounds i true) = addL (Lof listed) i := by
  funext k
  unfold Lof addL
  by_cases e : k = i
  · subst e; rw [show Nat.beq k k = true from Nat.beq_refl k]; simp [h]
  · rw [show Nat.beq k i = false from by rw [Bool.eq_false_iff]; intro e2; exact e (Nat.eq_of_beq_eq_true e2)]
    simp [Array.getD_eq_getD_getElem?, Array.getElem?_setIfInBounds_ne (Ne.symm e)]

def cnt (L : Nat → Bool) : Nat → Nat
  | 0 => 0
  | k + 1 => cnt L k + (if L k = true then 0 else 1)

theorem cnt_add {L : Nat → Bool} {i : Nat} (hL : L i = false) (k : Nat) : (k ≤ i → cnt (addL L i) k = cnt L k) ∧ (i < k → cnt (addL L i) k + 1 = cnt L k) := by
  induction k with
  | zero => exact ⟨fun _ => rfl, fun h => by omega⟩
  | succ k ih =>
    obtain ⟨h1, h2⟩ := ih
    simp only [cnt]
    refine ⟨fun h => by rw [h1 (by omega), addL_ne L (show k ≠ i by omega)], fun h => ?_⟩
    by_cases e : k = i
    · subst e
      rw [h1 (Nat.le_refl _), addL_same, hL]; simp
    · have := h2 (by omega)
      rw [addL_ne L e]; omega

theorem cnt_zero {L : Nat → Bool} : ∀ {k : Nat}, cnt L k = 0 → ∀ i, i < k → L i = true
  | 0, _, i, hi => by omega
  | k + 1, h, i, hi => by
    simp only [cnt] at h
    have hk : L k = true := by
      cases hL : L k with
      | true => rfl
      | false => rw [hL] at h; simp at h
    by_cases e : i = k
    · rw [e]; exact hk
    · exact cnt_zero (k := k) (by omega) i (by omega)

theorem mem_ready' {ops : Array Oper} {listed : Array Bool} (hs : listed.size = ops.size) {i : Nat} : i ∈ Region.ready .any ops listed ↔ ∃ o, ops[i]? = some o ∧ Lof listed i = false ∧ ∀ e ∈ o.after, Region.binds .any e = true → Lof listed e.on = true := by
  unfold Region.ready
  rw [List.mem_filter, List.mem_range]
  constructor
  · rintro ⟨hi, h⟩
    have hoi : ops[i]? = some ops[i] := Array.getElem?_eq_getElem hi
    rw [hoi] at h
    simp only [Bool.and_eq_true, Bool.not_eq_true', Option.map_some, Option.getD_some, Array.all_eq_true_iff_forall_mem, Bool.or_eq_true] at h
    refine ⟨_, hoi, ?_, fun e he hb => ?_⟩
    · unfold Lof
      have hl := h.1
      simp only [Array.getD_eq_getD_getElem?, Array.getElem?_eq_getElem (show i < listed.size by omega), Option.getD_some] at hl ⊢
      exact hl
    · rcases h.2 e he with h2 | h2
      · rw [hb] at h2; cases h2
      · exact h2
  · rintro ⟨o, ho, hl, he⟩
    have hi := (Array.getElem?_eq_some_iff.1 ho).1
    refine ⟨hi, ?_⟩
    rw [ho]
    simp only [Bool.and_eq_true, Bool.not_eq_true', Option.map_some, Option.getD_some, Array.all_eq_true_iff_forall_mem, Bool.or_eq_true]
    refine ⟨?_, fun e hm => ?_⟩
    · unfold Lof at hl
      simp only [Array.getD_eq_getD_getElem?, Array.getElem?_eq_getElem (show i < listed.size by omega), Option.getD_some] at hl ⊢
      exact hl
    · cases hb : Region.binds .any e with
      | false => exact .inl rfl
      | true => exact .inr (he e hm hb)

theorem ready_nil {ops : Array Oper} (hD : Down ops) {listed : Array Bool} (hs : listed.size = ops.size) (h : Region.ready .any ops listed = []) : ∀ i, i < ops.size → Lof listed i = true := by
  intro i
  induction i using Nat.strongRecOn with
  | _ i ih =>
    intro hi
    cases hL : Lof listed i with
    | true => rfl
    | false =>
      have hoi : ops[i]? = some ops[i] := Array.getElem?_eq_getElem hi
      have : i ∈ Region.ready .any ops listed := (mem_ready' hs).2 ⟨_, hoi, hL, fun e he hb => ih e.on (hD i _ hoi e he hb) (by have := hD i _ hoi e he hb; omega)⟩
      rw [h] at this; cases this

section
variable {P : Program} {O : Orc Rt} {n : Nat} {ops : Array Oper} {i0 : Nat} {S : Nat → St}

theorem SD_full (F : Facts P O n ops i0 S) {L : Nat → Bool} (hL : ∀ i, i < ops.size → L i = true) : SD P ops S L = S ops.size := by
  have h1 : ∀ k, k ≤ ops.size → tmD ops S L k = (S k).tm := by
    intro k
    induction k with
    | zero => intro _; rfl
    | succ k ih =>
      intro hk
      have hok : ops[k]? = some ops[k] := Array.getElem?_eq_getElem (by omega)
      simp only [tmD]
      rw [if_pos (hL k (by omega)), ih (by omega), F.tm_step hok]
  obtain ⟨a1, a2, a3, a4⟩ := pFrom_spec (ops := ops) (P := P) (L := L) ops.size 0
  have hp : pFrom ops P L ops.size 0 = ops.size := by
    rcases Nat.lt_or_ge (pFrom ops P L ops.size 0) ops.size with h | h
    · have := (a4 (by omega)).2
      rw [hL _ h] at this; cases this
    · omega
  unfold SD
  rw [hp, h1 _ (Nat.le_refl _)]

theorem SD_none (F : Facts P O n ops i0 S) {L : Nat → Bool} (hL : ∀ i, L i = false) : SD P ops S L = S 0 := by
  have h1 : ∀ k, tmD ops S L k = (S 0).tm := by
    intro k
    induction k with
    | zero => rfl
    | succ k ih => simp only [tmD]; rw [if_neg (by rw [hL]; simp), ih]
  obtain ⟨a1, a2, a3, a4⟩ := pFrom_spec (ops := ops) (P := P) (L := L) ops.size 0
  have h2 := F.ob_same (Nat.zero_le (pFrom ops P L ops.size 0)) (by omega) (fun j _ hj => by
    cases hw : wrAt ops P j with
    | false => rfl
    | true => have := a3 j (Nat.zero_le _) hj hw; rw [hL] at this; cases this)
  unfold SD
  rw [h1, h2.1, h2.2]

theorem step_SD {rd : Option Nat} (F : Facts P O n ops i0 S) {L : Nat → Bool} (hC : Closed ops L) (hN : Turn P ops i0 L) {i : Nat} {o : Oper} (hi : ops[i]? = some o) (hL : L i = false) (hr : ∀ e ∈ o.after, Region.binds .any e = true → L e.on = true) (hA : i = i0 → Due P ops i0 L) {E : Env} {φ : Phi} {A : Nat → Prop} {a : Act} {w : World}
    (hR : R E n φ A (SD P ops S L) a w) {Q : Exit → Act → World → Prop} {K : Act → World → Prop} (hK : ∀ φ' A' a' w', R E n φ' A' (SD P ops S (addL L i)) a' w' → Keeps E o.dst φ φ' A A' (SD P ops S L).ob (SD P ops S (addL L i)).ob a a' w w' → K a' w') : wpOpIn (fen rd) 0 P ops Q i K a w := by
  have hlt : i < ops.size := (Array.getElem?_eq_some_iff.1 hi).1
  have hsee : ∀ t, (t ∈ o.looksAt ops ∨ o.dst = some t) → (SD P ops S L).tm t = (S i).tm t := fun t ht => by
    have := F.sees hC hi hL hr ht ops.size (Nat.le_refl _)
    rw [Nat.min_eq_right (by omega)] at this
    exact this
  have hval : ∀ x ∈ o.op.operands, (SD P ops S L).val x = (S i).val x := fun x hx => by
    cases x with
    | tmp t =>
      refine hsee t (.inl ?_)
      unfold Oper.looksAt
      exact List.mem_append_left _ (List.mem_filterMap.2 ⟨.tmp t, by simpa using hx, rfl⟩)
    | const v => rfl
    | global g => rfl
    | func f => rfl
  have hwant : wantedA ops o (SD P ops S L).tm = wantedA ops o (S i).tm := by
    unfold wantedA
    cases hg : o.guard with
    | none => rfl
    | some jw =>
      obtain ⟨j, want⟩ := jw
      simp only []
      cases ht : (ops[j]?).bind (·.dst) with
      | none => rfl
      | some t =>
        simp only []
        rw [hsee t (.inl (by unfold Oper.looksAt; rw [hg]; simp only [ht]; exact List.mem_append_right _ (by simp)))]
  obtain ⟨hd, hn, v, f, nx, hst, hcase⟩ := F.step i o hi
  have hput : ∀ u, (o.dst ≠ none → u = v) → ∀ f' nx', (f' = (SD P ops S (addL L i)).ob) → (nx' = (SD P ops S (addL L i)).nx) → (SD P ops S L).after o u f' nx' = SD P ops S (addL L i) := fun u hu f' nx' hf hx => by
    have htm : ((SD P ops S L).put o.dst u).tm = (SD P ops S (addL L i)).tm := by
      show _ = tmD ops S (addL L i) ops.size
      rw [F.put hC hi hL]
      unfold dstAt valAt
      rw [hi]
      simp only [Option.bind_some]
      cases hdd : o.dst with
      | none => rfl
      | some t =>
        have hvt : (S (i + 1)).tm t = v := by
          rw [hst]; simp only [St.after, St.put, hdd]
          rw [show Nat.beq t t = true from Nat.beq_refl t]; rfl
        simp only []
        rw [hvt, hu (by rw [hdd]; simp)]
        rfl
    unfold St.after
    rw [htm, hf, hx]
  cases hw : isW P o with
  | true =>
    have hp := F.at_write hC hN hi hL hr hw hA
    obtain ⟨h1, h2⟩ := F.after_write hC hN hi hL hr hw hA
    have hob : (SD P ops S L).ob = (S i).ob := by show (S (pFrom ops P L ops.size 0)).ob = _; rw [hp]
    have hnx : (SD P ops S L).nx = (S i).nx := by show (S (pFrom ops P L ops.size 0)).nx = _; rw [hp]
    have hf : f = (SD P ops S (addL L i)).ob := by show f = (S _).ob; rw [h1, hst]; rfl
    have hx : nx = (SD P ops S (addL L i)).nx := by show nx = (S _).nx; rw [h2, hst]; rfl
    refine OpW.wpOpK hi hR hd hn hval (v := v) (f := f) (nx := nx) ?_ (fun φ' A' a' w' hR' hk => hK φ' A' a' w' (by rw [← hput v (fun _ => rfl) f nx hf hx]; exact hR') (by rw [← hf]; exact hk))
    rw [hwant, hob, hnx]
    exact hcase.imp (fun ⟨a, b, _⟩ => ⟨a, b.opW⟩) id
  | false =>
    have hp := no_write (P := P) (L := L) hi hw
    have hf : (SD P ops S L).ob = (SD P ops S (addL L i)).ob := by show (S _).ob = (S _).ob; rw [hp]
    have hx : (SD P ops S L).nx = (SD P ops S (addL L i)).nx := by show (S _).nx = (S _).nx; rw [hp]
    refine OpW.wpOpK hi hR hd hn hval (v := v) (f := (SD P ops S L).ob) (nx := (SD P ops S L).nx) ?_ (fun φ' A' a' w' hR' hk => hK φ' A' a' w' (by rw [← hput v (fun _ => rfl) _ _ hf hx]; exact hR') (by rw [← hf]; exact hk))
    rw [hwant]
    rcases hcase with ⟨h1, h2, _⟩ | ⟨h1, h2, _, _⟩
    · refine .inl ⟨h1, ?_⟩
      unfold OpDid at h2
      unfold isW at hw
      split at h2
      · exact h2.2.2 _ _
      · rename_i hk
        have hrd : isR P o = true := by unfold isR; rw [hk]
        have := F.reads hC hN hi hL hr hrd
        rw [h2.2.2] at this
        exact (readOp_sound this).opW _
      · rename_i hk; rw [hk] at hw; cases hw
    · exact .inr ⟨h1, h2, rfl, rfl⟩

theorem msk_has {acc : List Nat} {e : Edge} (hb : Region.binds .any e = true) : ∀ {es : List Edge}, e ∈ es → (msk acc es).testBit e.on = true
  | [], h => by cases h
  | e' :: es, h => by
    unfold msk
    rcases List.mem_cons.1 h with h | h
    · subst h
      rw [hb]
      simp only [cond, Nat.testBit_or, Nat.testBit_two_pow_self, Bool.true_or, Bool.or_true]
    · have ih := msk_has (acc := acc) hb h
      cases hb' : Region.binds .any e' with
      | false => exact ih
      | true => simp only [cond, Nat.testBit_or, ih, Bool.true_or]

theorem mask_has {ops : Array Oper} {i : Nat} {o : Oper} (hi : ops[i]? = some o) {e : Edge} (he : e ∈ o.after) (hb : Region.binds .any e = true) : ((masks ops.toList []).getD i 0).testBit e.on = true := by
  have h3 := (masks_get ops.toList []).2.2 i o (by simpa using hi)
  simp only [List.length_nil, Nat.zero_add] at h3
  rw [h3]
  exact msk_has hb (by simpa using he)

theorem mask_none {ops : Array Oper} {i : Nat} {o : Oper} (hi : ops[i]? = some o) (hn : ∀ e ∈ o.after, Region.binds .any e = false) (j : Nat) : ((masks ops.toList []).getD i 0).testBit j = false := by
  cases h : ((masks ops.toList []).getD i 0).testBit j with
  | false => rfl
  | true =>
    have h3 := (masks_get ops.toList []).2.2 i o (by simpa using hi)
    simp only [List.length_nil, Nat.zero_add] at h3
    rw [h3] at h
    obtain ⟨e, he, hb, _⟩ := msk_test h
    rw [hn e (by simpa using he)] at hb; cases hb

/-! ### a variable that may be made before its turn -/
structure Flt (P : Program) (n : Nat) (ops : Array Oper) (i0 : Nat) (S : Nat → St) (o : Oper) (d : Tmp) (t : TypeId) (p : PV) (g : List Seg) : Prop where
  here : ops[i0]? = some o
  op : o.op = .alloc t
  dst : o.dst = some d
  guard : o.guard = none
  lt : d < n
  zero : zeroPV P t = some p
  seg : segsOf p = some g
  nop : ∀ e ∈ o.after, Region.binds .any e = false
  deps : ∀ k j, k < ops.size → ((masks ops.toList []).getD k 0).testBit i0 = true → j < i0 → wrAt ops P j = true → ((masks ops.toList []).getD k 0).testBit j = true
  any : (S 0).tm d = anyV
  succ : S (i0 + 1) = (S i0).after o (.lf (.ptr (S i0).nx 0 0 0 0 none)) (updO (S i0).ob (S i0).nx (some (.box true g))) ((S i0).nx + 1)

theorem Flt.any_at {o : Oper} {d : Tmp} {t : TypeId} {p : PV} {g : List Seg} (H : Flt P n ops i0 S o d t p g) (F : Facts P O n ops i0 S) {L : Nat → Bool} (hC : Closed ops L) (hL : L i0 = false) : (SD P ops S L).tm d = anyV := by
  have hlt : i0 < ops.size := (Array.getElem?_eq_some_iff.1 H.here).1
  have hr : ∀ L : Nat → Bool, ∀ e ∈ o.after, Region.binds .any e = true → L e.on = true := fun L e he hb => by rw [H.nop e he] at hb; cases hb
  have h1 := F.sees hC H.here hL (hr L) (.inr H.dst) ops.size (Nat.le_refl _)
  have h2 := F.sees (L := fun _ => false) (fun _ _ _ h => by cases h) H.here rfl (hr (fun _ => false)) (.inr H.dst) ops.size (Nat.le_refl _)
  have h3 : ∀ k, tmD ops S (fun _ => false) k = (S 0).tm := by
    intro k
    induction k with
    | zero => rfl
    | succ k ih => simp only [tmD]; rw [if_neg (by simp), ih]
  rw [h3] at h2
  show tmD ops S L ops.size d = anyV
  rw [h1, ← h2]; exact H.any

theorem adopt_SD {o : Oper} {d : Tmp} {t : TypeId} {p : PV} {g : List Seg} (H : Flt P n ops i0 S o d t p g) (F : Facts P O n ops i0 S) {L : Nat → Bool} (hC : Closed ops L) (hL : L i0 = false) (hD : Due P ops i0 L) {E : Env} {φ : Phi} {A : Nat → Prop} {a : Act} {w : World}
    (hR : R E n φ A (SD P ops S L) a w) {b : Nat} {x : Obj} (hF : Free E φ A (SD P ops S L).ob w b x) (hx : Noughts g x) (hv : a.tmps.getD d undef = .pointer (some ⟨b, 0, none⟩)) : ∃ φ', R E n φ' A (SD P ops S (addL L i0)) a w := by
  obtain ⟨φ', h⟩ := adopt H.dst hR hF hx hv
  refine ⟨φ', ?_⟩
  have hr : ∀ e ∈ o.after, Region.binds .any e = true → L e.on = true := fun e he hb => by rw [H.nop e he] at hb; cases hb
  have hw : isW P o = true := by unfold isW kdOf; rw [H.op]
  have hN : Turn P ops i0 L := fun h => by rw [hL] at h; cases h
  have hp := F.at_write hC hN H.here hL hr hw (fun _ => hD)
  obtain ⟨h1, h2⟩ := F.after_write hC hN H.here hL hr hw (fun _ => hD)
  have hob : (SD P ops S L).ob = (S i0).ob := by show (S (pFrom ops P L ops.size 0)).ob = _; rw [hp]
  have hnx : (SD P ops S L).nx = (S i0).nx := by show (S (pFrom ops P L ops.size 0)).nx = _; rw [hp]
  have e : (SD P ops S L).after o (.lf (.ptr (SD P ops S L).nx 0 0 0 0 none)) (updO (SD P ops S L).ob (SD P ops S L).nx (some (.box true g))) ((SD P ops S L).nx + 1) = SD P ops S (addL L i0) := by
    have htm : ((SD P ops S L).put o.dst (.lf (.ptr (SD P ops S L).nx 0 0 0 0 none))).tm = (SD P ops S (addL L i0)).tm := by
      show _ = tmD ops S (addL L i0) ops.size
      rw [F.put hC H.here hL]
      unfold dstAt valAt
      rw [H.here]
      simp only [Option.bind_some, H.dst]
      have hvt : (S (i0 + 1)).tm d = .lf (.ptr (S i0).nx 0 0 0 0 none) := by
        rw [H.succ]; simp only [St.after, St.put, H.dst]
        rw [show Nat.beq d d = true from Nat.beq_refl d]; rfl
      rw [hvt, hnx]
      rfl
    have hf : updO (SD P ops S L).ob (SD P ops S L).nx (some (.box true g)) = (SD P ops S (addL L i0)).ob := by
      show _ = (S _).ob
      rw [h1, H.succ, hob, hnx]; rfl
    have hx' : (SD P ops S L).nx + 1 = (SD P ops S (addL L i0)).nx := by
      show _ = (S _).nx
      rw [h2, H.succ, hnx]; rfl
    unfold St.after
    rw [htm, hf, hx']
  rw [← e]; exact h

theorem addL_comm (L : Nat → Bool) (i j : Nat) : addL (addL L i) j = addL (addL L j) i := by
  funext k
  unfold addL
  cases Nat.beq k i <;> cases Nat.beq k j <;> rfl

theorem closed_add {L : Nat → Bool} (hC : Closed ops L) {i : Nat} {o : Oper} (hi : ops[i]? = some o) (he : ∀ e ∈ o.after, Region.binds .any e = true → L e.on = true) : Closed ops (addL L i) := by
  intro j oj hj hLj e hm hb
  by_cases hji : j = i
  · subst hji
    rw [hi] at hj; simp only [Option.some.injEq] at hj; subst hj
    by_cases h2 : e.on = j
    · rw [h2]; exact addL_same ..
    · rw [addL_ne _ h2]; exact he e hm hb
  · rw [addL_ne _ hji] at hLj
    by_cases h2 : e.on = i
    · rw [h2]; exact addL_same ..
    · rw [addL_ne _ h2]; exact hC j oj hj hLj e hm hb

/-- How things stand when some operations have been carried out. -/
def Stand (E : Env) (P : Program) (n : Nat) (ops : Array Oper) (i0 : Nat) (S : Nat → St) (L : Nat → Bool) (φ : Phi) (A : Nat → Prop) (a : Act) (w : World) : Prop :=
  (Closed ops L ∧ Turn P ops i0 L ∧ R E n φ A (SD P ops S L) a w) ∨
  ∃ L' o d t p g b x, Flt P n ops i0 S o d t p g ∧ L = addL L' i0 ∧ L' i0 = false ∧ Closed ops L ∧ Closed ops L' ∧ ¬ Due P ops i0 L' ∧ R E n φ A (SD P ops S L') a w ∧
    Free E φ A (SD P ops S L').ob w b x ∧ Noughts g x ∧ a.tmps.getD d undef = .pointer (some ⟨b, 0, none⟩)

theorem Stand.full (F : Facts P O n ops i0 S) {E : Env} {L : Nat → Bool} {φ : Phi} {A : Nat → Prop} {a : Act} {w : World} (h : Stand E P n ops i0 S L φ A a w) (hL : ∀ i, i < ops.size → L i = true) : R E n φ A (S ops.size) a w := by
  rcases h with ⟨_, _, h⟩ | ⟨L', o, d, t, p, g, b, x, H, rfl, hL0, _, _, hD, _⟩
  · rwa [SD_full F hL] at h
  · refine absurd (fun j hj _ => ?_) hD
    have hlt : i0 < ops.size := (Array.getElem?_eq_some_iff.1 H.here).1
    have := hL j (by omega)
    rwa [addL_ne _ (show j ≠ i0 by omega)] at this

theorem Stand.step {rd : Option Nat} (F : Facts P O n ops i0 S) (hH : i0 < ops.size → ∃ o d t p g, Flt P n ops i0 S o d t p g) {E : Env} {L : Nat → Bool} {φ : Phi} {A : Nat → Prop} {a : Act} {w : World} (h : Stand E P n ops i0 S L φ A a w)
    {i : Nat} {o : Oper} (hi : ops[i]? = some o) (hL : L i = false) (hr : ∀ e ∈ o.after, Region.binds .any e = true → L e.on = true) {Q : Exit → Act → World → Prop} {K : Act → World → Prop}
    (hK : ∀ φ' A' a' w', Stand E P n ops i0 S (addL L i) φ' A' a' w' → K a' w') : wpOpIn (fen rd) 0 P ops Q i K a w := by
  have hlt : i < ops.size := (Array.getElem?_eq_some_iff.1 hi).1
  rcases h with ⟨hC, hN, hR⟩ | ⟨L', o0, d, t, p, g, b, x, H, rfl, hL0, hC, hC', hD, hR, hF, hx, hv⟩
  · by_cases hA : i = i0 → Due P ops i0 L
    · refine step_SD F hC hN hi hL hr hA hR (fun φ' A' a' w' hR' _ => hK φ' A' a' w' (.inl ⟨closed_add hC hi hr, fun h0 j hj hw => ?_, hR'⟩))
      have hji : j = i ∨ j ≠ i := by omega
      rcases hji with e | e
      · rw [e]; exact addL_same ..
      · rw [addL_ne _ e]
        by_cases e0 : i = i0
        · exact hA e0 j hj hw
        · rw [addL_ne _ (Ne.symm e0)] at h0
          exact hN h0 j hj hw
    · have hA' : i = i0 ∧ ¬ Due P ops i0 L := by
        by_cases e : i = i0
        · exact ⟨e, fun h => hA (fun _ => h)⟩
        · exact absurd (fun h => absurd h e) hA
      obtain ⟨e, hD⟩ := hA'
      subst e
      obtain ⟨o0, d, t, p, g, H⟩ := hH hlt
      have ho := H.here
      rw [hi] at ho; simp only [Option.some.injEq] at ho; subst ho
      refine early_alloc hi H.op H.guard H.zero H.seg H.dst H.lt hR (H.any_at F hC hL) (fun A' a' w' b x hR' hF hx hv => hK φ A' a' w' (.inr ⟨L, o, d, t, p, g, b, x, H, rfl, hL, closed_add hC hi hr, hC, hD, hR', hF, hx, hv⟩))
  · have hii : i ≠ i0 := fun e => by rw [e, addL_same] at hL; cases hL
    have hL' : L' i = false := by rwa [addL_ne _ hii] at hL
    have hlt0 : i0 < ops.size := (Array.getElem?_eq_some_iff.1 H.here).1
    have hnb : ((masks ops.toList []).getD i 0).testBit i0 = false := by
      cases hm : ((masks ops.toList []).getD i 0).testBit i0 with
      | false => rfl
      | true =>
        refine absurd (fun j hj hw => ?_) hD
        have := (mask_closed F.down hC i o hi hr j (H.deps i j hlt hm hj hw)).1
        rwa [addL_ne _ (show j ≠ i0 by omega)] at this
    have hr' : ∀ e ∈ o.after, Region.binds .any e = true → L' e.on = true := fun e he hb => by
      have h1 := hr e he hb
      by_cases e0 : e.on = i0
      · have := mask_has hi he hb
        rw [e0, hnb] at this; cases this
      · rwa [addL_ne _ e0] at h1
    have hdst : o.dst ≠ some d := by
      rcases Nat.lt_or_ge i i0 with h | h
      · rcases F.pairs i0 i o0 o h H.here hi with hm | ⟨hap, _⟩
        · rw [mask_none H.here H.nop] at hm; cases hm
        · exact fun e => (Oper.apart_spec hap).2.1 d e H.dst
      · rcases F.pairs i i0 o o0 (by omega) hi H.here with hm | ⟨hap, _⟩
        · rw [hnb] at hm; cases hm
        · exact fun e => (Oper.apart_spec hap).2.1 d H.dst e
    refine step_SD F hC' (fun h => by rw [hL0] at h; cases h) hi hL' hr' (fun e => absurd e hii) hR (fun φ' A' a' w' hR' hk => ?_)
    have hF' := hk.1 b x hF
    have hv' := (hk.2 d hdst).trans hv
    have hL2 : addL L' i i0 = false := by rw [addL_ne _ (Ne.symm hii)]; exact hL0
    have hC2 := closed_add hC' hi hr'
    by_cases hD2 : Due P ops i0 (addL L' i)
    · obtain ⟨φ2, hR2⟩ := adopt_SD H F hC2 hL2 hD2 hR' hF' hx hv'
      refine hK φ2 A' a' w' (.inl ⟨closed_add hC hi hr, fun _ j hj hw => ?_, by rw [addL_comm]; exact hR2⟩)
      rw [addL_comm, addL_ne _ (show j ≠ i0 by omega)]; exact hD2 j hj hw
    · exact hK φ' A' a' w' (.inr ⟨addL L' i, o0, d, t, p, g, b, x, H, addL_comm .., hL2, closed_add hC hi hr, hC2, hD2, hR', hF', hx, hv'⟩)

theorem draw_any {rd : Option Nat} (F : Facts P O n ops i0 S) (hH : i0 < ops.size → ∃ o d t p g, Flt P n ops i0 S o d t p g) {E : Env} {Q : Exit → Act → World → Prop} (hQ : ∀ φ A a w, R E n φ A (S ops.size) a w → Q .normal a w) : ∀ (fuel : Nat) (listed : Array Bool) (φ : Phi) (A : Nat → Prop) (a : Act) (w : World),
    listed.size = ops.size → cnt (Lof listed) ops.size ≤ fuel → Stand E P n ops i0 S (Lof listed) φ A a w → wpAnyIn (fen rd) 0 P .any ops Q fuel listed a w := by
  intro fuel
  induction fuel with
  | zero =>
    intro listed φ A a w hs hc hR
    have hall := cnt_zero (Nat.le_zero.1 hc)
    refine ⟨?_, hQ φ A a w (hR.full F hall)⟩
    cases hr : Region.ready .any ops listed with
    | nil => rfl
    | cons i l =>
      obtain ⟨o, ho, hL, _⟩ := (mem_ready' hs (i := i)).1 (by rw [hr]; exact List.mem_cons_self ..)
      rw [hall i (Array.getElem?_eq_some_iff.1 ho).1] at hL; cases hL
  | succ fuel ih =>
    intro listed φ A a w hs hc hR
    refine ⟨fun hr => ?_, fun i hi => ?_⟩
    · exact hQ φ A a w (hR.full F (ready_nil F.down hs hr))
    · obtain ⟨o, ho, hL, he⟩ := (mem_ready' hs).1 hi
      have hlt : i < ops.size := (Array.getElem?_eq_some_iff.1 ho).1
      refine hR.step F hH ho hL he (fun φ' A' a' w' hR' => ?_)
      have hset := Lof_set (listed := listed) (i := i) (by omega)
      refine ih _ φ' A' a' w' (by simpa using hs) ?_ (by rw [hset]; exact hR')
      rw [hset]; have := (cnt_add hL ops.size).2 hlt; omega
end

theorem chain_app {P : Program} {O : Orc Rt} {n : Nat} {ops : Array Oper} {o : Oper} {l2 : List Oper} {s1 s2 e : St} {S2 : List St} (ho : OpTo P O n ops o s1 s2) (h2 : Chain P O n ops l2 s2 S2 e) :
    ∀ {l1 : List Oper} {s : St} {S1 : List St}, Chain P O n ops l1 s S1 s1 → Chain P O n ops (l1 ++ o :: l2) s (S1 ++ S2) e ∧ (S1 ++ S2)[l1.length]? = some s1 ∧ (S1 ++ S2)[l1.length + 1]? = some s2
  | [], _, _, ⟨h, h'⟩ => by
    subst h; subst h'
    refine ⟨⟨s2, S2, rfl, ho, h2⟩, rfl, ?_⟩
    cases l2 with
    | nil => obtain ⟨h, _⟩ := h2; subst h; rfl
    | cons o' l => obtain ⟨_, _, h, _⟩ := h2; subst h; rfl
  | o' :: l1, s, _, ⟨s', S', h, h1, h3⟩ => by
    subst h
    obtain ⟨h4, h5, h6⟩ := chain_app ho h2 h3
    exact ⟨⟨s', S' ++ S2, rfl, h1, h4⟩, by simpa using h5, by simpa using h6⟩

theorem stand_none {P : Program} {O : Orc Rt} {n : Nat} {ops : Array Oper} {i0 : Nat} {S : Nat → St} (F : Facts P O n ops i0 S) {E : Env} {φ : Phi} {A : Nat → Prop} {a : Act} {w : World} (hR : R E n φ A (S 0) a w) :
    Stand E P n ops i0 S (Lof (Array.replicate ops.size false)) φ A a w := by
  have hno : ∀ i, Lof (Array.replicate ops.size false) i = false := fun i => by
    unfold Lof
    simp only [Array.getD_eq_getD_getElem?, Array.getElem?_replicate]
    split <;> rfl
  refine .inl ⟨fun i o ho hL => (by rw [hno] at hL; cases hL), fun h => (by rw [hno] at h; cases h), ?_⟩
  rw [SD_none F hno]; exact hR

theorem draw_from {rd : Option Nat} {P : Program} (hm : P.follows .mixedOrders = true) {O : Orc Rt} {n : Nat} {ops : Array Oper} {i0 : Nat} {S : Nat → St} (F : Facts P O n ops i0 S) (hH : i0 < ops.size → ∃ o d t p g, Flt P n ops i0 S o d t p g) {E : Env} {φ : Phi} {A : Nat → Prop} {a : Act} {w : World}
    (hR : R E n φ A (S 0) a w) {Q : Exit → Act → World → Prop} (hQ : ∀ φ A a w, R E n φ A (S ops.size) a w → Q .normal a w) {id : Nat} : (Code.region id ops true).wpIn (fen rd) 0 P Q a w := by
  refine wpIn_region_any hm (draw_any F hH hQ _ _ φ A a _ (by simp) ?_ ?_)
  · have hle : ∀ (L : Nat → Bool) k, cnt L k ≤ k := fun L k => by
      induction k with
      | zero => exact Nat.le_refl _
      | succ k ih => simp only [cnt]; split <;> omega
    exact hle _ _
  · refine stand_none F ?_
    have hx : Ext φ φ A A w { w with drawn := w.drawn + 1 } := ⟨fun _ _ h => h, Nat.le_refl _, fun _ _ h => h, fun _ _ _ => rfl⟩
    exact ⟨hR.defers.ext hx, hR.size, fun t => (hR.tm t).ext hx, ⟨fun o x ho => by
      obtain ⟨b, hb, hrel, hreg⟩ := hR.obs.ob o x ho
      exact ⟨b, hb, RelOb.ext hx (fun hOw => ⟨(hR.obs.lt ho hb hOw).2, rfl⟩) hrel, hreg⟩, hR.obs.inj, hR.obs.nx⟩, ⟨hR.frm.size, hR.frm.heap, hR.frm.out, hR.frm.keep, hR.frm.os, hR.frm.tape, hR.frm.output, hR.frm.gl⟩, hR.inc⟩

theorem depsOk_spec {P : Program} {ops : Array Oper} {ms : List Nat} {i0 : Nat} (h : depsOk P ops ms i0 = true) (k j : Nat) (hk : k < ops.size) (hb : (ms.getD k 0).testBit i0 = true) (hj : j < i0) (hw : wrAt ops P j = true) : (ms.getD k 0).testBit j = true := by
  unfold depsOk at h
  simp only [List.all_eq_true, List.mem_range, Bool.or_eq_true, Bool.not_eq_true'] at h
  rcases h k hk with h | h
  · rw [hb] at h; cases h
  · rcases h j hj with h | h
    · rw [hw] at h; cases h
    · exact h

theorem evDrawA_sound {rd : Option Nat} {P : Program} {O : Orc Rt} (hO : OrcOk P O) (hm : P.follows .mixedOrders = true) {n : Nat} {ops : Array Oper} (he : edgesOk ops ops.size = true) {i0 : Nat} {s : St} {K : St → Option Rt} {r : Rt} (h : evDrawA P O n ops (masks ops.toList []) i0 s K = some r) {E : Env} {φ : Phi} {A : Nat → Prop} {a : Act} {w : World}
    (hR : R E n φ A s a w) {Q : Exit → Act → World → Prop} (hK : ∀ s φ A a w, K s = some r → R E n φ A s a w → Q .normal a w) {id : Nat} : (Code.region id ops true).wpIn (fen rd) 0 P Q a w := by
  unfold evDrawA at h
  split at h
  · rename_i o hi
    split at h
    · rename_i t hop
      split at h
      · rename_i d hd
        split at h
        · rename_i hg
          cases hc : (Nat.blt d n && pairsOk P ops (masks ops.toList []) i0 ops.size && noPred o && depsOk P ops (masks ops.toList []) i0) with
          | false => rw [hc] at h; cases h
          | true =>
            rw [hc] at h; simp only [cond] at h
            simp only [Bool.and_eq_true] at hc
            obtain ⟨⟨⟨hdn, hpairs⟩, hnp⟩, hdeps⟩ := hc
            have hdn : d < n := Nat.le_of_ble_eq_true hdn
            split at h
            · rename_i p hp
              split at h
              · rename_i g hsg
                obtain ⟨S1, s1, h, hch1⟩ := evLog_sound hO h
                simp only [fPV_eq, fNat_eq, fF_eq] at h
                obtain ⟨S2, e, h, hch2⟩ := evLog_sound hO h
                cases hrw : rwAll P O ops (masks ops.toList []) (S1 ++ S2) s with
                | none => rw [hrw] at h; cases h
                | some lb =>
                  rw [hrw] at h; simp only at h
                  obtain ⟨hlb, h⟩ := alls_spec h
                  have hlt : i0 < ops.size := (Array.getElem?_eq_some_iff.1 hi).1
                  have hto : OpTo P O n ops o s1 (s1.after o (.lf (.ptr s1.nx 0 0 0 0 none)) (updO s1.ob s1.nx (some (.box true g))) (s1.nx + 1)) := by
                    refine ⟨by unfold dstOk; rw [hd]; exact Nat.ble_eq_true_of_le hdn, fun j want t e => (by rw [hg] at e; cases e), _, _, _, rfl, .inl ⟨by unfold wantedA; rw [hg], ?_, ?_⟩⟩
                    · have hk : kdOf P o = .write := by unfold kdOf; rw [hop]
                      unfold OpDid; rw [hk]
                      simp only []
                      have hev : evAlloc P t s1.ob s1.nx (fun v f nx => some (v, f, nx)) = some ((.lf (.ptr s1.nx 0 0 0 0 none) : PV), updO s1.ob s1.nx (some (.box true g)), s1.nx + 1) := by
                        unfold evAlloc
                        rw [hp]; simp only []
                        rw [hsg]; simp only []
                        unfold evNewVar
                        rfl
                      obtain ⟨v, f', nx', h1, h2⟩ := evAlloc_sound hop (ρ := s1.val) hev
                      simp only [Option.some.injEq, Prod.mk.injEq] at h1
                      obtain ⟨rfl, rfl, rfl⟩ := h1
                      exact h2.opW
                    · have ht : touchOf P O o s1.val s1.ob = [] := by unfold touchOf; rw [hop]
                      rw [ht]; exact agree_new s1.ob s1.nx _ []
                  have hlist : ops.toList = ops.toList.take i0 ++ o :: ops.toList.drop (i0 + 1) := by
                    have h0 : ops.toList[i0]? = some o := by simpa using hi
                    obtain ⟨hl, h0⟩ := List.getElem?_eq_some_iff.1 h0
                    rw [← h0]
                    rw [← List.drop_eq_getElem_cons hl, List.take_append_drop]
                  obtain ⟨hch, hg1, hg2⟩ := chain_app hto hch2 hch1
                  rw [← hlist] at hch
                  have hlen : (ops.toList.take i0).length = i0 := by rw [List.length_take]; simp; omega
                  rw [hlen] at hg1 hg2
                  have hS1 : (S1 ++ S2).getD i0 s = s1 := by rw [List.getD_eq_getElem?_getD, hg1]; rfl
                  have hS2 : (S1 ++ S2).getD (i0 + 1) s = s1.after o (.lf (.ptr s1.nx 0 0 0 0 none)) (updO s1.ob s1.nx (some (.box true g))) (s1.nx + 1) := by rw [List.getD_eq_getElem?_getD, hg2]; rfl
                  have h0 : (S1 ++ S2).getD 0 s = s.put (some d) anyV := hch.head
                  have F : Facts P O n ops i0 (fun i => (S1 ++ S2).getD i s) :=
                    ⟨fun i o ho => edgesOk_spec he i o (Array.getElem?_eq_some_iff.1 ho).1 ho, fun i j oi oj hji hi hj => pairsOk_spec hpairs i j oi oj (Array.getElem?_eq_some_iff.1 hi).1 hji hi hj, fun i o ho => hch.step i o (by simpa using ho), fun i j oi oj hi hj hri hwj h5 h6 => .inr (rwAll_spec hrw hlb hi hj hri hwj h5 h6)⟩
                  have hend : (S1 ++ S2).getD ops.size s = e := by
                    have := hch.last (d := s)
                    simpa using this
                  have H : Flt P n ops i0 (fun i => (S1 ++ S2).getD i s) o d t p g := by
                    refine ⟨hi, hop, hd, hg, hdn, hp, hsg, fun e he => ?_, fun k j hk hb hj hw => depsOk_spec hdeps k j hk hb hj hw, ?_, ?_⟩
                    · unfold noPred at hnp
                      simp only [List.all_eq_true, Bool.not_eq_true'] at hnp
                      exact hnp e (by simpa using he)
                    · show ((S1 ++ S2).getD 0 s).tm d = anyV
                      rw [h0]; simp only [St.put]
                      rw [show Nat.beq d d = true from Nat.beq_refl d]; rfl
                    · show (S1 ++ S2).getD (i0 + 1) s = _
                      rw [hS2, hS1]
                  refine draw_from hm F (fun _ => ⟨o, d, t, p, g, H⟩) (φ := φ) (A := A) ?_ (fun φ A a w hR => hK e φ A a w h (by rw [hend] at hR; exact hR))
                  show R E n φ A ((S1 ++ S2).getD 0 s) a w
                  rw [h0]
                  refine ⟨hR.defers, hR.size, fun i => ?_, hR.obs, hR.frm, hR.inc⟩
                  simp only [St.put]
                  cases hb : Nat.beq i d with
                  | true => exact RelV_any ..
                  | false => exact hR.tm i
              · cases h
            · cases h
        · cases h
      · cases h
    · cases h
  · cases h

theorem evDraw_sound {rd : Option Nat} {P : Program} {O : Orc Rt} (hO : OrcOk P O) (hm : P.follows .mixedOrders = true) {n : Nat} {ops : Array Oper} {s : St} {K : St → Option Rt} {r : Rt} (h : evDraw P O n ops s K = some r) {E : Env} {φ : Phi} {A : Nat → Prop} {a : Act} {w : World}
    (hR : R E n φ A s a w) {Q : Exit → Act → World → Prop} (hK : ∀ s φ A a w, K s = some r → R E n φ A s a w → Q .normal a w) {id : Nat} : (Code.region id ops true).wpIn (fen rd) 0 P Q a w := by
  unfold evDraw at h
  cases hc : (edgesOk ops ops.size && noSel ops) with
  | false => rw [hc] at h; cases h
  | true =>
    rw [hc] at h; simp only [cond] at h
    simp only [Bool.and_eq_true] at hc
    cases hp : pairsOk P ops (masks ops.toList []) ops.size ops.size with
    | false =>
      rw [hp] at h
      exact evDrawA_sound hO hm hc.1 h hR hK
    | true =>
      rw [hp] at h; simp only at h
      obtain ⟨S, e, h1, hch⟩ := evLog_sound hO h
      cases hrw : rwAll P O ops (masks ops.toList []) S s with
      | none => rw [hrw] at h1; cases h1
      | some lb =>
        rw [hrw] at h1; simp only at h1
        obtain ⟨hlb, h1⟩ := alls_spec h1
        have F : Facts P O n ops ops.size (fun i => S.getD i s) := by
          exact ⟨fun i o ho => edgesOk_spec hc.1 i o (Array.getElem?_eq_some_iff.1 ho).1 ho, fun i j oi oj hji hi hj => pairsOk_spec hp i j oi oj (Array.getElem?_eq_some_iff.1 hi).1 hji hi hj, fun i o ho => hch.step i o (by simpa using ho), fun i j oi oj hi hj hri hwj h5 h6 => .inr (rwAll_spec hrw hlb hi hj hri hwj h5 h6)⟩
        have hend : S.getD ops.size s = e := by
          have := hch.last (d := s)
          simpa using this
        have h0 : S.getD 0 s = s := hch.head
        refine draw_from hm F (fun h => by omega) (φ := φ) (A := A) (by show R E n φ A (S.getD 0 s) a w; rw [h0]; exact hR) (fun φ A a w hR => hK e φ A a w h1 (by rw [hend] at hR; exact hR))
end Go.Ev
