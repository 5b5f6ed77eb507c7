/- Part of a proof about the given program: EvT. -/
import Derived.Test.YtcpkgneomhpipaaEvS
namespace Go.Ev
variable {Rt : Type}

def Chain (P : Program) (O : Orc Rt) (n : Nat) (ops : Array Oper) : List Oper → St → List St → St → Prop
  | [], s, S, e => S = [s] ∧ e = s
  | o :: l, s, S, e => ∃ s' S', S = s :: S' ∧ OpTo P O n ops o s s' ∧ Chain P O n ops l s' S' e

theorem evLog_sound {P : Program} {O : Orc Rt} (hO : OrcOk P O) {n : Nat} {ops : Array Oper} {r : Rt} : ∀ {l : List Oper} {s : St} {K : List St → St → Option Rt}, evLog P O n ops l s K = some r → ∃ S e, K S e = some r ∧ Chain P O n ops l s S e
  | [], s, K, h => ⟨[s], s, h, rfl, rfl⟩
  | o :: l, s, K, h => by
    unfold evLog at h
    obtain ⟨s', h1, h2⟩ := evG_sound hO h
    obtain ⟨S, e, h3, h4⟩ := evLog_sound hO h2
    exact ⟨s :: S, e, h3, s', S, rfl, h1, h4⟩

theorem Chain.head {P : Program} {O : Orc Rt} {n : Nat} {ops : Array Oper} : ∀ {l : List Oper} {s : St} {S : List St} {e d : St}, Chain P O n ops l s S e → S.getD 0 d = s
  | [], _, _, _, _, ⟨h, _⟩ => by rw [h]; rfl
  | _ :: _, _, _, _, _, ⟨_, _, h, _⟩ => by rw [h]; rfl

theorem Chain.step {P : Program} {O : Orc Rt} {n : Nat} {ops : Array Oper} : ∀ {l : List Oper} {s : St} {S : List St} {e d : St}, Chain P O n ops l s S e → ∀ (i : Nat) (o : Oper), l[i]? = some o → OpTo P O n ops o (S.getD i d) (S.getD (i + 1) d)
  | [], _, _, _, _, _, i, o, h => by simp at h
  | o' :: l, s, _, e, d, ⟨s', S', h, h1, h2⟩, i, o, hi => by
    subst h
    cases i with
    | zero =>
      simp only [List.getElem?_cons_zero, Option.some.injEq] at hi
      subst hi
      have := h2.head (d := d)
      simp only [List.getD_cons_zero, List.getD_cons_succ]
      rw [this]; exact h1
    | succ i =>
      rw [List.getElem?_cons_succ] at hi
      simpa using h2.step i o hi

theorem Chain.last {P : Program} {O : Orc Rt} {n : Nat} {ops : Array Oper} : ∀ {l : List Oper} {s : St} {S : List St} {e d : St}, Chain P O n ops l s S e → S.getD l.length d = e
  | [], _, _, _, _, ⟨h, h'⟩ => by rw [h, h']; rfl
  | _ :: _, _, _, _, _, ⟨_, _, h, _, h2⟩ => by rw [h]; simpa using h2.last

/-! ### masks -/
theorem masks_get : ∀ (l : List Oper) (acc : List Nat), (masks l acc).length = acc.length + l.length ∧ (∀ i, i < acc.length → (masks l acc).getD i 0 = acc.getD i 0) ∧
    ∀ i o, l[i]? = some o → (masks l acc).getD (acc.length + i) 0 = msk ((masks l acc).take (acc.length + i)) o.after.toList
  | [], acc => ⟨by simp [masks], fun _ _ => rfl, fun i o h => by simp at h⟩
  | o' :: l, acc => by
    obtain ⟨h1, h2, h3⟩ := masks_get l (acc ++ [msk acc o'.after.toList])
    simp only [masks]
    simp only [List.length_append, List.length_cons, List.length_nil] at h1 h2 h3
    have hlow : ∀ i, i < acc.length → (masks l (acc ++ [msk acc o'.after.toList])).getD i 0 = acc.getD i 0 := fun i hi => by
      rw [h2 i (by omega)]
      simp only [List.getD_eq_getElem?_getD, List.getElem?_append_left hi]
    refine ⟨by simp only [List.length_cons]; omega, hlow, fun i o hi => ?_⟩
    cases i with
    | zero =>
      simp only [List.getElem?_cons_zero, Option.some.injEq] at hi
      subst hi
      rw [Nat.add_zero, h2 acc.length (by omega)]
      have htake : (masks l (acc ++ [msk acc o'.after.toList])).take acc.length = acc := by
        apply List.ext_getElem?
        intro j
        rw [List.getElem?_take]
        by_cases hj : j < acc.length
        · rw [if_pos hj]
          have := hlow j hj
          simp only [List.getD_eq_getElem?_getD] at this
          rw [List.getElem?_eq_getElem (by omega), List.getElem?_eq_getElem hj] at this ⊢
          simpa using this
        · rw [if_neg hj, List.getElem?_eq_none (by omega)]
      rw [htake]
      simp [List.getD_eq_getElem?_getD]
    | succ i =>
      rw [List.getElem?_cons_succ] at hi
      have := h3 i o hi
      rw [show acc.length + (i + 1) = acc.length + 1 + i by omega]
      exact this

theorem msk_test {acc : List Nat} {j : Nat} : ∀ {es : List Edge}, (msk acc es).testBit j = true → ∃ e ∈ es, Region.binds .any e = true ∧ (j = e.on ∨ (acc.getD e.on 0).testBit j = true)
  | [], h => by simp [msk] at h
  | e :: es, h => by
    unfold msk at h
    cases hb : Region.binds .any e with
    | false =>
      rw [hb] at h
      obtain ⟨e', h1, h2⟩ := msk_test h
      exact ⟨e', List.mem_cons_of_mem _ h1, h2⟩
    | true =>
      rw [hb] at h
      simp only [cond, Nat.testBit_or, Bool.or_eq_true] at h
      rcases h with h | h | h
      · obtain ⟨e', h1, h2⟩ := msk_test h
        exact ⟨e', List.mem_cons_of_mem _ h1, h2⟩
      · rw [Nat.testBit_two_pow] at h
        exact ⟨e, List.mem_cons_self .., hb, .inl (by simpa using h : e.on = j).symm⟩
      · exact ⟨e, List.mem_cons_self .., hb, .inr h⟩

/-- Whoever is listed, all that it waits for is listed. -/
def Closed (ops : Array Oper) (L : Nat → Bool) : Prop := ∀ i o, ops[i]? = some o → L i = true → ∀ e ∈ o.after, Region.binds .any e = true → L e.on = true

def Down (ops : Array Oper) : Prop := ∀ i o, ops[i]? = some o → ∀ e ∈ o.after, Region.binds .any e = true → e.on < i

theorem edgesOk_spec {ops : Array Oper} : ∀ {k : Nat}, edgesOk ops k = true → ∀ i o, i < k → ops[i]? = some o → ∀ e ∈ o.after, Region.binds .any e = true → e.on < i
  | 0, _, i, _, hi, _, _, _, _ => by omega
  | k + 1, h, i, o, hi, ho, e, he, hb => by
    simp only [edgesOk, Bool.and_eq_true] at h
    by_cases hik : i < k
    · exact edgesOk_spec h.1 i o hik ho e he hb
    · have : i = k := by omega
      subst this
      have h2 := h.2
      rw [ho] at h2
      simp only [List.all_eq_true] at h2
      have := h2 e (by simpa using he)
      rw [hb] at this
      simpa using this

theorem mask_closed {ops : Array Oper} (hD : Down ops) {L : Nat → Bool} (hC : Closed ops L) : ∀ (i : Nat) (o : Oper), ops[i]? = some o → (∀ e ∈ o.after, Region.binds .any e = true → L e.on = true) → ∀ j, ((masks ops.toList []).getD i 0).testBit j = true → L j = true ∧ j < i := by
  intro i
  induction i using Nat.strongRecOn with
  | _ i ih =>
    intro o hi ho j hj
    have h3 := (masks_get ops.toList []).2.2 i o (by simpa using hi)
    simp only [List.length_nil, Nat.zero_add] at h3
    rw [h3] at hj
    obtain ⟨e, he, hb, h⟩ := msk_test hj
    have hmem : e ∈ o.after := by simpa using he
    have hLe := ho e hmem hb
    have hlt := hD i o hi e hmem hb
    rcases h with h | h
    · subst h; exact ⟨hLe, hlt⟩
    · have hN : i < ops.size := (Array.getElem?_eq_some_iff.1 hi).1
      have hg : ((masks ops.toList []).take i).getD e.on 0 = (masks ops.toList []).getD e.on 0 := by
        simp only [List.getD_eq_getElem?_getD, List.getElem?_take, if_pos hlt]
      rw [hg] at h
      have hoe : ops[e.on]? = some ops[e.on] := Array.getElem?_eq_getElem (by omega)
      obtain ⟨h1, h2⟩ := ih e.on hlt _ hoe (fun e' he' hb' => hC e.on _ hoe hLe e' he' hb') j h
      exact ⟨h1, by omega⟩

theorem pairsOk_spec {P : Program} {ops : Array Oper} {ms : List Nat} : ∀ {k : Nat}, pairsOk P ops ms k = true → ∀ i j oi oj, i < k → j < i → ops[i]? = some oi → ops[j]? = some oj → (ms.getD i 0).testBit j = true ∨ (Oper.apart ops oj oi = true ∧ (isW P oj && isW P oi) = false)
  | 0, _, i, _, _, _, hi, _, _, _ => by omega
  | k + 1, h, i, j, oi, oj, hi, hj, hoi, hoj => by
    simp only [pairsOk, Bool.and_eq_true] at h
    by_cases hik : i < k
    · exact pairsOk_spec h.1 i j oi oj hik hj hoi hoj
    · have : i = k := by omega
      subst this
      have h2 := h.2
      rw [hoi] at h2
      simp only [List.all_eq_true] at h2
      have := h2 j (List.mem_range.2 hj)
      rw [hoj] at this
      simp only [Bool.or_eq_true, Bool.and_eq_true, Bool.not_eq_true'] at this
      exact this.imp id (fun h => h)

/-! ### the frame when some operations have been carried out -/
def putT (d : Option Tmp) (v : PV) (tm : Nat → PV) : Nat → PV := match d with | none => tm | some t => fun i => cond (Nat.beq i t) v (tm i)

theorem putT_ne {d : Option Tmp} {v : PV} {tm : Nat → PV} {t : Nat} (h : d ≠ some t) : putT d v tm t = tm t := by
  cases d with
  | none => rfl
  | some t' =>
    simp only [putT]
    rw [show Nat.beq t t' = false from by rw [Bool.eq_false_iff]; intro e; exact h (by rw [Nat.eq_of_beq_eq_true e])]; rfl
theorem putT_eq {v : PV} {tm : Nat → PV} {t : Nat} : putT (some t) v tm t = v := by
  simp only [putT]; rw [show Nat.beq t t = true from Nat.beq_refl t]; rfl

section
variable (ops : Array Oper) (S : Nat → St) (P : Program)

def valAt (i : Nat) : PV := match ops[i]? with
  | some o => match o.dst with
    | some t => (S (i + 1)).tm t
    | none => anyV
  | none => anyV
def dstAt (i : Nat) : Option Tmp := (ops[i]?).bind (·.dst)
def wrAt (i : Nat) : Bool := match ops[i]? with | some o => isW P o | none => false

def tmD (L : Nat → Bool) : Nat → Nat → PV
  | 0 => (S 0).tm
  | i + 1 => if L i = true then putT (dstAt ops i) (valAt ops S i) (tmD L i) else tmD L i

/-- The first write that hasn't been carried out. -/
def pFrom (L : Nat → Bool) : Nat → Nat → Nat
  | 0, k => k
  | f + 1, k => if wrAt ops P k = true ∧ L k = false then k else pFrom L f (k + 1)
end

theorem pFrom_spec {ops : Array Oper} {P : Program} {L : Nat → Bool} : ∀ (f k : Nat), k ≤ pFrom ops P L f k ∧ pFrom ops P L f k ≤ k + f ∧ (∀ j, k ≤ j → j < pFrom ops P L f k → wrAt ops P j = true → L j = true) ∧ (pFrom ops P L f k < k + f → wrAt ops P (pFrom ops P L f k) = true ∧ L (pFrom ops P L f k) = false)
  | 0, k => ⟨Nat.le_refl _, Nat.le_refl _, fun j h1 h2 => by simp only [pFrom] at h2; omega, fun h => by simp only [pFrom] at h; omega⟩
  | f + 1, k => by
    simp only [pFrom]
    split
    · rename_i h
      exact ⟨Nat.le_refl _, by omega, fun j h1 h2 => by omega, fun _ => h⟩
    · rename_i h
      obtain ⟨h1, h2, h3, h4⟩ := pFrom_spec (ops := ops) (P := P) (L := L) f (k + 1)
      refine ⟨by omega, by omega, fun j hj1 hj2 hw => ?_, fun hlt => h4 (by omega)⟩
      by_cases hjk : j = k
      · subst hjk
        cases hL : L j with
        | true => rfl
        | false => exact absurd ⟨hw, hL⟩ h
      · exact h3 j (by omega) hj2 hw

def addL (L : Nat → Bool) (i : Nat) : Nat → Bool := fun k => cond (Nat.beq k i) true (L k)
theorem addL_same (L : Nat → Bool) (i : Nat) : addL L i i = true := by unfold addL; rw [show Nat.beq i i = true from Nat.beq_refl i]; rfl
theorem addL_ne (L : Nat → Bool) {i j : Nat} (h : j ≠ i) : addL L i j = L j := by
  unfold addL; rw [show Nat.beq j i = false from by rw [Bool.eq_false_iff]; intro e; exact h (Nat.eq_of_beq_eq_true e)]; rfl

/-- All that the exchange rests on. -/
structure Facts (P : Program) (O : Orc Rt) (n : Nat) (ops : Array Oper) (S : Nat → St) : Prop where
  down : Down ops
  pairs : ∀ (i j : Nat) (oi oj : Oper), j < i → ops[i]? = some oi → ops[j]? = some oj → ((masks ops.toList []).getD i 0).testBit j = true ∨ (Oper.apart ops oj oi = true ∧ (isW P oj && isW P oi) = false)
  step : ∀ (i : Nat) (o : Oper), ops[i]? = some o → OpTo P O n ops o (S i) (S (i + 1))
  rw : ∀ (i j : Nat) (oi oj : Oper), ops[i]? = some oi → ops[j]? = some oj → isR P oi = true → isW P oj = true → ((masks ops.toList []).getD i 0).testBit j = false → ((masks ops.toList []).getD j 0).testBit i = false → readOp P oi (S i).val (S j).ob = readOp P oi (S i).val (S (j + 1)).ob ∨ RwOk P O oi oj (S i) (S j) (S (j + 1))

def SD (P : Program) (ops : Array Oper) (S : Nat → St) (L : Nat → Bool) : St := ⟨tmD ops S L ops.size, (S (pFrom ops P L ops.size 0)).ob, (S (pFrom ops P L ops.size 0)).nx⟩

section
variable {P : Program} {O : Orc Rt} {n : Nat} {ops : Array Oper} {S : Nat → St} (F : Facts P O n ops S)
include F

theorem Facts.tm_step {i : Nat} {o : Oper} (hi : ops[i]? = some o) : (S (i + 1)).tm = putT (dstAt ops i) (valAt ops S i) (S i).tm := by
  obtain ⟨_, _, v, f, nx, h, _⟩ := F.step i o hi
  unfold dstAt valAt
  rw [hi, h]
  simp only [Option.bind_some, St.after, St.put]
  cases hd : o.dst with
  | none => rfl
  | some t =>
    simp only [putT]
    rw [show Nat.beq t t = true from Nat.beq_refl t]
    rfl

theorem Facts.ob_step {i : Nat} {o : Oper} (hi : ops[i]? = some o) (hw : isW P o = false) : (S (i + 1)).ob = (S i).ob ∧ (S (i + 1)).nx = (S i).nx := by
  obtain ⟨_, _, v, f, nx, h, h2⟩ := F.step i o hi
  rw [h]
  rcases h2 with ⟨_, h2, _⟩ | ⟨_, _, rfl, rfl⟩
  · unfold OpDid at h2
    unfold isW at hw
    split at h2
    · exact ⟨h2.1, h2.2.1⟩
    · exact ⟨h2.1, h2.2.1⟩
    · rename_i hk; rw [hk] at hw; cases hw
  · exact ⟨rfl, rfl⟩

theorem Facts.ob_same {a b : Nat} (hab : a ≤ b) (hb : b ≤ ops.size) (h : ∀ j, a ≤ j → j < b → wrAt ops P j = false) : (S b).ob = (S a).ob ∧ (S b).nx = (S a).nx := by
  induction b with
  | zero => rw [show a = 0 by omega]; exact ⟨rfl, rfl⟩
  | succ b ih =>
    by_cases hab' : a = b + 1
    · rw [hab']; exact ⟨rfl, rfl⟩
    · obtain ⟨h1, h2⟩ := ih (by omega) (by omega) (fun j h1 h2 => h j h1 (by omega))
      have hi : ops[b]? = some ops[b] := Array.getElem?_eq_getElem (by omega)
      have hw := h b (by omega) (by omega)
      unfold wrAt at hw
      rw [hi] at hw
      obtain ⟨h3, h4⟩ := F.ob_step hi hw
      exact ⟨h3.trans h1, h4.trans h2⟩

/-- An operation that comes up now sees what it saw in the text's order. -/
theorem Facts.sees {L : Nat → Bool} (hC : Closed ops L) {i : Nat} {o : Oper} (hi : ops[i]? = some o) (hL : L i = false) (hr : ∀ e ∈ o.after, Region.binds .any e = true → L e.on = true) {t : Nat} (ht : t ∈ o.looksAt ops ∨ o.dst = some t) :
    ∀ k, k ≤ ops.size → tmD ops S L k t = (S (min k i)).tm t := by
  have hlt : i < ops.size := (Array.getElem?_eq_some_iff.1 hi).1
  intro k
  induction k with
  | zero => intro _; simp [tmD]
  | succ k ih =>
    intro hk
    have ihk := ih (by omega)
    have hok : ops[k]? = some ops[k] := Array.getElem?_eq_getElem (by omega)
    -- who writes t is ordered against i
    have key : dstAt ops k = some t → k ≠ i → (k < i → L k = true) ∧ (i < k → L k = false) := fun hd hne => by
      have hdk : ops[k].dst = some t := by unfold dstAt at hd; rw [hok] at hd; exact hd
      refine ⟨fun h => ?_, fun h => ?_⟩
      · rcases F.pairs i k o _ h hi hok with hm | ⟨hap, _⟩
        · exact (mask_closed F.down hC i o hi hr k hm).1
        · obtain ⟨h1, h2, h3⟩ := Oper.apart_spec hap
          rcases ht with ht | ht
          · exact absurd ht (h1 t hdk)
          · exact absurd ht (h2 t hdk)
      · rcases F.pairs k i _ o h hok hi with hm | ⟨hap, _⟩
        · cases hLk : L k with
          | false => rfl
          | true =>
            have := (mask_closed F.down hC k _ hok (fun e he hb => hC k _ hok hLk e he hb) i hm).1
            rw [hL] at this; cases this
        · obtain ⟨h1, h2, h3⟩ := Oper.apart_spec hap
          rcases ht with ht | ht
          · exact absurd ht (h3 t hdk)
          · exact absurd hdk (h2 t ht)
    simp only [tmD]
    by_cases hd : dstAt ops k = some t
    · by_cases hki : k = i
      · subst hki
        rw [if_neg (by rw [hL]; simp), ihk, show min (k + 1) k = k by omega, show min k k = k by omega]
      · obtain ⟨h1, h2⟩ := key hd hki
        rcases Nat.lt_or_ge k i with h | h
        · rw [if_pos (h1 h), show min (k + 1) i = k + 1 by omega, F.tm_step hok, hd, putT_eq, putT_eq]
        · rw [if_neg (by rw [h2 (by omega)]; simp), ihk, show min (k + 1) i = min k i by omega]
    · have hsame : (if L k = true then putT (dstAt ops k) (valAt ops S k) (tmD ops S L k) else tmD ops S L k) t = tmD ops S L k t := by
        split
        · exact putT_ne hd
        · rfl
      rw [hsame, ihk]
      rcases Nat.lt_or_ge k i with h | h
      · rw [show min (k + 1) i = k + 1 by omega, show min k i = k by omega, F.tm_step hok, putT_ne hd]
      · rw [show min (k + 1) i = min k i by omega]

theorem Facts.put {L : Nat → Bool} (hC : Closed ops L) {i : Nat} {o : Oper} (hi : ops[i]? = some o) (hL : L i = false) :
    tmD ops S (addL L i) ops.size = putT (dstAt ops i) (valAt ops S i) (tmD ops S L ops.size) := by
  have hlt : i < ops.size := (Array.getElem?_eq_some_iff.1 hi).1
  have low : ∀ k, k ≤ i → tmD ops S (addL L i) k = tmD ops S L k := by
    intro k
    induction k with
    | zero => intro _; rfl
    | succ k ih =>
      intro hk
      simp only [tmD]
      rw [ih (by omega), addL_ne L (show k ≠ i by omega)]
  have high : ∀ k, i < k → k ≤ ops.size → tmD ops S (addL L i) k = putT (dstAt ops i) (valAt ops S i) (tmD ops S L k) := by
    intro k
    induction k with
    | zero => intro h; omega
    | succ k ih =>
      intro hk hks
      by_cases hki : k = i
      · subst hki
        simp only [tmD]
        rw [low k (Nat.le_refl _), addL_same, if_pos rfl, if_neg (by rw [hL]; simp)]
      · have hok : ops[k]? = some ops[k] := Array.getElem?_eq_getElem (by omega)
        simp only [tmD]
        rw [ih (by omega) (by omega), addL_ne L hki]
        by_cases hLk : L k = true
        · rw [if_pos hLk, if_pos hLk]
          -- they write different temporaries
          rcases F.pairs k i _ o (by omega) hok hi with hm | ⟨hap, _⟩
          · have := (mask_closed F.down hC k _ hok (fun e he hb => hC k _ hok hLk e he hb) i hm).1
            rw [hL] at this; cases this
          · obtain ⟨_, h2, _⟩ := Oper.apart_spec hap
            funext t
            by_cases h1 : dstAt ops k = some t
            · have hne : dstAt ops i ≠ some t := fun e => by
                unfold dstAt at h1 e
                rw [hok] at h1; rw [hi] at e
                exact h2 t e h1
              rw [h1, putT_eq, putT_ne hne, putT_eq]
            · rw [putT_ne h1]
              by_cases h3 : dstAt ops i = some t
              · rw [h3, putT_eq, putT_eq]
              · rw [putT_ne h3, putT_ne h3, putT_ne h1]
        · rw [if_neg hLk, if_neg hLk]
  exact high ops.size hlt (Nat.le_refl _)

/-- Writes come up in the text's order. -/
theorem Facts.writes {L : Nat → Bool} (hC : Closed ops L) {i j : Nat} {oi oj : Oper} (hi : ops[i]? = some oi) (hj : ops[j]? = some oj) (hw : isW P oi = true) (hw' : isW P oj = true) (hji : j < i) :
    (L i = true → L j = true) ∧ ((∀ e ∈ oi.after, Region.binds .any e = true → L e.on = true) → L j = true) := by
  rcases F.pairs i j oi oj hji hi hj with hm | ⟨_, h⟩
  · exact ⟨fun hL => (mask_closed F.down hC i oi hi (fun e he hb => hC i oi hi hL e he hb) j hm).1, fun hr => (mask_closed F.down hC i oi hi hr j hm).1⟩
  · rw [hw, hw'] at h; cases h

omit F in
theorem wrAt_some {i : Nat} (h : wrAt ops P i = true) : ∃ o, ops[i]? = some o ∧ isW P o = true := by
  unfold wrAt at h
  split at h
  · rename_i o ho; exact ⟨o, ho, h⟩
  · cases h

theorem Facts.at_write {L : Nat → Bool} (hC : Closed ops L) {i : Nat} {o : Oper} (hi : ops[i]? = some o) (hL : L i = false) (hr : ∀ e ∈ o.after, Region.binds .any e = true → L e.on = true) (hw : isW P o = true) :
    pFrom ops P L ops.size 0 = i := by
  have hlt : i < ops.size := (Array.getElem?_eq_some_iff.1 hi).1
  obtain ⟨h1, h2, h3, h4⟩ := pFrom_spec (ops := ops) (P := P) (L := L) ops.size 0
  have hwi : wrAt ops P i = true := by unfold wrAt; rw [hi]; exact hw
  rcases Nat.lt_trichotomy (pFrom ops P L ops.size 0) i with h | h | h
  · obtain ⟨h5, h6⟩ := h4 (by omega)
    obtain ⟨o2, ho2, hw2⟩ := wrAt_some h5
    have := (F.writes hC hi ho2 hw hw2 h).2 hr
    rw [h6] at this; cases this
  · exact h
  · have := h3 i (by omega) h hwi
    rw [hL] at this; cases this

theorem Facts.after_write {L : Nat → Bool} (hC : Closed ops L) {i : Nat} {o : Oper} (hi : ops[i]? = some o) (hL : L i = false) (hr : ∀ e ∈ o.after, Region.binds .any e = true → L e.on = true) (hw : isW P o = true) :
    (S (pFrom ops P (addL L i) ops.size 0)).ob = (S (i + 1)).ob ∧ (S (pFrom ops P (addL L i) ops.size 0)).nx = (S (i + 1)).nx := by
  have hlt : i < ops.size := (Array.getElem?_eq_some_iff.1 hi).1
  have hp := F.at_write hC hi hL hr hw
  obtain ⟨a1, a2, a3, a4⟩ := pFrom_spec (ops := ops) (P := P) (L := L) ops.size 0
  obtain ⟨h1, h2, h3, h4⟩ := pFrom_spec (ops := ops) (P := P) (L := addL L i) ops.size 0
  generalize hq : pFrom ops P (addL L i) ops.size 0 = q at h1 h2 h3 h4 ⊢
  have hqi : i < q := by
    rcases Nat.lt_or_ge i q with h | h
    · exact h
    · obtain ⟨h5, h6⟩ := h4 (by omega)
      by_cases e : q = i
      · rw [e, addL_same] at h6; cases h6
      · rw [addL_ne L e] at h6
        have := a3 q (by omega) (by omega) h5
        rw [h6] at this; cases this
  refine F.ob_same (by omega) (by omega) (fun j hj1 hj2 => ?_)
  cases hwj : wrAt ops P j with
  | false => rfl
  | true =>
    have := h3 j (by omega) hj2 hwj
    rw [addL_ne L (show j ≠ i by omega)] at this
    obtain ⟨o2, ho2, hw2⟩ := wrAt_some hwj
    have := (F.writes hC ho2 hi hw2 hw (by omega)).1 this
    rw [hL] at this; cases this

omit F in
theorem no_write {L : Nat → Bool} {i : Nat} {o : Oper} (hi : ops[i]? = some o) (hw : isW P o = false) :
    pFrom ops P (addL L i) ops.size 0 = pFrom ops P L ops.size 0 := by
  have : ∀ f k, pFrom ops P (addL L i) f k = pFrom ops P L f k := by
    intro f
    induction f with
    | zero => intro k; rfl
    | succ f ih =>
      intro k
      simp only [pFrom]
      by_cases hki : k = i
      · subst hki
        have hwk : wrAt ops P k = false := by unfold wrAt; rw [hi]; exact hw
        rw [if_neg (by rw [hwk]; simp), if_neg (by rw [hwk]; simp)]
        exact ih _
      · rw [addL_ne L hki, ih]
  exact this _ _

/-- What a read that comes up now sees. -/
theorem Facts.reads {L : Nat → Bool} (hC : Closed ops L) {i : Nat} {o : Oper} (hi : ops[i]? = some o) (hL : L i = false) (hr : ∀ e ∈ o.after, Region.binds .any e = true → L e.on = true) (hR : isR P o = true) :
    readOp P o (S i).val (S (pFrom ops P L ops.size 0)).ob = readOp P o (S i).val (S i).ob := by
  have hlt : i < ops.size := (Array.getElem?_eq_some_iff.1 hi).1
  obtain ⟨h1, h2, h3, h4⟩ := pFrom_spec (ops := ops) (P := P) (L := L) ops.size 0
  generalize pFrom ops P L ops.size 0 = p at h1 h2 h3 h4 ⊢
  -- across a write that isn't ordered
  have across : ∀ j, j < ops.size → (wrAt ops P j = true → ((masks ops.toList []).getD i 0).testBit j = false ∧ ((masks ops.toList []).getD j 0).testBit i = false) → readOp P o (S i).val (S j).ob = readOp P o (S i).val (S (j + 1)).ob := fun j hj hun => by
    have hoj : ops[j]? = some ops[j] := Array.getElem?_eq_getElem hj
    cases hw : wrAt ops P j with
    | false =>
      unfold wrAt at hw
      rw [hoj] at hw
      rw [(F.ob_step hoj hw).1]
    | true =>
      obtain ⟨h5, h6⟩ := hun hw
      have hw2 : isW P ops[j] = true := by unfold wrAt at hw; rw [hoj] at hw; exact hw
      rcases F.rw i j o _ hi hoj hR hw2 h5 h6 with h | h
      · exact h
      · rcases h with h | h
        · unfold rwFar at h
          simp only [List.all_eq_true, Bool.and_eq_true, Bool.not_eq_true'] at h
          obtain ⟨_, _, v, f, nx, hst, h7⟩ := F.step j _ hoj
          refine (readOp_congr fun x hx => ?_).symm
          obtain ⟨h8, h9⟩ := h x hx
          rw [hst]
          rcases h7 with ⟨_, _, hag⟩ | ⟨_, _, rfl, _⟩
          · exact hag x (Nat.le_of_ble_eq_true h8) (fun hm => by rw [elemB_mem.2 hm] at h9; cases h9)
          · rfl
        · exact h
  have chain : ∀ a b, a ≤ b → b ≤ ops.size → (∀ j, a ≤ j → j < b → wrAt ops P j = true → ((masks ops.toList []).getD i 0).testBit j = false ∧ ((masks ops.toList []).getD j 0).testBit i = false) → readOp P o (S i).val (S a).ob = readOp P o (S i).val (S b).ob := by
    intro a b
    induction b with
    | zero => intro hab _ _; rw [show a = 0 by omega]
    | succ b ih =>
      intro hab hb h
      by_cases e : a = b + 1
      · rw [e]
      · exact (ih (by omega) (by omega) (fun j h1 h2 => h j h1 (by omega))).trans (across b (by omega) (h b (by omega) (by omega)))
  have hbit : ∀ a b, a ≤ b → b < ops.size → ((masks ops.toList []).getD a 0).testBit b = false := fun a b hab hb => by
    cases hm : ((masks ops.toList []).getD a 0).testBit b with
    | false => rfl
    | true =>
      have hoa : ops[a]? = some ops[a] := Array.getElem?_eq_getElem (by omega)
      have := (mask_closed F.down (L := fun _ => true) (fun _ _ _ _ _ _ _ => rfl) a _ hoa (fun _ _ _ => rfl) b hm).2
      omega
  rcases Nat.lt_or_ge i p with h | h
  · -- writes from i on that were carried out
    refine (chain i p (by omega) (by omega) (fun j hj1 hj2 hw => ⟨hbit i j (by omega) (by omega), ?_⟩)).symm
    cases hm : ((masks ops.toList []).getD j 0).testBit i with
    | false => rfl
    | true =>
      have hLj := h3 j (by omega) hj2 hw
      have hoj : ops[j]? = some ops[j] := Array.getElem?_eq_getElem (by omega)
      have := (mask_closed F.down hC j _ hoj (fun e he hb => hC j _ hoj hLj e he hb) i hm).1
      rw [hL] at this; cases this
  · refine chain p i h (by omega) (fun j hj1 hj2 hw => ⟨?_, hbit j i (by omega) hlt⟩)
    cases hm : ((masks ops.toList []).getD i 0).testBit j with
    | false => rfl
    | true =>
      have hLj := (mask_closed F.down hC i o hi hr j hm).1
      obtain ⟨h5, h6⟩ := h4 (by omega)
      by_cases e : j = p
      · rw [e, h6] at hLj; cases hLj
      · obtain ⟨o2, ho2, hw2⟩ := wrAt_some hw
        obtain ⟨o3, ho3, hw3⟩ := wrAt_some h5
        have := (F.writes hC ho2 ho3 hw2 hw3 (by omega)).1 hLj
        rw [h6] at this; cases this
end

def Lof (listed : Array Bool) : Nat → Bool := fun i => listed.getD i false

theorem Lof_set {listed : Array Bool} {i : Nat} (h : i < listed.size) : Lof (listed.setIfInBounds i true) = addL (Lof listed) i := by
  funext k
  unfold Lof addL
  by_cases e : k = i
  · subst e; rw [show Nat.beq k k = true from Nat.beq_refl k]; simp [h]
  · rw [show Nat.beq k i = false from by rw [Bool.eq_false_iff]; intro e2; exact e (Nat.eq_of_beq_eq_true e2)]
    simp [Array.getD_eq_getD_getElem?, Array.getElem?_setIfInBounds_ne (Ne.symm e)]

def cnt (L : Nat → Bool) : Nat → Nat
  | 0 => 0
  | k + 1 => cnt L k + (if L k = true then 0 else 1)

theorem cnt_add {L : Nat → Bool} {i : Nat} (hL : L i = false) (k : Nat) : (k ≤ i → cnt (addL L i) k = cnt L k) ∧ (i < k → cnt (addL L i) k + 1 = cnt L k) := by
  induction k with
  | zero => exact ⟨fun _ => rfl, fun h => by omega⟩
  | succ k ih =>
    obtain ⟨h1, h2⟩ := ih
    simp only [cnt]
    refine ⟨fun h => by rw [h1 (by omega), addL_ne L (show k ≠ i by omega)], fun h => ?_⟩
    by_cases e : k = i
    · subst e
      rw [h1 (Nat.le_refl _), addL_same, hL]; simp
    · have := h2 (by omega)
      rw [addL_ne L e]; omega

theorem cnt_zero {L : Nat → Bool} : ∀ {k : Nat}, cnt L k = 0 → ∀ i, i < k → L i = true
  | 0, _, i, hi => by omega
  | k + 1, h, i, hi => by
    simp only [cnt] at h
    have hk : L k = true := by
      cases hL : L k with
      | true => rfl
      | false => rw [hL] at h; simp at h
    by_cases e : i = k
    · rw [e]; exact hk
    · exact cnt_zero (k := k) (by omega) i (by omega)

theorem mem_ready' {ops : Array Oper} {listed : Array Bool} (hs : listed.size = ops.size) {i : Nat} : i ∈ Region.ready .any ops listed ↔ ∃ o, ops[i]? = some o ∧ Lof listed i = false ∧ ∀ e ∈ o.after, Region.binds .any e = true → Lof listed e.on = true := by
  unfold Region.ready
  rw [List.mem_filter, List.mem_range]
  constructor
  · rintro ⟨hi, h⟩
    have hoi : ops[i]? = some ops[i] := Array.getElem?_eq_getElem hi
    rw [hoi] at h
    simp only [Bool.and_eq_true, Bool.not_eq_true', Option.map_some, Option.getD_some, Array.all_eq_true_iff_forall_mem, Bool.or_eq_true] at h
    refine ⟨_, hoi, ?_, fun e he hb => ?_⟩
    · unfold Lof
      have hl := h.1
      simp only [Array.getD_eq_getD_getElem?, Array.getElem?_eq_getElem (show i < listed.size by omega), Option.getD_some] at hl ⊢
      exact hl
    · rcases h.2 e he with h2 | h2
      · rw [hb] at h2; cases h2
      · exact h2
  · rintro ⟨o, ho, hl, he⟩
    have hi := (Array.getElem?_eq_some_iff.1 ho).1
    refine ⟨hi, ?_⟩
    rw [ho]
    simp only [Bool.and_eq_true, Bool.not_eq_true', Option.map_some, Option.getD_some, Array.all_eq_true_iff_forall_mem, Bool.or_eq_true]
    refine ⟨?_, fun e hm => ?_⟩
    · unfold Lof at hl
      simp only [Array.getD_eq_getD_getElem?, Array.getElem?_eq_getElem (show i < listed.size by omega), Option.getD_some] at hl ⊢
      exact hl
    · cases hb : Region.binds .any e with
      | false => exact .inl rfl
      | true => exact .inr (he e hm hb)

theorem ready_nil {ops : Array Oper} (hD : Down ops) {listed : Array Bool} (hs : listed.size = ops.size) (h : Region.ready .any ops listed = []) : ∀ i, i < ops.size → Lof listed i = true := by
  intro i
  induction i using Nat.strongRecOn with
  | _ i ih =>
    intro hi
    cases hL : Lof listed i with
    | true => rfl
    | false =>
      have hoi : ops[i]? = some ops[i] := Array.getElem?_eq_getElem hi
      have : i ∈ Region.ready .any ops listed := (mem_ready' hs).2 ⟨_, hoi, hL, fun e he hb => ih e.on (hD i _ hoi e he hb) (by have := hD i _ hoi e he hb; omega)⟩
      rw [h] at this; cases this

section
variable {P : Program} {O : Orc Rt} {n : Nat} {ops : Array Oper} {S : Nat → St}

theorem SD_full (F : Facts P O n ops S) {L : Nat → Bool} (hL : ∀ i, i < ops.size → L i = true) : SD P ops S L = S ops.size := by
  have h1 : ∀ k, k ≤ ops.size → tmD ops S L k = (S k).tm := by
    intro k
    induction k with
    | zero => intro _; rfl
    | succ k ih =>
      intro hk
      have hok : ops[k]? = some ops[k] := Array.getElem?_eq_getElem (by omega)
      simp only [tmD]
      rw [if_pos (hL k (by omega)), ih (by omega), F.tm_step hok]
  obtain ⟨a1, a2, a3, a4⟩ := pFrom_spec (ops := ops) (P := P) (L := L) ops.size 0
  have hp : pFrom ops P L ops.size 0 = ops.size := by
    rcases Nat.lt_or_ge (pFrom ops P L ops.size 0) ops.size with h | h
    · have := (a4 (by omega)).2
      rw [hL _ h] at this; cases this
    · omega
  unfold SD
  rw [hp, h1 _ (Nat.le_refl _)]

theorem SD_none (F : Facts P O n ops S) {L : Nat → Bool} (hL : ∀ i, L i = false) : SD P ops S L = S 0 := by
  have h1 : ∀ k, tmD ops S L k = (S 0).tm := by
    intro k
    induction k with
    | zero => rfl
    | succ k ih => simp only [tmD]; rw [if_neg (by rw [hL]; simp), ih]
  obtain ⟨a1, a2, a3, a4⟩ := pFrom_spec (ops := ops) (P := P) (L := L) ops.size 0
  have h2 := F.ob_same (Nat.zero_le (pFrom ops P L ops.size 0)) (by omega) (fun j _ hj => by
    cases hw : wrAt ops P j with
    | false => rfl
    | true => have := a3 j (Nat.zero_le _) hj hw; rw [hL] at this; cases this)
  unfold SD
  rw [h1, h2.1, h2.2]

theorem step_SD (F : Facts P O n ops S) {L : Nat → Bool} (hC : Closed ops L) {i : Nat} {o : Oper} (hi : ops[i]? = some o) (hL : L i = false) (hr : ∀ e ∈ o.after, Region.binds .any e = true → L e.on = true) {E : Env} {φ : Phi} {A : Nat → Prop} {a : Act} {w : World}
    (hR : R E n φ A (SD P ops S L) a w) {Q : Exit → Act → World → Prop} {K : Act → World → Prop} (hK : ∀ φ' A' a' w', R E n φ' A' (SD P ops S (addL L i)) a' w' → K a' w') : Go.wpOp P ops Q i K a w := by
  have hlt : i < ops.size := (Array.getElem?_eq_some_iff.1 hi).1
  have hsee : ∀ t, (t ∈ o.looksAt ops ∨ o.dst = some t) → (SD P ops S L).tm t = (S i).tm t := fun t ht => by
    have := F.sees hC hi hL hr ht ops.size (Nat.le_refl _)
    rw [Nat.min_eq_right (by omega)] at this
    exact this
  have hval : ∀ x ∈ o.op.operands, (SD P ops S L).val x = (S i).val x := fun x hx => by
    cases x with
    | tmp t =>
      refine hsee t (.inl ?_)
      unfold Oper.looksAt
      exact List.mem_append_left _ (List.mem_filterMap.2 ⟨.tmp t, by simpa using hx, rfl⟩)
    | const v => rfl
    | global g => rfl
    | func f => rfl
  have hwant : wantedA ops o (SD P ops S L).tm = wantedA ops o (S i).tm := by
    unfold wantedA
    cases hg : o.guard with
    | none => rfl
    | some jw =>
      obtain ⟨j, want⟩ := jw
      simp only []
      cases ht : (ops[j]?).bind (·.dst) with
      | none => rfl
      | some t =>
        simp only []
        rw [hsee t (.inl (by unfold Oper.looksAt; rw [hg]; simp only [ht]; exact List.mem_append_right _ (by simp)))]
  obtain ⟨hd, hn, v, f, nx, hst, hcase⟩ := F.step i o hi
  have hput : ∀ u, (o.dst ≠ none → u = v) → ∀ f' nx', (f' = (SD P ops S (addL L i)).ob) → (nx' = (SD P ops S (addL L i)).nx) → (SD P ops S L).after o u f' nx' = SD P ops S (addL L i) := fun u hu f' nx' hf hx => by
    have htm : ((SD P ops S L).put o.dst u).tm = (SD P ops S (addL L i)).tm := by
      show _ = tmD ops S (addL L i) ops.size
      rw [F.put hC hi hL]
      unfold dstAt valAt
      rw [hi]
      simp only [Option.bind_some]
      cases hdd : o.dst with
      | none => rfl
      | some t =>
        have hvt : (S (i + 1)).tm t = v := by
          rw [hst]; simp only [St.after, St.put, hdd]
          rw [show Nat.beq t t = true from Nat.beq_refl t]; rfl
        simp only []
        rw [hvt, hu (by rw [hdd]; simp)]
        rfl
    unfold St.after
    rw [htm, hf, hx]
  cases hw : isW P o with
  | true =>
    have hp := F.at_write hC hi hL hr hw
    obtain ⟨h1, h2⟩ := F.after_write hC hi hL hr hw
    have hob : (SD P ops S L).ob = (S i).ob := by show (S (pFrom ops P L ops.size 0)).ob = _; rw [hp]
    have hnx : (SD P ops S L).nx = (S i).nx := by show (S (pFrom ops P L ops.size 0)).nx = _; rw [hp]
    have hf : f = (SD P ops S (addL L i)).ob := by show f = (S _).ob; rw [h1, hst]; rfl
    have hx : nx = (SD P ops S (addL L i)).nx := by show nx = (S _).nx; rw [h2, hst]; rfl
    refine OpW.wpOp hi hR hd hn hval (v := v) (f := f) (nx := nx) ?_ (fun φ' A' a' w' hR' => hK φ' A' a' w' (by rw [← hput v (fun _ => rfl) f nx hf hx]; exact hR'))
    rw [hwant, hob, hnx]
    exact hcase.imp (fun ⟨a, b, _⟩ => ⟨a, b.opW⟩) id
  | false =>
    have hp := no_write (P := P) (L := L) hi hw
    have hf : (SD P ops S L).ob = (SD P ops S (addL L i)).ob := by show (S _).ob = (S _).ob; rw [hp]
    have hx : (SD P ops S L).nx = (SD P ops S (addL L i)).nx := by show (S _).nx = (S _).nx; rw [hp]
    refine OpW.wpOp hi hR hd hn hval (v := v) (f := (SD P ops S L).ob) (nx := (SD P ops S L).nx) ?_ (fun φ' A' a' w' hR' => hK φ' A' a' w' (by rw [← hput v (fun _ => rfl) _ _ hf hx]; exact hR'))
    rw [hwant]
    rcases hcase with ⟨h1, h2, _⟩ | ⟨h1, h2, _, _⟩
    · refine .inl ⟨h1, ?_⟩
      unfold OpDid at h2
      unfold isW at hw
      split at h2
      · exact h2.2.2 _ _
      · rename_i hk
        have hrd : isR P o = true := by unfold isR; rw [hk]
        have := F.reads hC hi hL hr hrd
        rw [h2.2.2] at this
        exact (readOp_sound this).opW _
      · rename_i hk; rw [hk] at hw; cases hw
    · exact .inr ⟨h1, h2, rfl, rfl⟩

theorem draw_any (F : Facts P O n ops S) {E : Env} {Q : Exit → Act → World → Prop} (hQ : ∀ φ A a w, R E n φ A (S ops.size) a w → Q .normal a w) : ∀ (fuel : Nat) (listed : Array Bool) (φ : Phi) (A : Nat → Prop) (a : Act) (w : World),
    listed.size = ops.size → cnt (Lof listed) ops.size ≤ fuel → Closed ops (Lof listed) → R E n φ A (SD P ops S (Lof listed)) a w → wpAny P .any ops Q fuel listed a w := by
  intro fuel
  induction fuel with
  | zero =>
    intro listed φ A a w hs hc hC hR
    have hall := cnt_zero (Nat.le_zero.1 hc)
    rw [SD_full F hall] at hR
    refine ⟨?_, hQ φ A a w hR⟩
    cases hr : Region.ready .any ops listed with
    | nil => rfl
    | cons i l =>
      obtain ⟨o, ho, hL, _⟩ := (mem_ready' hs (i := i)).1 (by rw [hr]; exact List.mem_cons_self ..)
      rw [hall i (Array.getElem?_eq_some_iff.1 ho).1] at hL; cases hL
  | succ fuel ih =>
    intro listed φ A a w hs hc hC hR
    refine ⟨fun hr => ?_, fun i hi => ?_⟩
    · have hall := ready_nil F.down hs hr
      rw [SD_full F hall] at hR
      exact hQ φ A a w hR
    · obtain ⟨o, ho, hL, he⟩ := (mem_ready' hs).1 hi
      have hlt : i < ops.size := (Array.getElem?_eq_some_iff.1 ho).1
      refine step_SD F hC ho hL he hR (fun φ' A' a' w' hR' => ?_)
      have hset := Lof_set (listed := listed) (i := i) (by omega)
      refine ih _ φ' A' a' w' (by simpa using hs) ?_ ?_ (by rw [hset]; exact hR')
      · rw [hset]; have := (cnt_add hL ops.size).2 hlt; omega
      · rw [hset]
        intro j oj hj hLj e hm hb
        by_cases hji : j = i
        · subst hji
          rw [ho] at hj; simp only [Option.some.injEq] at hj; subst hj
          by_cases h2 : e.on = j
          · rw [h2]; exact addL_same ..
          · rw [addL_ne _ h2]; exact he e hm hb
        · rw [addL_ne _ hji] at hLj
          by_cases h2 : e.on = i
          · rw [h2]; exact addL_same ..
          · rw [addL_ne _ h2]; exact hC j oj hj hLj e hm hb
end

theorem evDraw_sound {P : Program} {O : Orc Rt} (hO : OrcOk P O) (hm : P.follows .mixedOrders = true) {n : Nat} {ops : Array Oper} {s : St} {K : St → Option Rt} {r : Rt} (h : evDraw P O n ops s K = some r) {E : Env} {φ : Phi} {A : Nat → Prop} {a : Act} {w : World}
    (hR : R E n φ A s a w) {Q : Exit → Act → World → Prop} (hK : ∀ s φ A a w, K s = some r → R E n φ A s a w → Q .normal a w) {id : Nat} : (Code.region id ops true).wp P Q a w := by
  unfold evDraw at h
  cases hc : (edgesOk ops ops.size && pairsOk P ops (masks ops.toList []) ops.size && noSel ops) with
  | false => rw [hc] at h; cases h
  | true =>
    rw [hc] at h; simp only [cond] at h
    simp only [Bool.and_eq_true] at hc
    obtain ⟨S, e, h1, hch⟩ := evLog_sound hO h
    cases hrw : rwAll P O ops (masks ops.toList []) S s with
    | none => rw [hrw] at h1; cases h1
    | some lb =>
      rw [hrw] at h1; simp only at h1
      obtain ⟨hlb, h1⟩ := alls_spec h1
      have F : Facts P O n ops (fun i => S.getD i s) := by
        exact ⟨fun i o ho => edgesOk_spec hc.1.1 i o (Array.getElem?_eq_some_iff.1 ho).1 ho, fun i j oi oj hji hi hj => pairsOk_spec hc.1.2 i j oi oj (Array.getElem?_eq_some_iff.1 hi).1 hji hi hj, fun i o ho => hch.step i o (by simpa using ho), fun i j oi oj hi hj hri hwj h5 h6 => .inr (rwAll_spec hrw hlb hi hj hri hwj h5 h6)⟩
      have hend : S.getD ops.size s = e := by
        have := hch.last (d := s)
        simpa using this
      have h0 : S.getD 0 s = s := hch.head
      refine wp_region_any hm (draw_any F (fun φ A a w hR => hK e φ A a w h1 (by rw [hend] at hR; exact hR)) _ _ φ A a _ (by simp) ?_ ?_ ?_)
      · have hle : ∀ (L : Nat → Bool) k, cnt L k ≤ k := fun L k => by
          induction k with
          | zero => exact Nat.le_refl _
          | succ k ih => simp only [cnt]; split <;> omega
        exact hle _ _
      · intro i o ho hL
        exfalso
        unfold Lof at hL
        simp [Array.getD_eq_getD_getElem?, Array.getElem?_replicate] at hL
        split at hL <;> simp at hL
      · rw [SD_none F (fun i => by
          unfold Lof
          simp only [Array.getD_eq_getD_getElem?, Array.getElem?_replicate]
          split <;> rfl)]
        rw [h0]
        have hx : Ext φ φ A A w { w with drawn := w.drawn + 1 } := ⟨fun _ _ h => h, Nat.le_refl _, fun _ _ h => h, fun _ _ _ => rfl⟩
        exact ⟨hR.defers, hR.size, fun t => (hR.tm t).ext hx, ⟨fun o x ho => by
          obtain ⟨b, hb, hrel, hreg⟩ := hR.obs.ob o x ho
          exact ⟨b, hb, RelOb.ext hx (fun hOw => ⟨(hR.obs.lt ho hb hOw).2, rfl⟩) hrel, hreg⟩, hR.obs.inj, hR.obs.nx⟩, ⟨hR.frm.size, hR.frm.heap, hR.frm.out, hR.frm.keep, hR.frm.os, hR.frm.tape, hR.frm.output⟩, hR.inc⟩
end Go.Ev
