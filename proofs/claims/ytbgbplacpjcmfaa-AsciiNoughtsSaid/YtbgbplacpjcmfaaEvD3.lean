/- Part of a proof about the given program: EvD3. -/
import Derived.Test.YtbgbplacpjcmfaaEvD2
import Derived.Test.YtbgbplacpjcmfaaEvF
namespace Go.Ev
variable {Rt : Type}

/-! # Data, cell by cell; an element of an array that is no variable -/
def toSegs : (s : Shape) → den s → List Seg
  | .int k, n => [.lf (.sc (.int k n))]
  | .bool, b => [.lf (.sc (.bool b))]
  | .str, s => [.lf (.sc (.string s))]
  | .pair a b, x => toSegs a x.1 ++ toSegs b x.2
  | .slice a, xs => [.lf (.sl a xs none)]

theorem toSegs_rel {φ : Phi} {A : Nat → Prop} {w : World} : ∀ {s : Shape} {d : den s} {vs : List Value}, RelD A w s d vs → RelG φ A w (toSegs s d) vs
  | .int _, _, vs, h => ⟨vs, [], (List.append_nil _).symm, ⟨_, h, by simp [RelL]⟩, rfl⟩
  | .bool, _, vs, h => ⟨vs, [], (List.append_nil _).symm, ⟨_, h, by simp [RelL]⟩, rfl⟩
  | .str, _, vs, h => ⟨vs, [], (List.append_nil _).symm, ⟨_, h, by simp [RelL]⟩, rfl⟩
  | .pair a b, d, vs, ⟨v1, v2, e, h1, h2⟩ => by
    rw [e]; exact RelG.append (toSegs_rel h1) (toSegs_rel h2)
  | .slice a, d, vs, ⟨ad, c, e, hl, hr⟩ => ⟨vs, [], (List.append_nil _).symm, ⟨_, e, by simp only [RelL]; exact ⟨ad, c, rfl, (fun _ h => by cases h), hl, hr⟩⟩, rfl⟩

theorem Lift.get {α : Type} {R : α → List Value → Prop} {n : Nat} (hR : ∀ x v, R x v → v.length = n) : ∀ {xs : List α} {vs : List Value} {i : Nat} (d : α), Lift R xs vs → i < xs.length →
    ∃ v1 v2 v3, vs = v1 ++ v2 ++ v3 ∧ v1.length = i * n ∧ R (xs.getD i d) v2
  | [], _, _, _, _, hi => by simp at hi
  | x :: xs, _, 0, d, ⟨v1, v2, e, h1, _⟩, _ => ⟨[], v1, v2, by rw [e]; rfl, by simp, by simpa using h1⟩
  | x :: xs, _, i + 1, d, ⟨v1, v2, e, h1, h2⟩, hi => by
    obtain ⟨u1, u2, u3, e', hl, hr⟩ := Lift.get hR d h2 (by simpa using hi)
    refine ⟨v1 ++ u1, u2, u3, by rw [e, e']; simp only [List.append_assoc], ?_, by simpa using hr⟩
    rw [List.length_append, hR _ _ h1, hl, Nat.succ_mul, Nat.add_comm]


/-- A part of more cells. -/
theorem part_mid {P : Program} {t : TypeId} {ti : TypeInfo} (hi : P.info? t = some ti) {v1 v2 v3 : List Value} (hl : v2.length = ti.size) (h0 : 0 < v2.length) {w : World} {mv : Value} (h : (part t ⟨v2⟩ 0).run P w = .ok mv w) :
    (part t ⟨v1 ++ v2 ++ v3⟩ v1.length).run P w = .ok mv w := by
  unfold part at h ⊢
  rw [run_bind'] at h ⊢
  cases ha : (isAgg t).run P w with
  | ok b w1 =>
    rw [ha] at h
    simp only [] at h ⊢
    cases b with
    | true =>
      simp only [if_true] at h ⊢
      rw [run_bind', run_size hi] at h ⊢
      have e : ((⟨v1 ++ v2 ++ v3⟩ : Array Value).extract v1.length (v1.length + ti.size)) = ((⟨v2⟩ : Array Value).extract 0 (0 + ti.size)) := by
        apply Array.ext'
        simp [← hl]
      simp only [e]
      exact h
    | false =>
      simp only [Bool.false_eq_true, if_false] at h ⊢
      have e : (⟨v1 ++ v2 ++ v3⟩ : Array Value)[v1.length]? = (⟨v2⟩ : Array Value)[0]? := by
        simp [List.getElem?_append, h0]
      rw [e]
      exact h
  | _ => rw [ha] at h; cases h

def evIndexA (P : Program) (t : TypeId) (p q : PV) (K : PV → Option Rt) : Option Rt :=
  match p with
  | .agg [.many s xs n] => match q with
    | .lf (.sc (.int _ i)) => match P.underlying t with
      | some (.array m e) => match P.info? e with
        | some ei => cond (Nat.beq ei.size s.size && Nat.beq m n) (if 0 ≤ i then (if i < (m : Int) then (match partPV P e (toSegs s (xs.getD i.toNat (zero s))) 0 with | some v => K v | none => none) else none) else none) none
        | none => none
      | _ => none
    | _ => none
  | _ => evIndex P t p q K

theorem evIndexA_sound {P : Program} {o : Oper} {t : TypeId} {x y : Operand} (ho : o.op = .index t x y) {ρ : Operand → PV} {K : PV → Option Rt} {r : Rt}
    (h : evIndexA P t (ρ x) (ρ y) K = some r) : Pured P o ρ K r := by
  have hx : x ∈ o.op.operands := by rw [ho]; simp [Op.operands]
  have hy : y ∈ o.op.operands := by rw [ho]; simp [Op.operands]
  by_cases hsh : ∃ s xs n, ρ x = .agg [.many s xs n]
  · obtain ⟨s, xs, n, hp⟩ := hsh
    rw [hp] at h
    unfold evIndexA at h
    simp only [] at h
    split at h
    · rename_i k i hq
      split at h
      · rename_i m e hu
        split at h
        · rename_i ei hei
          cases hb : (Nat.beq ei.size s.size && Nat.beq m n) with
          | false => rw [hb] at h; cases h
          | true =>
            rw [hb] at h; simp only [cond] at h
            simp only [Bool.and_eq_true] at hb
            have h1 := Nat.eq_of_beq_eq_true hb.1
            have h2 := Nat.eq_of_beq_eq_true hb.2
            subst h2
            split at h
            · rename_i h3
              split at h
              · rename_i h4
                split at h
                · rename_i v hv
                  refine ⟨_, h, fun φ A w ρm hr => ?_⟩
                  have e1 := hr x hx; rw [hp] at e1; simp only [RelV] at e1
                  have e2 := hr y hy; rw [hq] at e2; simp only [RelV, RelL] at e2
                  obtain ⟨vs, e1, vm, vr, ev, ⟨hlen, hl⟩, hnil⟩ := e1
                  have hnil' : vr = [] := hnil
                  subst hnil'
                  rw [List.append_nil] at ev
                  subst ev
                  obtain ⟨v1, v2, v3, ev, hl1, hd⟩ := Lift.get (RelD.length A w s) (zero s) hl (i := i.toNat) (by omega)
                  obtain ⟨mv, hm, hmv⟩ := partPV_sound hv (toSegs_rel (φ := φ) hd) w
                  have hl2 := RelD.length A w s _ _ hd
                  refine ⟨mv, ?_, hmv⟩
                  unfold execOp; rw [ho]; simp only [e1, e2]
                  unfold Instr.index
                  simp only [run_bind', asIntOf, run_pure, run_und hu, h3, h4, and_self, if_true]
                  rw [run_size hei]
                  simp only []
                  rw [h1, ← hl1, ev]
                  rw [part_mid hei (by omega) (by have := Shape.size_pos s; omega) hm]
                · cases h
              · cases h
            · cases h
        · cases h
      · cases h
    · cases h
  · refine evIndex_sound ho ?_
    unfold evIndexA at h
    split at h
    · rename_i s xs n hp
      exact absurd ⟨s, xs, n, hp⟩ hsh
    · exact h
end Go.Ev
