/- Two values of a type: one, or not. Its conditions: values of plain types, of pointers and of errors' numbers. -/
import Derived.Test.YtekpbjiahlnknaaDoorVHLoop
namespace Go.H
set_option linter.unusedVariables false
section
variable {P : Program} {K : Value → Heap → Prop} {h : Heap}

def EqB (P : Program) (h : Heap) (d : Nat) (t : TypeId) (x y : Value) (b : Bool) : Prop := ∀ (Q : Bool → Heap → Prop), SemH P (Op.equalIn d t x y) Q h = Q b h

theorem intT_spec {t : TypeId} (h : (intT P t).isSome = true) : ∃ k, P.underlying t = some (.int k) := by
  unfold intT at h
  split at h
  · exact ⟨_, by assumption⟩
  · cases h
theorem EqB.int {d : Nat} {t : TypeId} (ht : (intT P t).isSome = true) (k : IntKind) (a b : Int) : EqB P h (d + 1) t (.int k a) (.int k b) (decide (a = b)) := by
  obtain ⟨k', hk⟩ := intT_spec ht
  intro Q
  unfold Op.equalIn
  simp only [SemH_bind, SemH_underlying, hk, oH_some]
  show Q (a == b) h = _
  rw [show (a == b) = decide (a = b) from by by_cases e : a = b <;> simp [e]]
def boolT (P : Program) (t : TypeId) : Bool := match P.underlying t with | some .bool => true | _ => false
theorem EqB.bool {d : Nat} {t : TypeId} (ht : boolT P t = true) (a b : Bool) : EqB P h (d + 1) t (.bool a) (.bool b) (a == b) := by
  unfold boolT at ht
  split at ht
  · rename_i hk
    intro Q
    unfold Op.equalIn
    simp only [SemH_bind, SemH_underlying, hk, oH_some]
    rfl
  · cases ht

theorem SemH_forIn {α : Type} (f : α → Bool) (body : α → MProd (Option Bool) PUnit → Sem (ForInStep (MProd (Option Bool) PUnit))) : ∀ (l : List α),
    (∀ x ∈ l, ∀ (Q : ForInStep (MProd (Option Bool) PUnit) → Heap → Prop), SemH P (body x ⟨none, ⟨⟩⟩) Q h = Q (if f x = true then .yield ⟨none, ⟨⟩⟩ else .done ⟨some false, ⟨⟩⟩) h) →
    ∀ (Q : MProd (Option Bool) PUnit → Heap → Prop), SemH P (forIn l ⟨none, ⟨⟩⟩ body) Q h = Q (if l.all f = true then ⟨none, ⟨⟩⟩ else ⟨some false, ⟨⟩⟩) h
  | [], _, Q => rfl
  | x :: l, hb, Q => by
    rw [List.forIn_cons, SemH_bind, hb x (by simp)]
    by_cases hf : f x = true
    · simp only [hf, if_true, List.all_cons, Bool.true_and]
      exact SemH_forIn f body l (fun y hy => hb y (by simp [hy])) Q
    · simp only [hf, if_false, Bool.false_eq_true, List.all_cons, Bool.false_and]
      simp only [Bool.not_eq_true] at hf
      rfl
end
end Go.H
