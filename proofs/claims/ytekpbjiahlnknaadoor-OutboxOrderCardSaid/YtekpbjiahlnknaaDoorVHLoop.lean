/- Loops by a number that is no slot's. Its conditions: none. -/
import Derived.Test.YtekpbjiahlnknaaDoorVHCong
namespace Go.H
/-- A loop by what holds at its head, with a number beside it that each round lowers. -/
theorem loop_dec {P : Program} {c : Code} {Q : Exit → Env → Heap → Prop} {e : Env} {h : Heap} (I : Nat → Env → Heap → Prop) (n : Nat) (h0 : I n e h)
    (hround : ∀ n e h, I n e h → CodeH P c (thenH (fun e' h' => ∃ m, m < n ∧ I m e' h') Q) e h) : loopH (CodeH P c) Q e h := by
  intro X hX
  have key : ∀ n e h, I n e h → X e h := by
    intro n
    induction n using Nat.strongRecOn with
    | _ n ih =>
      intro e h hI
      exact hX _ _ (CodeH_mono c e h (thenH_mono (fun e' h' ⟨m, hm, hh⟩ => ih m hm e' h' hh) (fun _ _ _ h => h)) (hround n e h hI))
  exact key n e h h0
end Go.H
